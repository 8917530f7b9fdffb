/- The walk of RulesKeeps. -/
import Derived.Test.YtnacklbaphobbaaGreatDoorU28
import Derived.Test.YtnacklbaphobbaaGreatDoorU23
set_option linter.unusedSimpArgs false
set_option linter.unusedVariables false
namespace Go.Proofs.YtnacklbaphobbaaGreatDoor
open Go.RowKit

def incP (p : Pha) : Pha := { p with fr := IntKind.i64.wrap (p.fr + 1) }
def incK (k : Nat) (l : List Pha) : List Pha := (l.take k).map incP ++ l.drop k
theorem incK_zero (l : List Pha) : incK 0 l = l := by simp [incK]
theorem incK_all (l : List Pha) : incK l.length l = l.map incP := by simp [incK]
theorem incK_len (k : Nat) (l : List Pha) (h : k ≤ l.length) : (incK k l).length = l.length := by simp [incK]; omega
theorem incK_get (k : Nat) (l : List Pha) (h : k < l.length) : (incK k l)[k]'(by rw [incK_len k l (by omega)]; exact h) = l[k] := by
  unfold incK
  rw [List.getElem_append_right (by simp; omega)]
  simp [List.length_take, Nat.min_eq_left (Nat.le_of_lt h)]
theorem incK_set (k : Nat) (l : List Pha) (h : k < l.length) : (incK k l).set k (incP l[k]) = incK (k + 1) l := by
  have hl : ((l.take k).map incP).length = k := by simp; omega
  unfold incK
  rw [List.set_append_right _ _ (by omega), hl, Nat.sub_self, drop_get h, List.set_cons_zero, List.take_add_one, List.getElem?_eq_getElem h, List.map_append, List.append_assoc]
  rfl
theorem wrap_succ (x : Int) : IntKind.i64.wrap (x + 1) ≠ x := by
  intro h
  rw [IntKind.wrap_i64] at h
  omega
theorem eqPhas_inc : ∀ l : List Pha, eqPhas (l.map incP) l = ((l.length : Int) == 0)
  | [] => rfl
  | a :: l => by
    have h : (incP a).fr ≠ a.fr := wrap_succ a.fr
    rw [List.map_cons, eqPhas, eqPha]
    have e : ((incP a).fr == a.fr) = false := by simp [h]
    rw [e, Bool.false_and, Bool.false_and, Bool.false_and]
    symm
    simp
    omega
/-- The rules in their box, and a clone in a box whose powerplays are the call's own. -/
structure KA (w W : World) (f : Rul) (pr : Value) (cb : Nat) (pc : Value) (cs : List Pha) : Prop where
  bel : Below w.heap.size w W
  rk : Blk W w.heap.size 24 (rulCells f pr)
  rs : Sl 3 elPha W (· < w.heap.size) pr f.power
  ck : Blk W cb 24 (rulCells f pc)
  own : OwnSl 3 elPha 45 (w.heap.size + 1) W pc cs
section
variable {w W W' : World} {f : Rul} {pr pc pw : Value} {cb wb : Nat} {cs : List Pha}
theorem KA.below (h : KA w W f pr cb pc cs) (hb : Below W.heap.size W W') : KA w W' f pr cb pc cs :=
  ⟨h.bel.trans (hb.mono (Nat.le_of_lt h.rk.lt)), h.rk.below hb h.rk.lt, h.rs.keep elPha_good (Same.below hb fun b hb' => by have := h.rk.lt; omega) fun _ h => h, h.ck.below hb h.ck.lt, h.own.below elPha_good hb⟩
theorem KA.slr (h : KA w W f pr cb pc cs) : Sl 3 elPha W (· < W.heap.size) pr f.power := h.rs.keep elPha_good (Same.refl _ _) fun b hb => by have := h.rk.lt; omega
theorem KA.slc (h : KA w W f pr cb pc cs) : Sl 3 elPha W (· < W.heap.size) pc cs := h.own.sl elPha_good |>.keep elPha_good (Same.refl _ _) fun b hb => hb.2
/-- And a second clone, whose row is younger. -/
structure KB (w W : World) (f : Rul) (pr : Value) (cb : Nat) (pc : Value) (cs : List Pha) (wb : Nat) (pw : Value) : Prop extends KA w W f pr cb pc cs where
  wk : Blk W wb 24 (rulCells f pw)
  ws : ∃ B2, OwnSl 3 elPha 45 B2 W pw f.power ∧ ∀ b, pc.ownBlock = some b → b < B2
theorem KB.below (h : KB w W f pr cb pc cs wb pw) (hb : Below W.heap.size W W') : KB w W' f pr cb pc cs wb pw :=
  ⟨h.toKA.below hb, h.wk.below hb h.wk.lt, let ⟨B2, h1, h2⟩ := h.ws; ⟨B2, h1.below elPha_good hb, h2⟩⟩
theorem KB.slw (h : KB w W f pr cb pc cs wb pw) : Sl 3 elPha W (· < W.heap.size) pw f.power := let ⟨B2, h1, h2⟩ := h.ws; h1.sl elPha_good |>.keep elPha_good (Same.refl _ _) fun b hb => hb.2
theorem KB.store {g n cap k : Nat} (h : KB w W f pr cb (.slice (some ⟨g, 0, none⟩) n cap) cs wb pw) (hk : k < cs.length) (u : Int) : KB w (W.setCell ⟨g, k * 3, none⟩ (.int .i64 u)) f pr cb (.slice (some ⟨g, 0, none⟩) n cap) (cs.set k { cs[k] with fr := u }) wb pw := by
  have hb := h.own.block g rfl
  have hn1 := own_ne h.own h.rk (by decide)
  have hn2 := own_ne h.own h.ck (by decide)
  have hn3 := own_ne h.own h.wk (by decide)
  simp only [Value.ownBlock, ne_eq, Option.some.injEq] at hn1 hn2 hn3
  obtain ⟨B2, hw1, hw2⟩ := h.ws
  have hgB := hw2 g rfl
  have ho := (Only.refl g W).setCell (p := ⟨g, k * 3, none⟩) (.inl rfl) (.int .i64 u)
  refine ⟨⟨h.bel.setCell (by show w.heap.size ≤ g; omega) _, h.rk.far (fun e => hn1 e.symm) _, h.rs.keep elPha_good (ho.same fun b hb' => ⟨by have := h.rk.lt; omega, by omega⟩) fun _ h => h, h.ck.far (fun e => hn2 e.symm) _, ?_⟩, h.wk.far (fun e => hn3 e.symm) _, B2, hw1.grown elPha_good ho fun b hb' e => by have h1 := hw1.block b hb'; have h2 := Option.some.inj e; omega, hw2⟩
  have := OwnG.store h.own (fun _ _ _ h => h) hk (show 0 < 3 by decide) (.int .i64 u) { cs[k] with fr := u } fun c9 w9 h9 => by rw [show c9 = _ from h9]; rfl
  rw [Nat.add_zero] at this
  exact this
theorem KB.at_ {A : Option Addr} {n c k : Nat} (h : KB w W f pr cb (.slice A n c) cs wb pw) (hk : k < cs.length) : ∃ g, A = some ⟨g, 0, none⟩ ∧ W.cell? ⟨g, k * 3, none⟩ = some (.int .i64 cs[k].fr) ∧ W.frozen? ⟨g, k * 3, none⟩ = false := by
  obtain ⟨css, h1, h2, h3, h4⟩ := h.own
  have hkc : k < css.length := by omega
  rcases h2.2 with ⟨hv, hn⟩ | ⟨g, cap, cur, hv, _⟩
  · omega
  · injection hv with e1 e2 e3
    subst e1; subst e2; subst e3
    refine ⟨g, rfl, ?_, h2.frozenAt _⟩
    rw [h2.cellAt _ (by omega), show k * 3 = k * 3 + 0 from rfl, flatten_get h3 (List.getElem?_eq_getElem hkc) (u := .int .i64 cs[k].fr)]
    rw [show css[k] = _ from h4 k cs[k] css[k] (List.getElem?_eq_getElem hk) (List.getElem?_eq_getElem hkc)]
    rfl
end
theorem ka_start {w W w3 : World} {f : Rul} {pr : Value} {A3 : Option Addr} {n3 c3 : Nat} (hbw : Below w.heap.size w W) (hk : Blk W w.heap.size 24 (rulCells f pr)) (hs : Sl 3 elPha W (· < w.heap.size) pr f.power)
    (ho : OwnSl 3 elPha 45 (W.heap.size + 1) w3 (.slice A3 n3 c3) f.power) (hb : Below W.heap.size W w3) :
    KA w (w3.alloc (.cells (rulCells f (.slice A3 n3 c3)) 24)) f pr w3.heap.size (.slice A3 n3 c3) f.power := by
  have hz := hk.lt
  have hb2 := Below.alloc hb hb.size (.cells (rulCells f (.slice A3 n3 c3)) 24)
  obtain ⟨css, h1, h2, h3, h4⟩ := ho
  exact ⟨hbw.trans (hb2.mono (Nat.le_of_lt hz)), hk.below hb2 hz, hs.keep elPha_good (Same.below hb2 fun b hb' => by omega) fun _ h => h, Blk.new _ _ _, OwnSl.alloc elPha_good ⟨css, h1, h2.mono (by omega), h3, h4⟩ _⟩
theorem kb_start {w W w5 : World} {f : Rul} {pr pc : Value} {cb : Nat} {cs : List Pha} {A5 : Option Addr} {n5 c5 : Nat} (h : KA w W f pr cb pc cs) (ho : OwnSl 3 elPha 45 (W.heap.size + 1) w5 (.slice A5 n5 c5) f.power) (hb : Below W.heap.size W w5) :
    KB w (w5.alloc (.cells (rulCells f (.slice A5 n5 c5)) 24)) f pr cb pc cs w5.heap.size (.slice A5 n5 c5) :=
  ⟨h.below (Below.alloc hb hb.size _), Blk.new _ _ _, W.heap.size + 1, OwnSl.alloc elPha_good ho _, fun b hb' => by have := h.own.block b hb'; omega⟩
theorem clone_ex {w w' : World} {r : Rul} {e : Ending} (h : ClonePost w r e w') : ∃ A c, e = .returned (.agg #[.string (S r.name), .int .i64 r.side, .int .i64 r.inns, .int .i64 r.overs, .int .i64 r.balls, .int .i64 r.quota, .int .i64 r.wide, .int .i64 r.noball, .bool r.free, .int .i64 r.newball, .int .i64 r.follow, .int .i64 r.reviews, .int .i64 r.outside, .slice A r.power.length c]) ∧ OwnSl 3 elPha 45 (w.heap.size + 1) w' (.slice A r.power.length c) r.power ∧ Below w.heap.size w w' := h
theorem few_sl {w w2 : World} {f : Rul} {old : Array Value} {pv : Value} (hk : Blk w2 w.heap.size 24 old) (hs : Sl 3 elPha w2 (· < w.heap.size) pv f.power) :
    Sl 3 elPha (w2.setRow w.heap.size (rulCells f pv)) (· < w.heap.size) pv f.power := by
  have ho := Only.row w.heap.size w2 (rulCells f pv)
  have hl := hk.lt
  exact hs.keep elPha_good (ho.same fun b h => ⟨by omega, by omega⟩) fun b h => h
set_option maxRecDepth 100000 in
set_option maxHeartbeats 4000000 in
theorem law_RKeeps (r : Rul) (pv : Value) (w : World) (hg : GlobN w) (h : Sl 3 elPha w (· < w.heap.size) pv r.power) :
    Calls Tryz.prog 9 #[rulV r pv] w fun e w' => e = .returned (.bool true) ∧ Below w.heap.size w w' := by
  obtain ⟨A, c, rfl, hc, hc2⟩ := h.shape
  obtain ⟨w0, hw0⟩ : ∃ x, x = w.alloc (.cells (rulCells r (.slice A r.power.length c)) 24) := ⟨_, rfl⟩
  have hb0 : Below w.heap.size w w0 := by rw [hw0]; exact Below.alloc (Below.refl _ _) (Nat.le_refl _) _
  have hk0 : Blk w0 w.heap.size 24 (rulCells r (.slice A r.power.length c)) := by rw [hw0]; exact Blk.new w _ _
  have haw : Calls Tryz.prog 10 #[] w0 fun e w1 => e = .returned (.bool true) ∧ Below w.heap.size w w1 ∧ Blk w1 w.heap.size 24 (rulCells r (.slice A r.power.length c)) := by
    refine (law05_awake w0 (hg.below hb0)).mono ?_
    rintro e w1 ⟨rfl, hb⟩
    exact ⟨rfl, hb0.trans (hb.mono hb0.size), hk0.below hb hk0.lt⟩
  obtain ⟨f, hf⟩ : ∃ f, f = fewR r := ⟨_, rfl⟩
  have hfn : f.name.length ≤ 1000000000 := by rw [hf]; unfold fewR; simp; omega
  have hfew : ∀ w1, Below w.heap.size w w1 → Blk w1 w.heap.size 24 (rulCells r (.slice A r.power.length c)) → Calls Tryz.prog 11 #[rulV r (.slice A r.power.length c)] w1 fun e w2 => ∃ A2 n2 c2, e = .returned (rulV f (.slice A2 n2 c2)) ∧ Below w.heap.size w w2 ∧ Sl 3 elPha w2 (· < w.heap.size) (.slice A2 n2 c2) f.power ∧ Blk w2 w.heap.size 24 (rulCells r (.slice A r.power.length c)) := fun w1 hb1 hk1 => by
    refine (law05_few r _ (· < w.heap.size) w1 (h.keep elPha_good (Same.of_below hb1) fun _ h => h) (fun b hb => Nat.lt_of_lt_of_le hb hb1.size)).mono ?_
    rintro e w2 ⟨A2, n2, c2, rfl, hs, hb⟩
    rw [← hf] at hs ⊢
    exact ⟨A2, n2, c2, rfl, hb1.trans (hb.mono hb1.size), hs, hk1.below hb hk1.lt⟩
  rw [hw0] at haw
  unfold rulCells at haw
  unfold rulV rulCells at hfew
  have hpl : f.power.length ≤ 1000 := by rw [hf]; unfold fewR; simp; omega
  have k1 := fun W pv (h : Sl 3 elPha W (· < W.heap.size) pv f.power) => (rul_Clone f pv W h hpl).mono fun e w' h => clone_ex h
  have k2 := fun W pv (h : Sl 3 elPha W (· < W.heap.size) pv f.power) => (ref_RClone f pv W h hpl).mono fun e w' h => clone_ex h
  have k3 := fun W ps pv qv (h : Sl 3 elPha W (· < W.heap.size) pv ps) (h' : Sl 3 elPha W (· < W.heap.size) qv f.power) => rul_Same f ps f.power pv qv W h h'
  unfold rulV rulCells at k1 k2 k3
  have K3 := Lib.hid k3
  have HAW := Lib.hid haw
  have HFW := Lib.hid hfew
  have K1 := Lib.hid k1
  have K2 := Lib.hid k2
  have tok0 : True := trivial
  clear haw hfew k1 k2 k3 hf hfn hg h hk0 hb0 hw0
  clear w0
  unfold rulV rulCells
  go_enter Tryz.func9, Tryz.ntmps9
  go_wp2_with (first
    | (clear tok0; go_at_call 10; refine HAW.out.mono ?_; rintro e w1 ⟨rfl, hb1, hk1⟩; obtain ⟨y0, y1, y2, y3, y4, y5, y6, y7, y8, y9, y10, y11, y12, y13⟩ := Blk.fourteen (show Blk _ _ _ #[.string (S r.name), .int .i64 r.side, .int .i64 r.inns, .int .i64 r.overs, .int .i64 r.balls, .int .i64 r.quota, .int .i64 r.wide, .int .i64 r.noball, .bool r.free, .int .i64 r.newball, .int .i64 r.follow, .int .i64 r.reviews, .int .i64 r.outside, .slice A r.power.length c] from hk1); have HB1 := Lib.hid hb1; have HK1 := Lib.hid hk1; clear hb1 hk1; have tok1 : True := trivial)
    | (clear tok1; go_at_call 11; refine (HFW.out _ HB1.out HK1.out).mono ?_; rintro e w2 ⟨A2, n2, c2, rfl, hb2, hs2, hk2⟩; clear y0 y1 y2 y3 y4 y5 y6 y7 y8 y9 y10 y11 y12 y13; obtain ⟨y0, y1, y2, y3, y4, y5, y6, y7, y8, y9, y10, y11, y12, y13⟩ := Blk.fourteen (show Blk _ _ _ #[.string (S r.name), .int .i64 r.side, .int .i64 r.inns, .int .i64 r.overs, .int .i64 r.balls, .int .i64 r.quota, .int .i64 r.wide, .int .i64 r.noball, .bool r.free, .int .i64 r.newball, .int .i64 r.follow, .int .i64 r.reviews, .int .i64 r.outside, .slice A r.power.length c] from hk2); have yf0 := Blk.frozen (show Blk _ _ _ #[.string (S r.name), .int .i64 r.side, .int .i64 r.inns, .int .i64 r.overs, .int .i64 r.balls, .int .i64 r.quota, .int .i64 r.wide, .int .i64 r.noball, .bool r.free, .int .i64 r.newball, .int .i64 r.follow, .int .i64 r.reviews, .int .i64 r.outside, .slice A r.power.length c] from hk2) 0; have yf1 := Blk.frozen (show Blk _ _ _ #[.string (S r.name), .int .i64 r.side, .int .i64 r.inns, .int .i64 r.overs, .int .i64 r.balls, .int .i64 r.quota, .int .i64 r.wide, .int .i64 r.noball, .bool r.free, .int .i64 r.newball, .int .i64 r.follow, .int .i64 r.reviews, .int .i64 r.outside, .slice A r.power.length c] from hk2) 1; have yf2 := Blk.frozen (show Blk _ _ _ #[.string (S r.name), .int .i64 r.side, .int .i64 r.inns, .int .i64 r.overs, .int .i64 r.balls, .int .i64 r.quota, .int .i64 r.wide, .int .i64 r.noball, .bool r.free, .int .i64 r.newball, .int .i64 r.follow, .int .i64 r.reviews, .int .i64 r.outside, .slice A r.power.length c] from hk2) 2; have yf3 := Blk.frozen (show Blk _ _ _ #[.string (S r.name), .int .i64 r.side, .int .i64 r.inns, .int .i64 r.overs, .int .i64 r.balls, .int .i64 r.quota, .int .i64 r.wide, .int .i64 r.noball, .bool r.free, .int .i64 r.newball, .int .i64 r.follow, .int .i64 r.reviews, .int .i64 r.outside, .slice A r.power.length c] from hk2) 3; have yf4 := Blk.frozen (show Blk _ _ _ #[.string (S r.name), .int .i64 r.side, .int .i64 r.inns, .int .i64 r.overs, .int .i64 r.balls, .int .i64 r.quota, .int .i64 r.wide, .int .i64 r.noball, .bool r.free, .int .i64 r.newball, .int .i64 r.follow, .int .i64 r.reviews, .int .i64 r.outside, .slice A r.power.length c] from hk2) 4; have yf5 := Blk.frozen (show Blk _ _ _ #[.string (S r.name), .int .i64 r.side, .int .i64 r.inns, .int .i64 r.overs, .int .i64 r.balls, .int .i64 r.quota, .int .i64 r.wide, .int .i64 r.noball, .bool r.free, .int .i64 r.newball, .int .i64 r.follow, .int .i64 r.reviews, .int .i64 r.outside, .slice A r.power.length c] from hk2) 5; have yf6 := Blk.frozen (show Blk _ _ _ #[.string (S r.name), .int .i64 r.side, .int .i64 r.inns, .int .i64 r.overs, .int .i64 r.balls, .int .i64 r.quota, .int .i64 r.wide, .int .i64 r.noball, .bool r.free, .int .i64 r.newball, .int .i64 r.follow, .int .i64 r.reviews, .int .i64 r.outside, .slice A r.power.length c] from hk2) 6; have yf7 := Blk.frozen (show Blk _ _ _ #[.string (S r.name), .int .i64 r.side, .int .i64 r.inns, .int .i64 r.overs, .int .i64 r.balls, .int .i64 r.quota, .int .i64 r.wide, .int .i64 r.noball, .bool r.free, .int .i64 r.newball, .int .i64 r.follow, .int .i64 r.reviews, .int .i64 r.outside, .slice A r.power.length c] from hk2) 7; have yf8 := Blk.frozen (show Blk _ _ _ #[.string (S r.name), .int .i64 r.side, .int .i64 r.inns, .int .i64 r.overs, .int .i64 r.balls, .int .i64 r.quota, .int .i64 r.wide, .int .i64 r.noball, .bool r.free, .int .i64 r.newball, .int .i64 r.follow, .int .i64 r.reviews, .int .i64 r.outside, .slice A r.power.length c] from hk2) 8; have yf9 := Blk.frozen (show Blk _ _ _ #[.string (S r.name), .int .i64 r.side, .int .i64 r.inns, .int .i64 r.overs, .int .i64 r.balls, .int .i64 r.quota, .int .i64 r.wide, .int .i64 r.noball, .bool r.free, .int .i64 r.newball, .int .i64 r.follow, .int .i64 r.reviews, .int .i64 r.outside, .slice A r.power.length c] from hk2) 9; have yf10 := Blk.frozen (show Blk _ _ _ #[.string (S r.name), .int .i64 r.side, .int .i64 r.inns, .int .i64 r.overs, .int .i64 r.balls, .int .i64 r.quota, .int .i64 r.wide, .int .i64 r.noball, .bool r.free, .int .i64 r.newball, .int .i64 r.follow, .int .i64 r.reviews, .int .i64 r.outside, .slice A r.power.length c] from hk2) 10; have yf11 := Blk.frozen (show Blk _ _ _ #[.string (S r.name), .int .i64 r.side, .int .i64 r.inns, .int .i64 r.overs, .int .i64 r.balls, .int .i64 r.quota, .int .i64 r.wide, .int .i64 r.noball, .bool r.free, .int .i64 r.newball, .int .i64 r.follow, .int .i64 r.reviews, .int .i64 r.outside, .slice A r.power.length c] from hk2) 11; have yf12 := Blk.frozen (show Blk _ _ _ #[.string (S r.name), .int .i64 r.side, .int .i64 r.inns, .int .i64 r.overs, .int .i64 r.balls, .int .i64 r.quota, .int .i64 r.wide, .int .i64 r.noball, .bool r.free, .int .i64 r.newball, .int .i64 r.follow, .int .i64 r.reviews, .int .i64 r.outside, .slice A r.power.length c] from hk2) 12; have yf13 := Blk.frozen (show Blk _ _ _ #[.string (S r.name), .int .i64 r.side, .int .i64 r.inns, .int .i64 r.overs, .int .i64 r.balls, .int .i64 r.quota, .int .i64 r.wide, .int .i64 r.noball, .bool r.free, .int .i64 r.newball, .int .i64 r.follow, .int .i64 r.reviews, .int .i64 r.outside, .slice A r.power.length c] from hk2) 13; have HB2 := Lib.hid hb2; have HK2 := Lib.hid (show Blk w2 w.heap.size 24 (rulCells r (.slice A r.power.length c)) from hk2); have HS2 := Lib.hid hs2; clear hb2 hs2 hk2; have tok2 : True := trivial))
  rw [rul_chain HK2.out]
  have hst := And.intro (few_at HK2.out HS2.out HB2.out) (few_sl HK2.out HS2.out)
  clear y0 y1 y2 y3 y4 y5 y6 y7 y8 y9 y10 y11 y12 y13 yf0 yf1 yf2 yf3 yf4 yf5 yf6 yf7 yf8 yf9 yf10 yf11 yf12 yf13
  revert hst
  unfold rulCells
  generalize World.setRow _ _ _ = W
  intro hst
  obtain ⟨⟨hra, hbw⟩, hrs⟩ := hst
  refine (K1.out W _ hra.sl).mono ?_
  rintro x w3 ⟨A3, c3, rfl, ho3, hb3⟩
  have ha3 := ka_start hbw hra.blk hrs ho3 hb3
  have hy3 := hra.blk.below hb3 hra.blk.lt
  obtain ⟨y0, y1, y2, y3, y4, y5, y6, y7, y8, y9, y10, y11, y12, y13⟩ := Blk.fourteen (show Blk _ _ _ #[.string (S f.name), .int .i64 f.side, .int .i64 f.inns, .int .i64 f.overs, .int .i64 f.balls, .int .i64 f.quota, .int .i64 f.wide, .int .i64 f.noball, .bool f.free, .int .i64 f.newball, .int .i64 f.follow, .int .i64 f.reviews, .int .i64 f.outside, .slice A2 n2 c2] from hy3)
  have hy3l := hy3.lt
  clear hy3
  have HA3 := Lib.hid ha3
  clear hra hbw hrs ho3 hb3 ha3
  have tok3 : True := trivial
  go_wp2_with (first
    | (clear tok3; go_at_call 20; refine (K3.out _ _ _ _ HA3.out.slc HA3.out.slr).mono ?_; rw [eqPhas_self]; rintro e w4 ⟨rfl, hb⟩; clear y0 y1 y2 y3 y4 y5 y6 y7 y8 y9 y10 y11 y12 y13 hy3l; have ha := HA3.out.below hb; obtain ⟨y0, y1, y2, y3, y4, y5, y6, y7, y8, y9, y10, y11, y12, y13⟩ := Blk.fourteen (show Blk _ _ _ #[.string (S f.name), .int .i64 f.side, .int .i64 f.inns, .int .i64 f.overs, .int .i64 f.balls, .int .i64 f.quota, .int .i64 f.wide, .int .i64 f.noball, .bool f.free, .int .i64 f.newball, .int .i64 f.follow, .int .i64 f.reviews, .int .i64 f.outside, .slice A2 n2 c2] from ha.rk); have HA4 := Lib.hid ha; clear ha hb; have tok4 : True := trivial)
    | (clear tok4; go_at_call 29; refine (K2.out _ _ HA4.out.slr).mono ?_; rintro e w5 ⟨A5, c5, rfl, ho5, hb5⟩; have hb5w := kb_start HA4.out ho5 hb5; clear y0 y1 y2 y3 y4 y5 y6 y7 y8 y9 y10 y11 y12 y13; have q13 : w5.cell? ⟨w3.heap.size, 13, none⟩ = some (.slice A3 f.power.length c3) := (HA4.out.below hb5).ck.cell 13; have hlt5 := (HA4.out.below hb5).ck.lt; have HB5 := Lib.hid hb5w; clear hb5w ho5 hb5; have tok5 : True := trivial))
  have hb5 := HB5.out
  go_loopw [21] (fun i wr => ∃ k : Nat, k ≤ f.power.length ∧ i = .int .i64 k ∧ KB w wr f (.slice A2 n2 c2) w3.heap.size (.slice A3 f.power.length c3) (incK k f.power) w5.heap.size (.slice A5 f.power.length c5)) (fun i _ => f.power.length - (intOf i).toNat)
  case atStart => exact ⟨0, Nat.zero_le _, rfl, by rw [incK_zero]; exact hb5⟩
  case round =>
    obtain ⟨k, hk, rfl, hkb⟩ := hrel
    have hkl := incK_len k f.power hk
    have y13 := hkb.ck.cell 13
    simp only [rulCells, List.getElem?_toArray, List.getElem?_cons_zero, List.getElem?_cons_succ] at y13
    by_cases hlt : k < f.power.length
    · obtain ⟨g, rfl, x0, xf⟩ := hkb.at_ (k := k) (by omega)
      rw [incK_get k f.power hlt] at x0
      have hs := hkb.store (k := k) (by omega) (IntKind.i64.wrap (f.power[k].fr + 1))
      rw [incK_get k f.power hlt] at hs
      have he := incK_set k f.power hlt
      unfold incP at he
      rw [he] at hs
      rw [IntWalk.i64_left] at hs
      have HS := Lib.hid hs
      have HLT := Lib.hid hlt
      clear hs he hkb hkl
      go_wp2
      go_roundw
      case rel => exact ⟨k + 1, HLT.out, by go_num, HS.out⟩
      case measure => have := HLT.out; simp [intOf]; omega
    · obtain rfl : k = f.power.length := by omega
      rw [incK_all] at hkb
      clear y13
      have hb := hkb.below (Below.drew (Below.refl wr.heap.size wr))
      obtain ⟨y0, y1, y2, y3, y4, y5, y6, y7, y8, y9, y10, y11, y12, y13⟩ := Blk.fourteen (show Blk _ _ _ #[.string (S f.name), .int .i64 f.side, .int .i64 f.inns, .int .i64 f.overs, .int .i64 f.balls, .int .i64 f.quota, .int .i64 f.wide, .int .i64 f.noball, .bool f.free, .int .i64 f.newball, .int .i64 f.follow, .int .i64 f.reviews, .int .i64 f.outside, .slice A2 n2 c2] from hb.rk)
      obtain ⟨z0, z1, z2, z3, z4, z5, z6, z7, z8, z9, z10, z11, z12, z13⟩ := Blk.fourteen (show Blk _ _ _ #[.string (S f.name), .int .i64 f.side, .int .i64 f.inns, .int .i64 f.overs, .int .i64 f.balls, .int .i64 f.quota, .int .i64 f.wide, .int .i64 f.noball, .bool f.free, .int .i64 f.newball, .int .i64 f.follow, .int .i64 f.reviews, .int .i64 f.outside, .slice A3 f.power.length c3] from hb.ck)
      obtain ⟨x0, x1, x2, x3, x4, x5, x6, x7, x8, x9, x10, x11, x12, x13⟩ := Blk.fourteen (show Blk _ _ _ #[.string (S f.name), .int .i64 f.side, .int .i64 f.inns, .int .i64 f.overs, .int .i64 f.balls, .int .i64 f.quota, .int .i64 f.wide, .int .i64 f.noball, .bool f.free, .int .i64 f.newball, .int .i64 f.follow, .int .i64 f.reviews, .int .i64 f.outside, .slice A5 f.power.length c5] from hb.wk)
      have HB := Lib.hid hb
      have hzz := eqPhas_inc f.power
      obtain ⟨zz, hzq⟩ : ∃ z, z = ((f.power.length : Int) == 0) := ⟨_, rfl⟩
      rw [← hzq] at hzz
      have hzr : ((n2 : Int) == 0) = zz := by
        obtain ⟨_, _, he, _⟩ := hkb.rs.shape
        injection he with _ he2 _
        rw [he2]; exact hzq.symm
      have hzb : (zz == zz) = true := by simp
      have HZ := Lib.hid hzz
      clear hkb hb hzz hzq
      have tok6 : True := trivial
      go_wp2_with fail
      go_region_held3 (fun w' => w'.cell? ⟨w.heap.size, 0, none⟩ = some (.string (S f.name)) ∧ w'.cell? ⟨w.heap.size, 1, none⟩ = some (.int .i64 f.side) ∧ w'.cell? ⟨w.heap.size, 2, none⟩ = some (.int .i64 f.inns) ∧ w'.cell? ⟨w.heap.size, 3, none⟩ = some (.int .i64 f.overs) ∧ w'.cell? ⟨w.heap.size, 4, none⟩ = some (.int .i64 f.balls) ∧ w'.cell? ⟨w.heap.size, 5, none⟩ = some (.int .i64 f.quota) ∧ w'.cell? ⟨w.heap.size, 6, none⟩ = some (.int .i64 f.wide) ∧ w'.cell? ⟨w.heap.size, 7, none⟩ = some (.int .i64 f.noball) ∧ w'.cell? ⟨w.heap.size, 8, none⟩ = some (.bool f.free) ∧ w'.cell? ⟨w.heap.size, 9, none⟩ = some (.int .i64 f.newball) ∧ w'.cell? ⟨w.heap.size, 10, none⟩ = some (.int .i64 f.follow) ∧ w'.cell? ⟨w.heap.size, 11, none⟩ = some (.int .i64 f.reviews) ∧ w'.cell? ⟨w.heap.size, 12, none⟩ = some (.int .i64 f.outside) ∧ w'.cell? ⟨w.heap.size, 13, none⟩ = some (.slice A2 n2 c2) ∧ w'.cell? ⟨w3.heap.size, 0, none⟩ = some (.string (S f.name)) ∧ w'.cell? ⟨w3.heap.size, 1, none⟩ = some (.int .i64 f.side) ∧ w'.cell? ⟨w3.heap.size, 2, none⟩ = some (.int .i64 f.inns) ∧ w'.cell? ⟨w3.heap.size, 3, none⟩ = some (.int .i64 f.overs) ∧ w'.cell? ⟨w3.heap.size, 4, none⟩ = some (.int .i64 f.balls) ∧ w'.cell? ⟨w3.heap.size, 5, none⟩ = some (.int .i64 f.quota) ∧ w'.cell? ⟨w3.heap.size, 6, none⟩ = some (.int .i64 f.wide) ∧ w'.cell? ⟨w3.heap.size, 7, none⟩ = some (.int .i64 f.noball) ∧ w'.cell? ⟨w3.heap.size, 8, none⟩ = some (.bool f.free) ∧ w'.cell? ⟨w3.heap.size, 9, none⟩ = some (.int .i64 f.newball) ∧ w'.cell? ⟨w3.heap.size, 10, none⟩ = some (.int .i64 f.follow) ∧ w'.cell? ⟨w3.heap.size, 11, none⟩ = some (.int .i64 f.reviews) ∧ w'.cell? ⟨w3.heap.size, 12, none⟩ = some (.int .i64 f.outside) ∧ w'.cell? ⟨w3.heap.size, 13, none⟩ = some (.slice A3 f.power.length c3) ∧ w'.cell? ⟨w5.heap.size, 0, none⟩ = some (.string (S f.name)) ∧ w'.cell? ⟨w5.heap.size, 1, none⟩ = some (.int .i64 f.side) ∧ w'.cell? ⟨w5.heap.size, 2, none⟩ = some (.int .i64 f.inns) ∧ w'.cell? ⟨w5.heap.size, 3, none⟩ = some (.int .i64 f.overs) ∧ w'.cell? ⟨w5.heap.size, 4, none⟩ = some (.int .i64 f.balls) ∧ w'.cell? ⟨w5.heap.size, 5, none⟩ = some (.int .i64 f.quota) ∧ w'.cell? ⟨w5.heap.size, 6, none⟩ = some (.int .i64 f.wide) ∧ w'.cell? ⟨w5.heap.size, 7, none⟩ = some (.int .i64 f.noball) ∧ w'.cell? ⟨w5.heap.size, 8, none⟩ = some (.bool f.free) ∧ w'.cell? ⟨w5.heap.size, 9, none⟩ = some (.int .i64 f.newball) ∧ w'.cell? ⟨w5.heap.size, 10, none⟩ = some (.int .i64 f.follow) ∧ w'.cell? ⟨w5.heap.size, 11, none⟩ = some (.int .i64 f.reviews) ∧ w'.cell? ⟨w5.heap.size, 12, none⟩ = some (.int .i64 f.outside) ∧ w'.cell? ⟨w5.heap.size, 13, none⟩ = some (.slice A5 f.power.length c5))
        (first | exact ⟨y0, y1, y2, y3, y4, y5, y6, y7, y8, y9, y10, y11, y12, y13, z0, z1, z2, z3, z4, z5, z6, z7, z8, z9, z10, z11, z12, z13, x0, x1, x2, x3, x4, x5, x6, x7, x8, x9, x10, x11, x12, x13⟩ | go_keep)
        (first
          | (clear tok6; go_at_call 20; refine (K3.out _ _ _ _ HB.out.slr HB.out.slw).mono ?_; rw [eqPhas_self]; rintro e w7 ⟨rfl, hb⟩; clear y0 y1 y2 y3 y4 y5 y6 y7 y8 y9 y10 y11 y12 y13 z0 z1 z2 z3 z4 z5 z6 z7 z8 z9 z10 z11 z12 z13 x0 x1 x2 x3 x4 x5 x6 x7 x8 x9 x10 x11 x12 x13; have hb7 := HB.out.below hb; obtain ⟨y0, y1, y2, y3, y4, y5, y6, y7, y8, y9, y10, y11, y12, y13⟩ := Blk.fourteen (show Blk _ _ _ #[.string (S f.name), .int .i64 f.side, .int .i64 f.inns, .int .i64 f.overs, .int .i64 f.balls, .int .i64 f.quota, .int .i64 f.wide, .int .i64 f.noball, .bool f.free, .int .i64 f.newball, .int .i64 f.follow, .int .i64 f.reviews, .int .i64 f.outside, .slice A2 n2 c2] from hb7.rk); obtain ⟨z0, z1, z2, z3, z4, z5, z6, z7, z8, z9, z10, z11, z12, z13⟩ := Blk.fourteen (show Blk _ _ _ #[.string (S f.name), .int .i64 f.side, .int .i64 f.inns, .int .i64 f.overs, .int .i64 f.balls, .int .i64 f.quota, .int .i64 f.wide, .int .i64 f.noball, .bool f.free, .int .i64 f.newball, .int .i64 f.follow, .int .i64 f.reviews, .int .i64 f.outside, .slice A3 f.power.length c3] from hb7.ck); obtain ⟨x0, x1, x2, x3, x4, x5, x6, x7, x8, x9, x10, x11, x12, x13⟩ := Blk.fourteen (show Blk _ _ _ #[.string (S f.name), .int .i64 f.side, .int .i64 f.inns, .int .i64 f.overs, .int .i64 f.balls, .int .i64 f.quota, .int .i64 f.wide, .int .i64 f.noball, .bool f.free, .int .i64 f.newball, .int .i64 f.follow, .int .i64 f.reviews, .int .i64 f.outside, .slice A5 f.power.length c5] from hb7.wk); have HB7 := Lib.hid hb7; clear hb7 hb; have tok7 : True := trivial)
          | (clear tok7; go_at_call 20; refine (K3.out _ _ _ _ HB7.out.slc HB7.out.slr).mono ?_; rw [HZ.out]; rintro e w8 ⟨rfl, hb⟩; clear y0 y1 y2 y3 y4 y5 y6 y7 y8 y9 y10 y11 y12 y13 z0 z1 z2 z3 z4 z5 z6 z7 z8 z9 z10 z11 z12 z13 x0 x1 x2 x3 x4 x5 x6 x7 x8 x9 x10 x11 x12 x13; have hb8 := HB7.out.below hb; obtain ⟨y0, y1, y2, y3, y4, y5, y6, y7, y8, y9, y10, y11, y12, y13⟩ := Blk.fourteen (show Blk _ _ _ #[.string (S f.name), .int .i64 f.side, .int .i64 f.inns, .int .i64 f.overs, .int .i64 f.balls, .int .i64 f.quota, .int .i64 f.wide, .int .i64 f.noball, .bool f.free, .int .i64 f.newball, .int .i64 f.follow, .int .i64 f.reviews, .int .i64 f.outside, .slice A2 n2 c2] from hb8.rk); obtain ⟨z0, z1, z2, z3, z4, z5, z6, z7, z8, z9, z10, z11, z12, z13⟩ := Blk.fourteen (show Blk _ _ _ #[.string (S f.name), .int .i64 f.side, .int .i64 f.inns, .int .i64 f.overs, .int .i64 f.balls, .int .i64 f.quota, .int .i64 f.wide, .int .i64 f.noball, .bool f.free, .int .i64 f.newball, .int .i64 f.follow, .int .i64 f.reviews, .int .i64 f.outside, .slice A3 f.power.length c3] from hb8.ck); obtain ⟨x0, x1, x2, x3, x4, x5, x6, x7, x8, x9, x10, x11, x12, x13⟩ := Blk.fourteen (show Blk _ _ _ #[.string (S f.name), .int .i64 f.side, .int .i64 f.inns, .int .i64 f.overs, .int .i64 f.balls, .int .i64 f.quota, .int .i64 f.wide, .int .i64 f.noball, .bool f.free, .int .i64 f.newball, .int .i64 f.follow, .int .i64 f.reviews, .int .i64 f.outside, .slice A5 f.power.length c5] from hb8.wk); have HB8 := Lib.hid hb8; clear hb8 hb))
      all_goals go_wp2
      all_goals go_ret
      all_goals exact ⟨rfl, HB8.out.bel⟩
end Go.Proofs.YtnacklbaphobbaaGreatDoor
