/- The contract of the reference's move (chapter 43). -/
import Derived.Test.YtcbkpjiaipabbaaGreatDoorJ7
set_option linter.unusedSimpArgs false
set_option linter.unusedVariables false
namespace Go.Proofs.YtcbkpjiaipabbaaGreatDoor
open Go.RowKit

theorem placeO_hit {r : Int} {w : Bool} {l : List Otc} {k : Nat} (hk : k < l.length) (hit : l[k].runs = r ∧ l[k].wick = w) (hno : ∀ j (hj : j < l.length), j < k → ¬ (l[j].runs = r ∧ l[j].wick = w)) : placeO r w l = k := by
  rcases Nat.lt_trichotomy (placeO r w l) k with h | h | h
  · exact absurd (placeO_lt r w l (by omega)) (hno _ (by omega) h)
  · exact h
  · exact absurd hit (placeO_before r w l k hk h)
theorem give_hit {r : Int} {w : Bool} {l : List Otc} {k : Nat} (hk : k < l.length) (hit : l[k].runs = r ∧ l[k].wick = w) (hno : ∀ j (hj : j < l.length), j < k → ¬ (l[j].runs = r ∧ l[j].wick = w)) : giveL l r w = l.set k { l[k] with wt := l[k].wt + 1 } := by
  unfold giveL
  rw [placeO_hit hk hit hno, List.getElem?_eq_getElem hk]
theorem give_new {r : Int} {w : Bool} {l : List Otc} (hno : ∀ j (hj : j < l.length), j < l.length → ¬ (l[j].runs = r ∧ l[j].wick = w)) : giveL l r w = l ++ [⟨r, w, 1⟩] :=
  giveL_new fun h => hno _ h h (placeO_lt r w l h)
theorem no_step {r : Int} {w : Bool} {l : List Otc} {k : Nat} (hk : k < l.length) (hno : ∀ j (hj : j < l.length), j < k → ¬ (l[j].runs = r ∧ l[j].wick = w)) (h : ¬ (l[k].runs = r ∧ l[k].wick = w)) : ∀ j (hj : j < l.length), j < k + 1 → ¬ (l[j].runs = r ∧ l[j].wick = w) := fun j hj h1 => by
  by_cases e : j = k
  · subst e; exact h
  · exact hno j hj (by omega)
/-- Whie the reference moves a unit: the box lies in block w.heap.size, the row is younger. -/
structure Mv (w W : World) (ov : Value) (out : List Otc) (r : Int) (wk : Bool) : Prop where
  bel : Below w.heap.size w W
  own : OwnSl 3 elOtc 45 (w.heap.size + 1) W ov out
  xk : Blk W w.heap.size 45 #[.int .i64 r, .bool wk, .int .i64 0]
section
variable {w W W' : World} {ov : Value} {out : List Otc} {r : Int} {wk : Bool} {g n c : Nat}
theorem Mv.below (h : Mv w W ov out r wk) (hb : Below W.heap.size W W') : Mv w W' ov out r wk := ⟨h.bel.trans (hb.mono h.bel.size), h.own.below elOtc_good hb, h.xk.below hb h.xk.lt⟩
theorem Mv.gt (h : Mv w W (.slice (some ⟨g, 0, none⟩) n c) out r wk) : w.heap.size < g := (h.own.block g rfl).1
theorem own_at {B k : Nat} (h : OwnSl 3 elOtc 45 B W (.slice (some ⟨g, 0, none⟩) n c) out) (hk : k < out.length) : W.cell? ⟨g, k * 3, none⟩ = some (.int .i64 out[k].runs) ∧ W.cell? ⟨g, k * 3 + 1, none⟩ = some (.bool out[k].wick) ∧ W.cell? ⟨g, k * 3 + 2, none⟩ = some (.int .i64 out[k].wt) ∧ W.frozen? ⟨g, k * 3 + 2, none⟩ = false := by
  obtain ⟨b, o, e, hF, y0, y1, y2⟩ := otc_at (h.sl elOtc_good) hk
  simp only [Option.some.injEq, Addr.mk.injEq, and_true] at e
  obtain ⟨rfl, rfl⟩ := e
  rw [Nat.zero_add] at y0 y1 y2
  obtain ⟨A', c', hv, _⟩ := (h.sl elOtc_good).shape
  injection hv with e1 e2 e3
  subst e2
  obtain ⟨css, h1, h2, h3, h4⟩ := h
  exact ⟨y0, y1, y2, h2.frozenAt _⟩
theorem own_put {B k : Nat} (h : OwnSl 3 elOtc 45 B W (.slice (some ⟨g, 0, none⟩) n c) out) (hk : k < out.length) (x : Int) : OwnSl 3 elOtc 45 B (W.setCell ⟨g, k * 3 + 2, none⟩ (.int .i64 x)) (.slice (some ⟨g, 0, none⟩) n c) (out.set k { out[k] with wt := x }) :=
  OwnG.put h (fun _ _ _ h => h) hk (show 2 < 3 by decide) (.int .i64 x) { out[k] with wt := x } fun c9 w9 h9 => by rw [show c9 = _ from h9]; rfl
theorem Mv.put {k : Nat} (h : Mv w W (.slice (some ⟨g, 0, none⟩) n c) out r wk) (hk : k < out.length) (x : Int) : Mv w (W.setCell ⟨g, k * 3 + 2, none⟩ (.int .i64 x)) (.slice (some ⟨g, 0, none⟩) n c) (out.set k { out[k] with wt := x }) r wk := by
  have hg := h.gt
  exact ⟨h.bel.setCell (by show w.heap.size ≤ g; omega) _, own_put h.own hk x, h.xk.far (by show w.heap.size ≠ g; omega) _⟩
end
def MvPost (w : World) (l : List Otc) (e : Ending) (w' : World) : Prop := ∃ v, e = .returned v ∧ Sl 3 elOtc w' (· < w'.heap.size) v l ∧ Below w.heap.size w w'
theorem Mv.post {w W : World} {ov : Value} {out : List Otc} {B : Nat} (hb : Below w.heap.size w W) (ho : OwnSl 3 elOtc 45 B W ov out) : MvPost w out (.returned ov) W := ⟨ov, rfl, (ho.sl elOtc_good).keep elOtc_good (Same.refl _ _) fun _ h => h.2, hb⟩
theorem own_made (w : World) (ob : Obj) : OwnG 3 elOtc 45 (w.heap.size + 1) ((w.alloc ob).alloc (.cells #[] 45)) (.slice (some ⟨w.heap.size + 1, 0, none⟩) 0 0) NoG [] := by
  have e : (w.alloc ob).heap.size = w.heap.size + 1 := by simp
  have := World.ownsRow_made (base := (w.alloc ob).heap.size) (e := 45) (size := 3) (w.alloc ob) #[] 0 (Nat.le_refl _) (by decide) rfl
  rw [e] at this
  exact ⟨[], rfl, this, by simp, by simp⟩
set_option maxRecDepth 100000 in
set_option maxHeartbeats 4000000 in
theorem r_move (d : List Otc) (v : Value) (i : Nat) (r : Int) (wk : Bool) (w : World) (h : Sl 3 elOtc w (· < w.heap.size) v d) (hi : i < d.length) (hok : ∀ o ∈ d, OkN o) (hl : d.length ≤ 100) :
    Calls Tryz.prog 74 #[v, .int .i64 i, .agg #[.int .i64 r, .bool wk, .int .i64 0]] w (MvPost w (moveL d i r wk)) := by
  obtain ⟨out, hout⟩ : ∃ out, out = takeL d i := ⟨_, rfl⟩
  have hz : moveL d i r wk = giveL out r wk := by rw [hout]; rfl
  rw [hz]
  obtain ⟨z, hzz⟩ : ∃ z, z = giveL out r wk := ⟨_, rfl⟩
  rw [← hzz]
  obtain ⟨A, c, rfl, hc, hc2⟩ := h.shape
  have hb1 : Below w.heap.size w ((w.alloc (.cells #[.int .i64 r, .bool wk, .int .i64 0] 45)).alloc (.cells #[] 45)) := (Below.alloc (Below.refl _ _) (Nat.le_refl _) _).alloc (by simp) _
  have hsl := h.keep elOtc_good (Same.of_below hb1) (G := (· < w.heap.size)) fun _ h => h
  have hxk : Blk ((w.alloc (.cells #[.int .i64 r, .bool wk, .int .i64 0] 45)).alloc (.cells #[] 45)) w.heap.size 45 #[.int .i64 r, .bool wk, .int .i64 0] := (Blk.new w _ _).alloc _
  have hsz : w.heap.size + 1 ≤ ((w.alloc (.cells #[.int .i64 r, .bool wk, .int .i64 0] 45)).alloc (.cells #[] 45)).heap.size := by simp
  have HB1 := Lib.hid hb1
  have HSL := Lib.hid hsl
  have HXK := Lib.hid hxk
  have HSZ := Lib.hid hsz
  have HOM := Lib.hid (own_made w (.cells #[.int .i64 r, .bool wk, .int .i64 0] 45))
  have hdi : out = d.set i { d[i] with wt := d[i].wt - 1 } := by rw [hout, takeL_at hi]
  have hto : ∀ o ∈ out, -1 ≤ o.wt ∧ o.wt ≤ 16 := fun o ho => by
    rw [hdi] at ho
    rcases List.mem_or_eq_of_mem_set ho with h | h
    · have := hok o h; exact ⟨by have := this.w0; omega, this.w16⟩
    · have := hok _ (List.getElem_mem hi)
      rw [h]; exact ⟨by show (-1 : Int) ≤ d[i].wt - 1; have := this.w0; omega, by show d[i].wt - 1 ≤ 16; have := this.w16; omega⟩
  have hol : d.length = out.length := by rw [hdi, List.length_set]
  have hw0 := (hok _ (List.getElem_mem hi)).w0
  have hw1 := (hok _ (List.getElem_mem hi)).w16
  obtain ⟨pt, hpt⟩ : ∃ pt, pt = d[i].wt := ⟨_, rfl⟩
  rw [← hpt] at hw0 hw1 hdi
  have h63 : d.length ≤ maxLen := by simp only [maxLen]; omega
  have h64 : d.length * 24 ≤ 140737488355328 := by omega
  have ei : (i : Int) < (d.length : Int) := by omega
  have hpos : 0 < d.length := by omega
  have HDI := Lib.hid hdi
  have HPT := Lib.hid hpt
  have HTO := Lib.hid hto
  have HOL := Lib.hid hol
  have HZZ := Lib.hid hzz
  have H63 := Lib.hid h63
  clear h hb1 hsl hxk hsz hdi hpt hto hol hzz hz hout hok h63
  go_enter Tryz.func74, Tryz.ntmps74
  go_wp2_with (at_builtin; refine wpList_append_mine rfl (.tmp 9) (.tmp 10) _ rfl E_otc elOtc_good (w.heap.size + 1) ⟨w.heap.size + 1, 0, none⟩ d rfl HOM.out (· < w.heap.size) A d.length c rfl HSL.out elOtc_F elOtc_one H63.out h64 HSZ.out ?_; intro A1 c1 w1 hs1 hb1; obtain ⟨g, rfl⟩ := own_some hs1 hpos; obtain ⟨_, _, p2, pf⟩ := own_at hs1 hi; rw [← HPT.out] at p2; have hm1 : Mv w (w1.setCell ⟨g, i * 3 + 2, none⟩ (.int .i64 (pt - 1))) (.slice (some ⟨g, 0, none⟩) d.length c1) out r wk := (by rw [HDI.out]; exact Mv.put ⟨HB1.out.trans (hb1.mono (by omega)), hs1, HXK.out.below hb1 (by omega)⟩ hi (pt - 1)); have HM1 := Lib.hid hm1; clear hs1 hb1 hm1)
  generalize w1.setCell _ _ = W2 at HM1 ⊢
  clear p2 pf
  have hdm : d.length = out.length := HOL.out
  go_loopw [22] (fun j wr => ∃ k : Nat, k ≤ d.length ∧ j = .int .i64 k ∧ Hid (Mv w wr (.slice (some ⟨g, 0, none⟩) d.length c1) out r wk) ∧ Hid (∀ j (hj : j < out.length), j < k → ¬ (out[j].runs = r ∧ out[j].wick = wk))) (fun j _ => d.length - (intOf j).toNat)
  case atStart => exact ⟨0, Nat.zero_le _, rfl, HM1, Lib.hid fun j _ h => absurd h (Nat.not_lt_zero _)⟩
  case round =>
    obtain ⟨k, hk, rfl, HM, HNO⟩ := hrel
    by_cases hlt : k < d.length
    · have hko : k < out.length := by rw [← HOL.out]; exact hlt
      obtain ⟨y0, y1, y2, _⟩ := own_at HM.out.own hko
      obtain ⟨x0, x1, _, _, _, _⟩ := Blk.three HM.out.xk
      have hbo := HTO.out _ (List.getElem_mem hko)
      have hgv := fun h1 => give_hit (r := r) (w := wk) hko h1 HNO.out
      have hnx := fun h1 => no_step (r := r) (w := wk) hko HNO.out h1
      have hput := fun W (h : Mv w W (.slice (some ⟨g, 0, none⟩) d.length c1) out r wk) x => h.put hko x
      have hat := fun W (h : Mv w W (.slice (some ⟨g, 0, none⟩) d.length c1) out r wk) => own_at h.own hko
      obtain ⟨⟨pr, pw, qt⟩, hp⟩ : ∃ p, p = out[k] := ⟨_, rfl⟩
      rw [← hp] at y0 y1 y2 hbo hgv hnx hput hat
      dsimp only at y0 y1 y2 hbo hgv hnx hput hat
      obtain ⟨hb0, hb1⟩ := hbo
      have HGV := Lib.hid hgv
      have HNX := Lib.hid hnx
      have HPUT := Lib.hid hput
      have HAT := Lib.hid hat
      have ek : (k : Int) < (d.length : Int) := by omega
      clear hgv hnx hput hat hp hko
      rcases boorJ (pr == r) with e1 | e1
      · rcases boorJ (pw == wk) with e2 | e2
        · have h1 : pr = r := by simpa using e1
          have h2 : pw = wk := by simpa using e2
          have HR := Lib.hid (show z = out.set k ⟨pr, pw, qt + 1⟩ from by rw [HZZ.out, HGV.out ⟨h1, h2⟩])
          clear h1 h2 HGV HNX
          go_wp2_with fail
          go_quiet (fail)
          generalize hW : World.drewN wr _ = W3
          have hm3 := HM.out.below (W' := W3) (hW ▸ Below.drewN_ (Below.refl _ _) _)
          obtain ⟨q0, q1, q2, qf⟩ := HAT.out W3 hm3
          have hm4 := HPUT.out W3 hm3 (qt + 1)
          have HM4 := Lib.hid hm4
          clear hW hm3 hm4 y0 y1 y2 x0 x1
          go_wp2
          go_ret
          exact HR.out ▸ Mv.post HM4.out.bel HM4.out.own
        · have h2 : ¬ pw = wk := by simpa using e2
          have HN2 := Lib.hid (HNX.out fun h => h2 h.2)
          clear h2 HGV HNX
          go_wp2_with fail
          go_quiet (fail)
          go_wp2_with fail
          go_roundw
          case rel => exact ⟨k + 1, by omega, by go_num, Lib.hid (HM.out.below (Below.drewN_ (Below.refl _ _) _)), HN2⟩
          case measure => simp [intOf]; omega
      · have h1 : ¬ pr = r := by simpa using e1
        have HN2 := Lib.hid (HNX.out fun h => h1 h.1)
        clear h1 HGV HNX
        go_wp2_with fail
        go_quiet (fail)
        go_wp2_with fail
        go_roundw
        case rel => exact ⟨k + 1, by omega, by go_num, Lib.hid (HM.out.below (Below.drewN_ (Below.refl _ _) _)), HN2⟩
        case measure => simp [intOf]; omega
    · obtain rfl : k = d.length := by omega
      have hno := HNO.out
      rw [HOL.out] at hno
      have HR := Lib.hid (show z = out ++ [⟨r, wk, 1⟩] from by rw [HZZ.out, give_new hno])
      obtain ⟨x0, x1, x2, xf0, xf1, xf2⟩ := Blk.three HM.out.xk
      have hbx : Blk (wr.setCell ⟨w.heap.size, 2, none⟩ (.int .i64 1)) w.heap.size 45 #[.int .i64 r, .bool wk, .int .i64 1] := HM.out.xk.set_ 2 _
      have hos := (Only.refl w.heap.size wr).setCell (p := ⟨w.heap.size, 2, none⟩) (.inl rfl) (.int .i64 1)
      have hown := HM.out.own.grown elOtc_good hos fun b hb e => by
        have := (HM.out.own.block b hb).1
        have := Option.some.inj e
        omega
      have hbel := HM.out.bel.trans (hos.below (Nat.le_refl _) HM.out.bel.size)
      have hsz : w.heap.size + 1 ≤ (wr.setCell ⟨w.heap.size, 2, none⟩ (.int .i64 1)).heap.size := by have := (HM.out.own.block g rfl); simp; omega
      have HBX := Lib.hid hbx
      have hcn := cells_new (wr.setCell ⟨w.heap.size, 2, none⟩ (.int .i64 1)) [.int .i64 r, .bool wk, .int .i64 1] 45 (0, 0)
      rw [show (wr.setCell ⟨w.heap.size, 2, none⟩ (.int .i64 1)).heap.size = wr.heap.size from by simp] at hcn
      have HCN := Lib.hid hcn
      have HOS := Lib.hid hown
      have HBE := Lib.hid hbel
      have hol : out.length ≤ 100 := by rw [← HOL.out]; exact hl
      have HRM := Lib.hid (room1 (k := 100) hol (by omega))
      clear hcn hno hbx hos hown hbel HNO hlt hk hol
      go_wp2_with (at_builtin; refine wpList_append_sl _ rfl (.tmp 54) (.tmp 56) _ rfl E_otc elOtc_good (w.heap.size + 1) (.slice (some ⟨g, 0, none⟩) d.length c1) out rfl (HOS.out.alloc elOtc_good _) ⟨wr.heap.size, 0, none⟩ 1 [.int .i64 r, .bool wk, .int .i64 1] rfl ⟨r, wk, 1⟩ rfl HCN.out (oneCells rfl) rfl HRM.out.1 HRM.out.2 (base1 hsz _) ?_; intro v6 w6 hown6 hg6 hat6; have hb6 := below_own (Below.alloc HBE.out HBE.out.size (.cells #[.int .i64 r, .bool wk, .int .i64 1] 45)) (HOS.out.alloc elOtc_good (.cells #[.int .i64 r, .bool wk, .int .i64 1] 45)) hg6 (Nat.le_succ _) (base1 hsz _); have HO6 := Lib.hid hown6; have HB6 := Lib.hid hb6; clear hown6 hg6 hat6 hb6)
      go_ret
      exact HR.out ▸ Mv.post HB6.out HO6.out
end Go.Proofs.YtcbkpjiaipabbaaGreatDoor
