/- The contracts of rules.Clone and of the reference's Clone; a store into a row of the call's own. -/
import Derived.Test.YtnacklbaphobbaaGreatDoorU20
import Derived.Test.YtnacklbaphobbaaGreatDoorU10
import Derived.Test.YtnacklbaphobbaaGreatDoorF12
set_option linter.unusedSimpArgs false
set_option linter.unusedVariables false
namespace Go.Proofs.YtnacklbaphobbaaGreatDoor
open Go.RowKit

/-- append of a whole slice onto an empty row just made: the row is the call's own. -/
theorem step_append_own {P : Program} {ops : Array Oper} {o : Oper} {a : Act} {w : World} {K : Act → World → Prop} {Q : Exit → Act → World → Prop} {E : Prop} (hgd : o.guard = none) (s x : Operand) (t : TypeId)
    (ho : o.op = .call { callee := .builtin .append, args := #[s, x], argTypes := #[t, t] })
    {e : TypeId} {size bytes : Nat} (hE : ElemOf P t e size bytes) {α : Type} {R : World → (Nat → Prop) → List Value → α → Prop} (hR : Good R)
    (base : Nat) (ad0 : Addr) (l' : List α) (hs : a.eval s = .slice (some ad0) 0 0) (hown : OwnG size R e base w (.slice (some ad0) 0 0) NoG [])
    (F : Nat → Prop) (A : Option Addr) (n c : Nat) (hx : a.eval x = .slice A n c) (hsl : Sl size R w F (.slice A n c) l')
    (hRF : ∀ w G G' cs x, R w G cs x → R w G' cs x)
    (h1 : ∀ w F cs x, R w F cs x → ∀ u ∈ cs, u.oneCell' = true)
    (h63 : l'.length ≤ maxLen) (hbytes : l'.length * bytes ≤ 140737488355328) (hbase : base ≤ w.heap.size)
    (h : ∀ A' c' w', OwnSl size R e base w' (.slice A' n c') l' → Below base w w' → K (a.put o.dst (.slice A' n c')) w') :
    if Region.wanted o (yielded ops a.tmps) = true then Oper.wp P o a w K Q else E := by
  have hw : Region.wanted o (yielded ops a.tmps) = true := by simp [Region.wanted, hgd]
  rw [if_pos hw]
  have hown0 := hown
  obtain ⟨i, z, e1, e2, e3, e4, e5, e6, e7⟩ := hE
  obtain ⟨A', c', hv, hlc, hcm, hA⟩ := hsl
  injection hv with hv1 hv2 hv3
  subst hv2; subst hv3
  by_cases h0 : 0 < l'.length
  · obtain ⟨b, o', hab, hFb, _⟩ := hA h0
    obtain ⟨css', hl', hsz', hcell', hel''⟩ := Sl.rows (l := l') (b := b) (o := o') (n := l'.length) (c := c) ⟨A', c, by rw [← hab], hlc, hcm, hA⟩ e7
    rw [hv1, hab] at hx
    obtain ⟨css, hlen, ho', hsz, hel'⟩ := hown
    have hcss : css = [] := List.eq_nil_of_length_eq_zero (by simpa using hlen)
    subst hcss
    obtain ⟨v', w', hr, h2, h3, _, h4⟩ := run_append_own_at (P := P) w base t o.type e i z size bytes e1 e2 e3 e4 e5 e6 e7 (.slice (some ad0) 0 0) 0 [] ho' ⟨b, o', none⟩ l'.length c css'.flatten (by rw [flat_len hsz', hl'])
      (fun j u hu => by rw [show (⟨b, o', none⟩ : Addr).add j = ⟨b, o' + j, none⟩ from Addr.add_lit b o' j]; exact hcell' j u hu) (fun u hu => by
        obtain ⟨cs, hc, hu'⟩ := List.mem_flatten.1 hu
        obtain ⟨k, hk⟩ := List.mem_iff_getElem?.1 hc
        have hil : k < l'.length := by have := (List.getElem?_eq_some_iff.1 hk).1; omega
        exact h1 w F cs _ (hel'' k l'[k] cs (List.getElem?_eq_getElem hil) hk) u hu') (by omega) (by simpa using hbytes) hbase
    have hnew : OwnSl size R e base w' v' l' := by
      refine ⟨css', hl', by simpa using h2, hsz', fun k x cs hk hc => ?_⟩
      exact hR.keep (G := NoG) (hRF _ F NoG _ _ (hel'' k x cs hk hc)) (fun _ h => h.elim) fun _ h => h
    have hsl' := hnew.sl hR
    obtain ⟨A2, c2, hv2, _⟩ := hsl'.shape
    subst hv2
    unfold Oper.wp execOp
    simp only [ho, resolve, invoke, builtin, Sem.run_bind, Sem.run_pure, Result.andThen_ok, List.map_toArray, List.map_cons, List.map_nil, hs, hx, hr]
    exact h _ _ _ hnew (below_own (Below.refl base w) hown0 h3 (Nat.le_refl _) hbase)
  · have hn : l' = [] := List.eq_nil_of_length_eq_zero (by omega)
    subst hn
    have hr : (Builtin.append_ #[t, t] o.type #[.slice (some ad0) 0 0, .slice A 0 c]).run P w = .ok (.slice (some ad0) 0 0) w := by
      cases A with
      | none => exact run_append_nothing w t t o.type e i e1 e2 (some ad0) 0 0 (Nat.le_refl _) _ (Src.ofNil w e1 c)
      | some ad => exact run_append_nothing w t t o.type e i e1 e2 (some ad0) 0 0 (Nat.le_refl _) _ (Src.ofSlice w e1 ad 0 c [] (by simp) (by simp) (by simp))
    simp only [List.length_nil] at hx h hr ⊢
    unfold Oper.wp execOp
    simp only [ho, resolve, invoke, builtin, Sem.run_bind, Sem.run_pure, Result.andThen_ok, List.map_toArray, List.map_cons, List.map_nil, hs, hx, hr]
    exact h (some ad0) 0 w hown0 (Below.refl _ _)
theorem flat_set {α : Type} {size : Nat} : ∀ (css : List (List α)) (i j : Nat) (u : α), (∀ cs ∈ css, cs.length = size) → j < size → ∀ (hi : i < css.length), (css.set i (css[i].set j u)).flatten = css.flatten.set (i * size + j) u
  | cs :: css, 0, j, u, h, hj, _ => by
    have h0 := h cs (by simp)
    simp only [List.set_cons_zero, List.getElem_cons_zero, List.flatten_cons, Nat.zero_mul, Nat.zero_add]
    rw [List.set_append_left _ _ (by omega)]
  | cs :: css, i + 1, j, u, h, hj, hi => by
    have h0 := h cs (by simp)
    have ih := flat_set css i j u (fun c hc => h c (by simp [hc])) hj (by simpa using hi)
    simp only [List.set_cons_succ, List.getElem_cons_succ, List.flatten_cons, ih]
    rw [List.set_append_right _ _ (by rw [h0, Nat.succ_mul]; omega), h0]
    congr 2
    rw [Nat.succ_mul]; omega
/-- A store into an element of a row of the call's own. -/
theorem OwnG.store {α : Type} {size e base : Nat} {R : World → (Nat → Prop) → List Value → α → Prop} {G : Nat → Prop} {w : World} {g n cap : Nat} {l : List α} (h : OwnG size R e base w (.slice (some ⟨g, 0, none⟩) n cap) G l)
    (hRw : ∀ w' cs a, R w G cs a → R w' G cs a) {i j : Nat} (hi : i < l.length) (hj : j < size) (u : Value) (a' : α) (hset : ∀ cs w', R w G cs l[i] → R w' G (cs.set j u) a') :
    OwnG size R e base (w.setCell ⟨g, i * size + j, none⟩ u) (.slice (some ⟨g, 0, none⟩) n cap) G (l.set i a') := by
  obtain ⟨css, hlen, ho, hsz, hel⟩ := h
  have hn : n = l.length := by
    rcases ho.2 with ⟨hv, _⟩ | ⟨g', cap', cur, hv, _⟩
    · cases hv
    · injection hv
  subst hn
  have hic : i < css.length := by omega
  have hst := (ho.stored (i * size + j) u).1
  rw [← flat_set css i j u hsz hj hic] at hst
  refine ⟨css.set i (css[i].set j u), by simp [hlen], by simpa using hst, ?_, ?_⟩
  · intro cs hc
    rcases List.mem_or_eq_of_mem_set hc with h | h
    · exact hsz cs h
    · rw [h, List.length_set]; exact hsz _ (List.getElem_mem hic)
  · intro k a cs hk hc
    by_cases hki : k = i
    · subst hki
      rw [List.getElem?_set_self hi] at hk
      rw [List.getElem?_set_self hic] at hc
      obtain rfl := Option.some.inj hk
      obtain rfl := Option.some.inj hc
      exact hset _ _ (hel k _ _ (List.getElem?_eq_getElem hi) (List.getElem?_eq_getElem hic))
    · rw [List.getElem?_set_ne (fun e => hki e.symm)] at hk hc
      exact hRw _ _ _ (hel k a cs hk hc)
theorem elPha_F : ∀ w (G G' : Nat → Prop) cs x, elPha w G cs x → elPha w G' cs x := fun _ _ _ _ _ h => h
theorem elPha_one : ∀ w (F : Nat → Prop) cs x, elPha w F cs x → ∀ u ∈ cs, u.oneCell' = true := by
  intro w F cs x h u hu
  rw [h] at hu
  simp only [List.mem_cons, List.not_mem_nil, or_false] at hu
  rcases hu with rfl | rfl | rfl <;> rfl
/-- The same at a list of operations. -/
theorem wpList_append_own {P : Program} {ops : Array Oper} {rest : List Oper} {o : Oper} {a : Act} {w : World} {Q : Exit → Act → World → Prop} (hgd : o.guard = none) (s x : Operand) (t : TypeId)
    (ho : o.op = .call { callee := .builtin .append, args := #[s, x], argTypes := #[t, t] })
    {e : TypeId} {size bytes : Nat} (hE : ElemOf P t e size bytes) {α : Type} {R : World → (Nat → Prop) → List Value → α → Prop} (hR : Good R)
    (base : Nat) (ad0 : Addr) (l' : List α) (hs : a.eval s = .slice (some ad0) 0 0) (hown : OwnG size R e base w (.slice (some ad0) 0 0) NoG [])
    (F : Nat → Prop) (A : Option Addr) (n c : Nat) (hx : a.eval x = .slice A n c) (hsl : Sl size R w F (.slice A n c) l')
    (hRF : ∀ w G G' cs x, R w G cs x → R w G' cs x)
    (h1 : ∀ w F cs x, R w F cs x → ∀ u ∈ cs, u.oneCell' = true)
    (h63 : l'.length ≤ maxLen) (hbytes : l'.length * bytes ≤ 140737488355328) (hbase : base ≤ w.heap.size)
    (h : ∀ A' c' w', OwnSl size R e base w' (.slice A' n c') l' → Below base w w' → wpList P ops Q rest (a.put o.dst (.slice A' n c')) w') : wpList P ops Q (o :: rest) a w := by
  refine wpList_plain hgd fun K hK => ?_
  have := step_append_own (ops := ops) (K := K) (Q := Q) (E := True) hgd s x t ho hE hR base ad0 l' hs hown F A n c hx hsl hRF h1 h63 hbytes hbase fun A' c' w' h2 h3 => hK _ _ (h A' c' w' h2 h3)
  rwa [if_pos (by simp [Region.wanted, hgd])] at this
set_option maxRecDepth 100000 in
set_option maxHeartbeats 2000000 in
theorem pha_Clone (l : List Pha) (v : Value) (F : Nat → Prop) (w : World) (h : Sl 3 elPha w F v l) (hF : ∀ b, F b → b < w.heap.size) (hl : l.length ≤ 1000) :
    Calls Tryz.prog 57 #[v] w fun e w' => ∃ A c, e = .returned (.slice A l.length c) ∧ OwnSl 3 elPha 45 w.heap.size w' (.slice A l.length c) l ∧ Below w.heap.size w w' := by
  obtain ⟨A, c, rfl, hc, hc2⟩ := h.shape
  have q : ∀ (w : World) n c, (binOp .eql 22 (.slice A n c) (.slice none 0 0)).run Tryz.prog w = .ok (.bool A.isNone) w := fun w n c => Lib.run_eql_slice_nil w _ _ A n c 0 0 Tryz.underlying22
  cases A with
  | none =>
    have h0 : l = [] := by
      cases l with
      | nil => rfl
      | cons a l => obtain ⟨b, o, cs, hA, _⟩ := h.at (k := 0) (by simp); cases hA
    subst h0
    clear h hF hc hc2
    go_enter Tryz.func57, Tryz.ntmps57
    go_wp2
    go_ret
    exact ⟨_, _, rfl, OwnSl.nil _, Below.refl _ _⟩
  | some ad =>
    have hown : OwnG 3 elPha 45 w.heap.size (w.alloc (.cells #[] 45)) (.slice (some ⟨w.heap.size, 0, none⟩) 0 0) NoG [] := ⟨[], rfl, World.ownsRow_made w #[] 0 (Nat.le_refl _) (by decide) rfl, by simp, by simp⟩
    have hb1 : Below w.heap.size w (w.alloc (.cells #[] 45)) := Below.alloc (Below.refl _ _) (Nat.le_refl _) _
    have hsl := h.keep elPha_good (Same.below hb1 hF) (G := F) fun _ h => h
    have hz : w.heap.size ≤ (w.alloc (.cells #[] 45)).heap.size := by simp
    have HO := Lib.hid hown
    have HS := Lib.hid hsl
    have HB := Lib.hid hb1
    have HZ := Lib.hid hz
    have h63 : l.length ≤ maxLen := by simp only [maxLen]; omega
    have h64 : l.length * 24 ≤ 140737488355328 := by omega
    clear h hF hown hb1 hsl hz hc hc2 hl
    go_enter Tryz.func57, Tryz.ntmps57
    go_wp2_with (at_builtin; refine wpList_append_own rfl (.tmp 5) (.tmp 6) _ rfl E_pha elPha_good w.heap.size ⟨w.heap.size, 0, none⟩ l rfl HO.out F (some ad) l.length c rfl HS.out elPha_F elPha_one h63 h64 HZ.out ?_; intro A1 c1 w1 hs1 hb1; have HS1 := Lib.hid hs1; have HB1 := Lib.hid hb1; clear hs1 hb1)
    go_ret
    exact ⟨_, _, rfl, HS1.out, HB.out.trans HB1.out⟩
theorem clone_ret {R' : Ending → World → Prop} {a : Act} {w : World} {q : Rul} {pv : Value} {g : Nat} (h2 : a.tmps[2]? = some (.pointer (some ⟨g, 0, none⟩))) (hb : Blk w g 24 (rulCells q pv))
    (hd : a.defers = []) (hR : R' (.returned (rulV q pv)) w) : bodyPost Tryz.prog Tryz.f28 R' .ret a w := by
  obtain ⟨r0, r1, r2, r3, r4, r5, r6, r7, r8, r9, r10, r11, r12, r13⟩ := Blk.fourteen hb
  refine bodyPost_ret (v := rulV q pv) (by simp [results, Tryz.results28, go_sem, h2, r0, r1, r2, r3, r4, r5, r6, r7, r8, r9, r10, r11, r12, r13]; rfl) hd hR
theorem rclone_ret {R' : Ending → World → Prop} {a : Act} {w : World} {q : Rul} {pv : Value} {g : Nat} (h2 : a.tmps[2]? = some (.pointer (some ⟨g, 0, none⟩))) (hb : Blk w g 24 (rulCells q pv))
    (hd : a.defers = []) (hR : R' (.returned (rulV q pv)) w) : bodyPost Tryz.prog Tryz.f29 R' .ret a w := by
  obtain ⟨r0, r1, r2, r3, r4, r5, r6, r7, r8, r9, r10, r11, r12, r13⟩ := Blk.fourteen hb
  refine bodyPost_ret (v := rulV q pv) (by simp [results, Tryz.results29, go_sem, h2, r0, r1, r2, r3, r4, r5, r6, r7, r8, r9, r10, r11, r12, r13]; rfl) hd hR
/-- What Clone hands back. -/
def ClonePost (w : World) (r : Rul) (e : Ending) (w' : World) : Prop := ∃ A c, e = .returned (rulV r (.slice A r.power.length c)) ∧ OwnSl 3 elPha 45 (w.heap.size + 1) w' (.slice A r.power.length c) r.power ∧ Below w.heap.size w w'
theorem clone_end {w w2 : World} {r : Rul} {A : Option Addr} {c : Nat} {pv0 : Value} (hb : Below w.heap.size w w2) (hz : w.heap.size + 1 < w2.heap.size) (ho : OwnSl 3 elPha 45 (w.heap.size + 1 + 1) w2 (.slice A r.power.length c) r.power)
    (hk : Blk w2 (w.heap.size + 1) 24 zeroR) :
    ClonePost w r (.returned (rulV r (.slice A r.power.length c))) ((w2.setCell ⟨w.heap.size, 13, none⟩ (.slice A r.power.length c)).setRow (w.heap.size + 1) (rulCells r (.slice A r.power.length c))) := by
  have h1 := (Only.refl w.heap.size w2).setCell (p := ⟨w.heap.size, 13, none⟩) (.inl rfl) (.slice A r.power.length c)
  have h2 := Only.row (w.heap.size + 1) (w2.setCell ⟨w.heap.size, 13, none⟩ (.slice A r.power.length c)) (rulCells r (.slice A r.power.length c))
  have hsz := h1.size
  have hblk := ho.block
  refine ⟨A, c, rfl, ?_, (hb.trans (h1.below (Nat.le_refl _) (by omega))).trans (h2.below (by omega) (by omega))⟩
  obtain ⟨css, a1, a2, a3, a4⟩ := (OwnSl.grown elPha_good (OwnSl.grown elPha_good ho h1 fun b hb e => by have := hblk b hb; have := Option.some.inj e; omega) h2 fun b hb e => by have := hblk b hb; have := Option.some.inj e; omega)
  exact ⟨css, a1, a2.mono (by omega), a3, a4⟩
set_option maxRecDepth 100000 in
set_option maxHeartbeats 4000000 in
theorem rul_Clone (r : Rul) (pv : Value) (w : World) (h : Sl 3 elPha w (· < w.heap.size) pv r.power) (hl : r.power.length ≤ 1000) :
    Calls Tryz.prog 28 #[rulV r pv] w (ClonePost w r) := by
  obtain ⟨A, c, rfl, hc, hc2⟩ := h.shape
  obtain ⟨w0, hw0⟩ : ∃ x, x = (w.alloc (.cells (rulCells r (.slice A r.power.length c)) 24)).alloc (.cells zeroR 24) := ⟨_, rfl⟩
  have hz0 : w0.heap.size = w.heap.size + 1 + 1 := by rw [hw0]; simp
  have hb0 : Below w.heap.size w w0 := by rw [hw0]; exact (Below.alloc (Below.refl _ _) (Nat.le_refl _) _).alloc (by simp) _
  have hk0 : Blk w0 w.heap.size 24 (rulCells r (.slice A r.power.length c)) := by rw [hw0]; exact (Blk.new w _ _).alloc _
  have hr0 : Blk w0 (w.heap.size + 1) 24 zeroR := by
    rw [hw0]
    have := Blk.new (w.alloc (.cells (rulCells r (.slice A r.power.length c)) 24)) 24 zeroR
    simpa using this
  have hs0 : Sl 3 elPha w0 (· < w.heap.size) (.slice A r.power.length c) r.power := h.below elPha_good hb0
  have k1 := pha_Clone r.power (.slice A r.power.length c) (· < w.heap.size) w0 hs0 (fun b hb => by omega) hl
  rw [hz0] at k1
  have hst : ∀ A2 c2 w2, OwnSl 3 elPha 45 (w.heap.size + 1 + 1) w2 (.slice A2 r.power.length c2) r.power → Below (w.heap.size + 1 + 1) w0 w2 → Below w.heap.size w w2 ∧ w.heap.size + 1 < w2.heap.size ∧ Blk w2 w.heap.size 24 (rulCells r (.slice A r.power.length c)) ∧ Blk w2 (w.heap.size + 1) 24 zeroR := fun A2 c2 w2 ho hb => by
    have := hb.size
    exact ⟨hb0.trans (hb.mono (by omega)), by omega, hk0.below hb (by omega), hr0.below hb (by omega)⟩
  have HST := Lib.hid hst
  rw [hw0] at k1
  unfold zeroR rulCells at k1
  have K1 := Lib.hid k1
  have HST2 : Hid (∀ A2 c2 w2, OwnSl 3 elPha 45 (w.heap.size + 1 + 1) w2 (.slice A2 r.power.length c2) r.power → Below (w.heap.size + 1 + 1) ((w.alloc (.cells (rulCells r (.slice A r.power.length c)) 24)).alloc (.cells zeroR 24)) w2 → Below w.heap.size w w2 ∧ w.heap.size + 1 < w2.heap.size ∧ Blk w2 w.heap.size 24 (rulCells r (.slice A r.power.length c)) ∧ Blk w2 (w.heap.size + 1) 24 zeroR) := by rw [← hw0]; exact HST
  clear HST
  clear k1 hst h hc hc2 hk0 hr0 hs0 hb0 hz0 hw0 hl
  clear w0
  unfold rulV rulCells
  go_enter Tryz.func28, Tryz.ntmps28
  go_wp2_with (go_at_call 57; refine K1.out.mono ?_; rintro e w2 ⟨A2, c2, rfl, ho, hb⟩; obtain ⟨hbw, hlt, hy, hz⟩ := HST2.out _ _ _ ho hb; obtain ⟨y0, y1, y2, y3, y4, y5, y6, y7, y8, y9, y10, y11, y12, y13⟩ := Blk.fourteen (show Blk _ _ _ #[.string (S r.name), .int .i64 r.side, .int .i64 r.inns, .int .i64 r.overs, .int .i64 r.balls, .int .i64 r.quota, .int .i64 r.wide, .int .i64 r.noball, .bool r.free, .int .i64 r.newball, .int .i64 r.follow, .int .i64 r.reviews, .int .i64 r.outside, .slice A r.power.length c] from hy); have yf13 := hy.frozen 13; obtain ⟨z0, z1, z2, z3, z4, z5, z6, z7, z8, z9, z10, z11, z12, z13⟩ := Blk.fourteen (show Blk _ _ _ #[.string ⟨#[]⟩, .int .i64 0, .int .i64 0, .int .i64 0, .int .i64 0, .int .i64 0, .int .i64 0, .int .i64 0, .bool false, .int .i64 0, .int .i64 0, .int .i64 0, .int .i64 0, .slice none 0 0] from hz); have zf0 := Blk.frozen (show Blk _ _ _ #[.string ⟨#[]⟩, .int .i64 0, .int .i64 0, .int .i64 0, .int .i64 0, .int .i64 0, .int .i64 0, .int .i64 0, .bool false, .int .i64 0, .int .i64 0, .int .i64 0, .int .i64 0, .slice none 0 0] from hz) 0; have zf1 := Blk.frozen (show Blk _ _ _ #[.string ⟨#[]⟩, .int .i64 0, .int .i64 0, .int .i64 0, .int .i64 0, .int .i64 0, .int .i64 0, .int .i64 0, .bool false, .int .i64 0, .int .i64 0, .int .i64 0, .int .i64 0, .slice none 0 0] from hz) 1; have zf2 := Blk.frozen (show Blk _ _ _ #[.string ⟨#[]⟩, .int .i64 0, .int .i64 0, .int .i64 0, .int .i64 0, .int .i64 0, .int .i64 0, .int .i64 0, .bool false, .int .i64 0, .int .i64 0, .int .i64 0, .int .i64 0, .slice none 0 0] from hz) 2; have zf3 := Blk.frozen (show Blk _ _ _ #[.string ⟨#[]⟩, .int .i64 0, .int .i64 0, .int .i64 0, .int .i64 0, .int .i64 0, .int .i64 0, .int .i64 0, .bool false, .int .i64 0, .int .i64 0, .int .i64 0, .int .i64 0, .slice none 0 0] from hz) 3; have zf4 := Blk.frozen (show Blk _ _ _ #[.string ⟨#[]⟩, .int .i64 0, .int .i64 0, .int .i64 0, .int .i64 0, .int .i64 0, .int .i64 0, .int .i64 0, .bool false, .int .i64 0, .int .i64 0, .int .i64 0, .int .i64 0, .slice none 0 0] from hz) 4; have zf5 := Blk.frozen (show Blk _ _ _ #[.string ⟨#[]⟩, .int .i64 0, .int .i64 0, .int .i64 0, .int .i64 0, .int .i64 0, .int .i64 0, .int .i64 0, .bool false, .int .i64 0, .int .i64 0, .int .i64 0, .int .i64 0, .slice none 0 0] from hz) 5; have zf6 := Blk.frozen (show Blk _ _ _ #[.string ⟨#[]⟩, .int .i64 0, .int .i64 0, .int .i64 0, .int .i64 0, .int .i64 0, .int .i64 0, .int .i64 0, .bool false, .int .i64 0, .int .i64 0, .int .i64 0, .int .i64 0, .slice none 0 0] from hz) 6; have zf7 := Blk.frozen (show Blk _ _ _ #[.string ⟨#[]⟩, .int .i64 0, .int .i64 0, .int .i64 0, .int .i64 0, .int .i64 0, .int .i64 0, .int .i64 0, .bool false, .int .i64 0, .int .i64 0, .int .i64 0, .int .i64 0, .slice none 0 0] from hz) 7; have zf8 := Blk.frozen (show Blk _ _ _ #[.string ⟨#[]⟩, .int .i64 0, .int .i64 0, .int .i64 0, .int .i64 0, .int .i64 0, .int .i64 0, .int .i64 0, .bool false, .int .i64 0, .int .i64 0, .int .i64 0, .int .i64 0, .slice none 0 0] from hz) 8; have zf9 := Blk.frozen (show Blk _ _ _ #[.string ⟨#[]⟩, .int .i64 0, .int .i64 0, .int .i64 0, .int .i64 0, .int .i64 0, .int .i64 0, .int .i64 0, .bool false, .int .i64 0, .int .i64 0, .int .i64 0, .int .i64 0, .slice none 0 0] from hz) 9; have zf10 := Blk.frozen (show Blk _ _ _ #[.string ⟨#[]⟩, .int .i64 0, .int .i64 0, .int .i64 0, .int .i64 0, .int .i64 0, .int .i64 0, .int .i64 0, .bool false, .int .i64 0, .int .i64 0, .int .i64 0, .int .i64 0, .slice none 0 0] from hz) 10; have zf11 := Blk.frozen (show Blk _ _ _ #[.string ⟨#[]⟩, .int .i64 0, .int .i64 0, .int .i64 0, .int .i64 0, .int .i64 0, .int .i64 0, .int .i64 0, .bool false, .int .i64 0, .int .i64 0, .int .i64 0, .int .i64 0, .slice none 0 0] from hz) 11; have zf12 := Blk.frozen (show Blk _ _ _ #[.string ⟨#[]⟩, .int .i64 0, .int .i64 0, .int .i64 0, .int .i64 0, .int .i64 0, .int .i64 0, .int .i64 0, .bool false, .int .i64 0, .int .i64 0, .int .i64 0, .int .i64 0, .slice none 0 0] from hz) 12; have zf13 := Blk.frozen (show Blk _ _ _ #[.string ⟨#[]⟩, .int .i64 0, .int .i64 0, .int .i64 0, .int .i64 0, .int .i64 0, .int .i64 0, .int .i64 0, .bool false, .int .i64 0, .int .i64 0, .int .i64 0, .int .i64 0, .slice none 0 0] from hz) 13; have HO := Lib.hid ho; have HBW := Lib.hid hbw; have HLT := Lib.hid hlt; have HZ := Lib.hid hz; clear ho hb hbw hlt hy hz)
  have hz9 := HZ.out.far (p := ⟨w.heap.size, 13, none⟩) (by simp) (.slice A2 r.power.length c2)
  rw [zero_chain hz9]
  refine clone_ret (q := r) (pv := .slice A2 r.power.length c2) (g := w.heap.size + 1) rfl (hz9.row _) rfl ?_
  exact clone_end (pv0 := .slice none 0 0) HBW.out HLT.out HO.out HZ.out
set_option maxRecDepth 100000 in
set_option maxHeartbeats 4000000 in
theorem ref_RClone (r : Rul) (pv : Value) (w : World) (h : Sl 3 elPha w (· < w.heap.size) pv r.power) (hl : r.power.length ≤ 1000) :
    Calls Tryz.prog 29 #[rulV r pv] w (ClonePost w r) := by
  obtain ⟨A, c, rfl, hc, hc2⟩ := h.shape
  obtain ⟨w0, hw0⟩ : ∃ x, x = (w.alloc (.cells (rulCells r (.slice A r.power.length c)) 24)).alloc (.cells zeroR 24) := ⟨_, rfl⟩
  have hz0 : w0.heap.size = w.heap.size + 1 + 1 := by rw [hw0]; simp
  have hb0 : Below w.heap.size w w0 := by rw [hw0]; exact (Below.alloc (Below.refl _ _) (Nat.le_refl _) _).alloc (by simp) _
  have hk0 : Blk w0 w.heap.size 24 (rulCells r (.slice A r.power.length c)) := by rw [hw0]; exact (Blk.new w _ _).alloc _
  have hr0 : Blk w0 (w.heap.size + 1) 24 zeroR := by
    rw [hw0]
    have := Blk.new (w.alloc (.cells (rulCells r (.slice A r.power.length c)) 24)) 24 zeroR
    simpa using this
  have hs0 : Sl 3 elPha w0 (· < w.heap.size) (.slice A r.power.length c) r.power := h.below elPha_good hb0
  have hown : OwnG 3 elPha 45 (w.heap.size + 1 + 1) (w0.alloc (.cells #[] 45)) (.slice (some ⟨w.heap.size + 1 + 1, 0, none⟩) 0 0) NoG [] := by
    have := World.ownsRow_made (base := w.heap.size + 1 + 1) (e := 45) (size := 3) w0 #[] 0 (by omega) (by decide) rfl
    rw [hz0] at this
    exact ⟨[], rfl, this, by simp, by simp⟩
  have hbe : Below w0.heap.size w0 (w0.alloc (.cells #[] 45)) := Below.alloc (Below.refl _ _) (Nat.le_refl _) _
  have hse := hs0.keep elPha_good (Same.below hbe fun b (hb : b < w.heap.size) => by omega) (G := (· < w.heap.size)) fun _ h => h
  have hze : w.heap.size + 1 + 1 ≤ (w0.alloc (.cells #[] 45)).heap.size := by simp; omega
  have hst : ∀ w2, Below (w.heap.size + 1 + 1) (w0.alloc (.cells #[] 45)) w2 → Below w.heap.size w w2 ∧ w.heap.size + 1 < w2.heap.size ∧ Blk w2 w.heap.size 24 (rulCells r (.slice A r.power.length c)) ∧ Blk w2 (w.heap.size + 1) 24 zeroR := fun w2 hb => by
    have := hb.size
    have h2 : Below (w.heap.size + 1 + 1) w0 w2 := (hbe.mono (by omega)).trans hb
    exact ⟨hb0.trans (h2.mono (by omega)), by omega, hk0.below h2 (by omega), hr0.below h2 (by omega)⟩
  rw [hw0] at hown hse hze hst
  have HO0 := Lib.hid hown
  have HS0 := Lib.hid hse
  have HZ0 := Lib.hid hze
  have HST := Lib.hid hst
  have h63 : r.power.length ≤ maxLen := by simp only [maxLen]; omega
  have h64 : r.power.length * 24 ≤ 140737488355328 := by omega
  clear hst hown hbe hse hze h hc hc2 hk0 hr0 hs0 hb0 hz0 hw0 hl
  clear w0
  unfold rulV rulCells
  go_enter Tryz.func29, Tryz.ntmps29
  go_wp2_with (at_builtin; refine wpList_append_own rfl (.tmp 3) (.tmp 5) _ rfl E_pha elPha_good (w.heap.size + 1 + 1) ⟨w.heap.size + 1 + 1, 0, none⟩ r.power rfl HO0.out (· < w.heap.size) A r.power.length c rfl HS0.out elPha_F elPha_one h63 h64 HZ0.out ?_; intro A2 c2 w2 ho hb; obtain ⟨hbw, hlt, hy, hz⟩ := HST.out _ hb; obtain ⟨y0, y1, y2, y3, y4, y5, y6, y7, y8, y9, y10, y11, y12, y13⟩ := Blk.fourteen (show Blk _ _ _ #[.string (S r.name), .int .i64 r.side, .int .i64 r.inns, .int .i64 r.overs, .int .i64 r.balls, .int .i64 r.quota, .int .i64 r.wide, .int .i64 r.noball, .bool r.free, .int .i64 r.newball, .int .i64 r.follow, .int .i64 r.reviews, .int .i64 r.outside, .slice A r.power.length c] from hy); have yf13 := hy.frozen 13; obtain ⟨z0, z1, z2, z3, z4, z5, z6, z7, z8, z9, z10, z11, z12, z13⟩ := Blk.fourteen (show Blk _ _ _ #[.string ⟨#[]⟩, .int .i64 0, .int .i64 0, .int .i64 0, .int .i64 0, .int .i64 0, .int .i64 0, .int .i64 0, .bool false, .int .i64 0, .int .i64 0, .int .i64 0, .int .i64 0, .slice none 0 0] from hz); have zf0 := Blk.frozen (show Blk _ _ _ #[.string ⟨#[]⟩, .int .i64 0, .int .i64 0, .int .i64 0, .int .i64 0, .int .i64 0, .int .i64 0, .int .i64 0, .bool false, .int .i64 0, .int .i64 0, .int .i64 0, .int .i64 0, .slice none 0 0] from hz) 0; have zf1 := Blk.frozen (show Blk _ _ _ #[.string ⟨#[]⟩, .int .i64 0, .int .i64 0, .int .i64 0, .int .i64 0, .int .i64 0, .int .i64 0, .int .i64 0, .bool false, .int .i64 0, .int .i64 0, .int .i64 0, .int .i64 0, .slice none 0 0] from hz) 1; have zf2 := Blk.frozen (show Blk _ _ _ #[.string ⟨#[]⟩, .int .i64 0, .int .i64 0, .int .i64 0, .int .i64 0, .int .i64 0, .int .i64 0, .int .i64 0, .bool false, .int .i64 0, .int .i64 0, .int .i64 0, .int .i64 0, .slice none 0 0] from hz) 2; have zf3 := Blk.frozen (show Blk _ _ _ #[.string ⟨#[]⟩, .int .i64 0, .int .i64 0, .int .i64 0, .int .i64 0, .int .i64 0, .int .i64 0, .int .i64 0, .bool false, .int .i64 0, .int .i64 0, .int .i64 0, .int .i64 0, .slice none 0 0] from hz) 3; have zf4 := Blk.frozen (show Blk _ _ _ #[.string ⟨#[]⟩, .int .i64 0, .int .i64 0, .int .i64 0, .int .i64 0, .int .i64 0, .int .i64 0, .int .i64 0, .bool false, .int .i64 0, .int .i64 0, .int .i64 0, .int .i64 0, .slice none 0 0] from hz) 4; have zf5 := Blk.frozen (show Blk _ _ _ #[.string ⟨#[]⟩, .int .i64 0, .int .i64 0, .int .i64 0, .int .i64 0, .int .i64 0, .int .i64 0, .int .i64 0, .bool false, .int .i64 0, .int .i64 0, .int .i64 0, .int .i64 0, .slice none 0 0] from hz) 5; have zf6 := Blk.frozen (show Blk _ _ _ #[.string ⟨#[]⟩, .int .i64 0, .int .i64 0, .int .i64 0, .int .i64 0, .int .i64 0, .int .i64 0, .int .i64 0, .bool false, .int .i64 0, .int .i64 0, .int .i64 0, .int .i64 0, .slice none 0 0] from hz) 6; have zf7 := Blk.frozen (show Blk _ _ _ #[.string ⟨#[]⟩, .int .i64 0, .int .i64 0, .int .i64 0, .int .i64 0, .int .i64 0, .int .i64 0, .int .i64 0, .bool false, .int .i64 0, .int .i64 0, .int .i64 0, .int .i64 0, .slice none 0 0] from hz) 7; have zf8 := Blk.frozen (show Blk _ _ _ #[.string ⟨#[]⟩, .int .i64 0, .int .i64 0, .int .i64 0, .int .i64 0, .int .i64 0, .int .i64 0, .int .i64 0, .bool false, .int .i64 0, .int .i64 0, .int .i64 0, .int .i64 0, .slice none 0 0] from hz) 8; have zf9 := Blk.frozen (show Blk _ _ _ #[.string ⟨#[]⟩, .int .i64 0, .int .i64 0, .int .i64 0, .int .i64 0, .int .i64 0, .int .i64 0, .int .i64 0, .bool false, .int .i64 0, .int .i64 0, .int .i64 0, .int .i64 0, .slice none 0 0] from hz) 9; have zf10 := Blk.frozen (show Blk _ _ _ #[.string ⟨#[]⟩, .int .i64 0, .int .i64 0, .int .i64 0, .int .i64 0, .int .i64 0, .int .i64 0, .int .i64 0, .bool false, .int .i64 0, .int .i64 0, .int .i64 0, .int .i64 0, .slice none 0 0] from hz) 10; have zf11 := Blk.frozen (show Blk _ _ _ #[.string ⟨#[]⟩, .int .i64 0, .int .i64 0, .int .i64 0, .int .i64 0, .int .i64 0, .int .i64 0, .int .i64 0, .bool false, .int .i64 0, .int .i64 0, .int .i64 0, .int .i64 0, .slice none 0 0] from hz) 11; have zf12 := Blk.frozen (show Blk _ _ _ #[.string ⟨#[]⟩, .int .i64 0, .int .i64 0, .int .i64 0, .int .i64 0, .int .i64 0, .int .i64 0, .int .i64 0, .bool false, .int .i64 0, .int .i64 0, .int .i64 0, .int .i64 0, .slice none 0 0] from hz) 12; have zf13 := Blk.frozen (show Blk _ _ _ #[.string ⟨#[]⟩, .int .i64 0, .int .i64 0, .int .i64 0, .int .i64 0, .int .i64 0, .int .i64 0, .int .i64 0, .bool false, .int .i64 0, .int .i64 0, .int .i64 0, .int .i64 0, .slice none 0 0] from hz) 13; have HO := Lib.hid ho; have HBW := Lib.hid hbw; have HLT := Lib.hid hlt; have HZ := Lib.hid hz; clear ho hb hbw hlt hy hz)
  have hz9 := HZ.out.far (p := ⟨w.heap.size, 13, none⟩) (by simp) (.slice A2 r.power.length c2)
  rw [zero_chain hz9]
  refine rclone_ret (q := r) (pv := .slice A2 r.power.length c2) (g := w.heap.size + 1) rfl (hz9.row _) rfl ?_
  exact clone_end (pv0 := .slice none 0 0) HBW.out HLT.out HO.out HZ.out
end Go.Proofs.YtnacklbaphobbaaGreatDoor
