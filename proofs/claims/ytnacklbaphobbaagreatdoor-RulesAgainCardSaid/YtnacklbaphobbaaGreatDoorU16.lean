/- Standard and Same (once U16, U17). -/
import Derived.Test.YtnacklbaphobbaaGreatDoorU10
import Derived.Test.YtnacklbaphobbaaGreatDoorQG
import Derived.Test.YtnacklbaphobbaaGreatDoorU3
set_option linter.unusedSimpArgs false
set_option linter.unusedVariables false
namespace Go.Proofs.YtnacklbaphobbaaGreatDoor
section
/-! part U16 -/
open Go.RowKit

/-- Rules that a function made, and a second result. -/
def RulPost (w : World) (q : Rul) (u : Value) (e : Ending) (w' : World) : Prop := ∃ pv, e = .returned (.tuple #[rulV q pv, u]) ∧ Sl 3 elPha w' (fun b => w.heap.size ≤ b ∧ b < w'.heap.size) pv q.power ∧ Below w.heap.size w w'
theorem phas_one (w : World) (p : Pha) : Sl 3 elPha (w.alloc (.cells #[.int .i64 p.fr, .int .i64 p.til, .int .i64 p.out] 45)) (fun b => w.heap.size ≤ b ∧ b < (w.alloc (.cells #[.int .i64 p.fr, .int .i64 p.til, .int .i64 p.out] 45)).heap.size) (.slice (some ⟨w.heap.size, 0, none⟩) 1 1) [p] :=
  (own_lit (R := elPha) (size := 3) (e := 45) w [[.int .i64 p.fr, .int .i64 p.til, .int .i64 p.out]] [p] rfl (by intro cs h; simp at h; subst h; rfl) (by simp [maxLen]) fun i x cs h1 h2 => by
    have hlt := (List.getElem?_eq_some_iff.1 h1).1
    have : i = 0 := by simp at hlt; exact hlt
    subst this
    simp at h1 h2; subst h1; subst h2; rfl).sl elPha_good
theorem phas_two (w : World) (p q : Pha) : Sl 3 elPha (w.alloc (.cells #[.int .i64 p.fr, .int .i64 p.til, .int .i64 p.out, .int .i64 q.fr, .int .i64 q.til, .int .i64 q.out] 45)) (fun b => w.heap.size ≤ b ∧ b < (w.alloc (.cells #[.int .i64 p.fr, .int .i64 p.til, .int .i64 p.out, .int .i64 q.fr, .int .i64 q.til, .int .i64 q.out] 45)).heap.size) (.slice (some ⟨w.heap.size, 0, none⟩) 2 2) [p, q] :=
  (own_lit (R := elPha) (size := 3) (e := 45) w [[.int .i64 p.fr, .int .i64 p.til, .int .i64 p.out], [.int .i64 q.fr, .int .i64 q.til, .int .i64 q.out]] [p, q] rfl (by intro cs h; simp at h; rcases h with rfl | rfl <;> rfl) (by simp [maxLen]) fun i x cs h1 h2 => by
    have hlt := (List.getElem?_eq_some_iff.1 h1).1
    have : i = 0 ∨ i = 1 := by simp at hlt; omega
    rcases this with rfl | rfl
    · simp at h1 h2; subst h1; subst h2; rfl
    · simp at h1 h2; subst h1; subst h2; rfl).sl elPha_good
theorem below_two (w : World) (a b : Obj) : Below w.heap.size w ((w.alloc a).alloc b) := Below.alloc (Below.alloc (Below.refl _ _) (Nat.le_refl _) _) (by simp) _
theorem size_two (w : World) (a b : Obj) : ((w.alloc a).alloc b).heap.size = w.heap.size + 1 + 1 := by simp
theorem std_two (w : World) (a b : Obj) (p q : Pha) : Sl 3 elPha (((w.alloc a).alloc b).alloc (.cells #[.int .i64 p.fr, .int .i64 p.til, .int .i64 p.out, .int .i64 q.fr, .int .i64 q.til, .int .i64 q.out] 45)) (fun x => w.heap.size ≤ x ∧ x < (((w.alloc a).alloc b).alloc (.cells #[.int .i64 p.fr, .int .i64 p.til, .int .i64 p.out, .int .i64 q.fr, .int .i64 q.til, .int .i64 q.out] 45)).heap.size) (.slice (some ⟨w.heap.size + 1 + 1, 0, none⟩) 2 2) [p, q] := by
  have h := phas_two ((w.alloc a).alloc b) p q
  rw [size_two w a b] at h
  exact h.keep elPha_good (Same.refl _ _) fun x hx => ⟨by omega, hx.2⟩
theorem std_one (w : World) (a b : Obj) (p : Pha) : Sl 3 elPha (((w.alloc a).alloc b).alloc (.cells #[.int .i64 p.fr, .int .i64 p.til, .int .i64 p.out] 45)) (fun x => w.heap.size ≤ x ∧ x < (((w.alloc a).alloc b).alloc (.cells #[.int .i64 p.fr, .int .i64 p.til, .int .i64 p.out] 45)).heap.size) (.slice (some ⟨w.heap.size + 1 + 1, 0, none⟩) 1 1) [p] := by
  have h := phas_one ((w.alloc a).alloc b) p
  rw [size_two w a b] at h
  exact h.keep elPha_good (Same.refl _ _) fun x hx => ⟨by omega, hx.2⟩
set_option maxRecDepth 100000 in
set_option maxHeartbeats 2000000 in
theorem rul_Standard (n : List UInt8) (w : World) : Calls Tryz.prog 18 #[.string (S n)] w (RulPost w (standardS n).1 (.int .i64 (standardS n).2)) := by
  have hb2 := fun a b => below_two w a b
  have HB2 := Lib.hid hb2
  clear hb2
  by_cases h1 : n = kTEST
  · have e1 : (n == [84, 69, 83, 84]) = true := by rw [h1]; rfl
    have hs : standardS n = (stdTest, 0) := by unfold standardS; rw [if_pos h1]
    rw [hs]
    have hn : S n = ⟨#[84, 69, 83, 84]⟩ := by rw [h1]; rfl
    rw [hn]
    clear hs hn h1 e1
    go_enter Tryz.func18, Tryz.ntmps18
    go_wp2
    refine bodyPost_ret (v := .tuple #[rulV stdTest (.slice none 0 0), .int .i64 0]) (by simp [results, Tryz.results18, go_sem]; rfl) rfl ⟨_, rfl, Sl.nil _ _, HB2.out _ _⟩
  · by_cases h2 : n = kONEDAY
    · have hs : standardS n = (stdOne, 0) := by unfold standardS; rw [if_neg h1, if_pos h2]
      rw [hs]
      have hn : S n = ⟨#[79, 78, 69, 68, 65, 89]⟩ := by rw [h2]; rfl
      rw [hn]
      have hp := fun a b => std_two w a b ⟨1, 10, 2⟩ ⟨11, 40, 4⟩
      have HP := Lib.hid hp
      clear hs hn h1 h2 hp
      go_enter Tryz.func18, Tryz.ntmps18
      go_wp2
      refine bodyPost_ret (v := .tuple #[rulV stdOne (.slice (some ⟨w.heap.size + 1 + 1, 0, none⟩) 2 2), .int .i64 0]) (by simp [results, Tryz.results18, go_sem]; rfl) rfl ⟨_, rfl, ?_, ?_⟩
      · exact HP.out _ _
      · exact (HB2.out _ _).alloc (by simp; omega) _
    · by_cases h3 : n = kTWENTY
      · have hs : standardS n = (stdTwenty, 0) := by unfold standardS; rw [if_neg h1, if_neg h2, if_pos h3]
        rw [hs]
        have hn : S n = ⟨#[84, 87, 69, 78, 84, 89]⟩ := by rw [h3]; rfl
        rw [hn]
        have hp := fun a b => std_one w a b ⟨1, 6, 2⟩
        have HP := Lib.hid hp
        clear hs hn h1 h2 h3 hp
        go_enter Tryz.func18, Tryz.ntmps18
        go_wp2
        refine bodyPost_ret (v := .tuple #[rulV stdTwenty (.slice (some ⟨w.heap.size + 1 + 1, 0, none⟩) 1 1), .int .i64 0]) (by simp [results, Tryz.results18, go_sem]; rfl) rfl ⟨_, rfl, ?_, ?_⟩
        · exact HP.out _ _
        · exact (HB2.out _ _).alloc (by simp; omega) _
      · have hs : standardS n = (noRul, 6) := by unfold standardS; rw [if_neg h1, if_neg h2, if_neg h3]
        rw [hs]
        have e1 : (n == [84, 69, 83, 84]) = false := beq_eq_false_iff_ne.2 h1
        have e2 : (n == [79, 78, 69, 68, 65, 89]) = false := beq_eq_false_iff_ne.2 h2
        have e3 : (n == [84, 87, 69, 78, 84, 89]) = false := beq_eq_false_iff_ne.2 h3
        clear hs h1 h2 h3
        go_enter Tryz.func18, Tryz.ntmps18
        go_wp2
        refine bodyPost_ret (v := .tuple #[rulV noRul (.slice none 0 0), .int .i64 6]) (by simp [results, Tryz.results18, go_sem]; rfl) rfl ⟨_, rfl, Sl.nil _ _, HB2.out _ _⟩
set_option maxRecDepth 100000 in
set_option maxHeartbeats 2000000 in
theorem ref_Standard (n : List UInt8) (w : World) : Calls Tryz.prog 19 #[.string (S n)] w (RulPost w (standardS n).1 (.int .i64 (standardS n).2)) := by
  have hb2 := fun a b => below_two w a b
  have HB2 := Lib.hid hb2
  clear hb2
  by_cases h1 : n = kTEST
  · have e1 : (n == [84, 69, 83, 84]) = true := by rw [h1]; rfl
    have hs : standardS n = (stdTest, 0) := by unfold standardS; rw [if_pos h1]
    rw [hs]
    have hn : S n = ⟨#[84, 69, 83, 84]⟩ := by rw [h1]; rfl
    rw [hn]
    clear hs hn h1 e1
    go_enter Tryz.func19, Tryz.ntmps19
    go_wp2
    refine bodyPost_ret (v := .tuple #[rulV stdTest (.slice none 0 0), .int .i64 0]) (by simp [results, Tryz.results19, go_sem]; rfl) rfl ⟨_, rfl, Sl.nil _ _, HB2.out _ _⟩
  · by_cases h2 : n = kONEDAY
    · have hs : standardS n = (stdOne, 0) := by unfold standardS; rw [if_neg h1, if_pos h2]
      rw [hs]
      have hn : S n = ⟨#[79, 78, 69, 68, 65, 89]⟩ := by rw [h2]; rfl
      rw [hn]
      have hp := fun a b => std_two w a b ⟨1, 10, 2⟩ ⟨11, 40, 4⟩
      have HP := Lib.hid hp
      clear hs hn h1 h2 hp
      go_enter Tryz.func19, Tryz.ntmps19
      go_wp2
      refine bodyPost_ret (v := .tuple #[rulV stdOne (.slice (some ⟨w.heap.size + 1 + 1, 0, none⟩) 2 2), .int .i64 0]) (by simp [results, Tryz.results19, go_sem]; rfl) rfl ⟨_, rfl, ?_, ?_⟩
      · exact HP.out _ _
      · exact (HB2.out _ _).alloc (by simp; omega) _
    · by_cases h3 : n = kTWENTY
      · have hs : standardS n = (stdTwenty, 0) := by unfold standardS; rw [if_neg h1, if_neg h2, if_pos h3]
        rw [hs]
        have hn : S n = ⟨#[84, 87, 69, 78, 84, 89]⟩ := by rw [h3]; rfl
        rw [hn]
        have hp := fun a b => std_one w a b ⟨1, 6, 2⟩
        have HP := Lib.hid hp
        clear hs hn h1 h2 h3 hp
        go_enter Tryz.func19, Tryz.ntmps19
        go_wp2
        refine bodyPost_ret (v := .tuple #[rulV stdTwenty (.slice (some ⟨w.heap.size + 1 + 1, 0, none⟩) 1 1), .int .i64 0]) (by simp [results, Tryz.results19, go_sem]; rfl) rfl ⟨_, rfl, ?_, ?_⟩
        · exact HP.out _ _
        · exact (HB2.out _ _).alloc (by simp; omega) _
      · have hs : standardS n = (noRul, 6) := by unfold standardS; rw [if_neg h1, if_neg h2, if_neg h3]
        rw [hs]
        have e1 : (n == [84, 69, 83, 84]) = false := beq_eq_false_iff_ne.2 h1
        have e2 : (n == [79, 78, 69, 68, 65, 89]) = false := beq_eq_false_iff_ne.2 h2
        have e3 : (n == [84, 87, 69, 78, 84, 89]) = false := beq_eq_false_iff_ne.2 h3
        clear hs h1 h2 h3
        go_enter Tryz.func19, Tryz.ntmps19
        go_wp2
        refine bodyPost_ret (v := .tuple #[rulV noRul (.slice none 0 0), .int .i64 6]) (by simp [results, Tryz.results19, go_sem]; rfl) rfl ⟨_, rfl, Sl.nil _ _, HB2.out _ _⟩
end

section
/-! part U17 -/
open Go.RowKit

theorem list_yield {P : Program} {w : World} {β : Type} (body : Nat → β → Sem (ForInStep β)) (b : β) : ∀ (l : List Nat), (∀ i ∈ l, (body i b).run P w = .ok (.yield b) w) → (forIn l b body : Sem β).run P w = .ok b w := by
  intro l
  induction l with
  | nil => intro _; simp
  | cons i l ih =>
    intro h
    rw [List.forIn_cons]
    simp only [Sem.run_bind, h i (by simp), Result.andThen_ok]
    exact ih fun j hj => h j (by simp [hj])
def numsA (r : Rul) : Array Value := #[.int .i64 r.side, .int .i64 r.inns, .int .i64 r.overs, .int .i64 r.balls, .int .i64 r.quota, .int .i64 r.wide, .int .i64 r.noball, .int .i64 r.newball, .int .i64 r.follow, .int .i64 r.reviews, .int .i64 r.outside]
theorem nums_part (r : Rul) (w : World) (i : Nat) (hi : i < 11) : ∃ v : Int, (part 3 (numsA r) (i * 1)).run Tryz.prog w = .ok (.int .i64 v) w := by
  unfold numsA
  match i, hi with
  | 0, _ => exact ⟨r.side, by kernel_rfl⟩
  | 1, _ => exact ⟨r.inns, by kernel_rfl⟩
  | 2, _ => exact ⟨r.overs, by kernel_rfl⟩
  | 3, _ => exact ⟨r.balls, by kernel_rfl⟩
  | 4, _ => exact ⟨r.quota, by kernel_rfl⟩
  | 5, _ => exact ⟨r.wide, by kernel_rfl⟩
  | 6, _ => exact ⟨r.noball, by kernel_rfl⟩
  | 7, _ => exact ⟨r.newball, by kernel_rfl⟩
  | 8, _ => exact ⟨r.follow, by kernel_rfl⟩
  | 9, _ => exact ⟨r.reviews, by kernel_rfl⟩
  | 10, _ => exact ⟨r.outside, by kernel_rfl⟩
set_option maxRecDepth 100000 in
theorem nums_equal (r : Rul) (w : World) : (Op.equalIn 10000 48 (.agg (numsA r)) (.agg (numsA r))).run Tryz.prog w = .ok true w := by
  have h : (Op.equalIn (9999 + 1) 48 (.agg (numsA r)) (.agg (numsA r))).run Tryz.prog w = .ok true w := by
    rw [Op.equalIn]
    have hz : (sizeOf 3).run Tryz.prog w = .ok 1 w := by kernel_rfl
    simp only [Sem.run_bind, run_underlying Tryz.underlying48, Result.andThen_ok, hz]
    rw [Std.Legacy.Range.forIn_eq_forIn_range', list_yield]
    · simp
    · intro i hi
      have hi' : i < 11 := by
        have := List.mem_range'_1.1 hi
        simp [Std.Legacy.Range.size] at this
        omega
      obtain ⟨v, hv⟩ := nums_part r w i hi'
      have he := run_equalIn_int (P := Tryz.prog) w 9998 3 .i64 .i64 v v Tryz.underlying3
      simp only [Sem.run_bind, hv, Result.andThen_ok]
      rw [he]
      simp
  exact h
/-- Two boxed rules whose powerplays were put aside. -/
structure Box2R (w W : World) (r : Rul) : Prop where
  k0 : Blk W w.heap.size 24 (rulCells r (.slice none 0 0))
  k1 : Blk W (w.heap.size + 1) 24 (rulCells r (.slice none 0 0))
  bel : Below w.heap.size w W
theorem Box2R.below {w W W' : World} {r : Rul} (h : Box2R w W r) (hb : Below W.heap.size W W') : Box2R w W' r := ⟨h.k0.below hb h.k0.lt, h.k1.below hb h.k1.lt, h.bel.trans (hb.mono h.bel.size)⟩
theorem Box2R.new (w : World) (r : Rul) (pv qv : Value) (n : Nat) : Box2R w (((((w.alloc (.cells (rulCells r pv) 24)).alloc (.cells (rulCells r qv) 24)).drewN n).setCell ⟨w.heap.size, 13, none⟩ (.slice none 0 0)).setCell ⟨w.heap.size + 1, 13, none⟩ (.slice none 0 0)) r := by
  have e : (w.alloc (.cells (rulCells r pv) 24)).heap.size = w.heap.size + 1 := by simp
  have k := Blk.new (w.alloc (.cells (rulCells r pv) 24)) 24 (rulCells r qv)
  rw [e] at k
  have k0 : Blk (((w.alloc (.cells (rulCells r pv) 24)).alloc (.cells (rulCells r qv) 24)).drewN n) w.heap.size 24 (rulCells r pv) := (Blk.new w _ _).alloc _
  have k1 : Blk (((w.alloc (.cells (rulCells r pv) 24)).alloc (.cells (rulCells r qv) 24)).drewN n) (w.heap.size + 1) 24 (rulCells r qv) := k
  exact ⟨(k0.set_ 13 (.slice none 0 0)).far (p := ⟨w.heap.size + 1, 13, none⟩) (by simp) _, (k1.far (p := ⟨w.heap.size, 13, none⟩) (by simp) _).set_ 13 (.slice none 0 0), ((Below.drewN_ (Below.alloc (Below.alloc (Below.refl _ _) (Nat.le_refl _) _) (by simp) _) n).setCell (Nat.le_refl _) _).setCell (by simp) _⟩
theorem Box2R.drew {w W : World} {r : Rul} (h : Box2R w W r) : Box2R w W.drew r := h.below (Below.drew (Below.refl _ _))
set_option maxRecDepth 100000 in
set_option maxHeartbeats 4000000 in
theorem rul_Same (r : Rul) (ps qs : List Pha) (pv qv : Value) (w : World) (h : Sl 3 elPha w (· < w.heap.size) pv ps) (h' : Sl 3 elPha w (· < w.heap.size) qv qs) :
    Calls Tryz.prog 20 #[rulV r pv, rulV r qv] w fun e w' => e = .returned (.bool (eqPhas ps qs)) ∧ Below w.heap.size w w' := by
  obtain ⟨A, c, rfl, hc, hc2⟩ := h.shape
  obtain ⟨A', c', rfl, hc', hc2'⟩ := h'.shape
  obtain ⟨z, hz⟩ : ∃ z, z = eqPhas ps qs := ⟨_, rfl⟩
  have ke : ∀ W, Box2R w W r → Calls Tryz.prog 37 #[.slice A ps.length c, .slice A' qs.length c'] W fun e w' => e = .returned (.bool z) ∧ Box2R w w' r := by
    intro W hW
    refine (pha_Equal ps qs _ _ _ _ W (h.keep elPha_good (Same.below hW.bel fun _ h => h) fun _ h => h) (h'.keep elPha_good (Same.below hW.bel fun _ h => h) fun _ h => h)).mono ?_
    rintro e w' ⟨rfl, n, rfl⟩
    exact ⟨by rw [hz], hW.below (Below.drewN_ (Below.refl _ _) n)⟩
  obtain ⟨na, hna⟩ : ∃ na, na = numsA r := ⟨_, rfl⟩
  have kn : ∀ W, Box2R w W r → Calls Tryz.prog 36 #[rulV r (.slice none 0 0)] W fun e w' => e = .returned (.agg na) ∧ Box2R w w' r := by
    intro W hW
    refine (rul_numbers r _ W).mono ?_
    rintro e w' ⟨rfl, hb⟩
    exact ⟨by rw [hna]; rfl, hW.below hb⟩
  have he : ∀ W, (Op.equalIn 10000 48 (.agg na) (.agg na)).run Tryz.prog W = .ok true W := fun W => by rw [hna]; exact nums_equal r W
  have hg : Tryz.prog.eqGuardType Tryz.prog.depth 48 = false := by kernel_rfl
  rw [← hz]
  have hst := Box2R.new w r (.slice A ps.length c) (.slice A' qs.length c')
  unfold rulCells at hst
  have HB := Lib.hid hst
  clear hst
  unfold rulV rulCells at kn
  have KE := Lib.hid ke
  have KN := Lib.hid kn
  clear ke kn hz hna h h'
  unfold rulV rulCells
  go_enter Tryz.func20, Tryz.ntmps20
  go_wp2
  go_quiet (fail)
  go_wp2
  have hst := HB.out nq
  revert hst
  generalize World.setCell _ _ _ = W
  intro hst
  have hb0 := hst.drew
  clear hst
  have HB0 := Lib.hid hb0
  obtain ⟨y0, y1, y2, y3, y4, y5, y6, y7, y8, y9, y10, y11, y12, y13⟩ := Blk.fourteen (show Blk _ _ _ #[.string (S r.name), .int .i64 r.side, .int .i64 r.inns, .int .i64 r.overs, .int .i64 r.balls, .int .i64 r.quota, .int .i64 r.wide, .int .i64 r.noball, .bool r.free, .int .i64 r.newball, .int .i64 r.follow, .int .i64 r.reviews, .int .i64 r.outside, .slice none 0 0] from hb0.k0)
  obtain ⟨z0, z1, z2, z3, z4, z5, z6, z7, z8, z9, z10, z11, z12, z13⟩ := Blk.fourteen (show Blk _ _ _ #[.string (S r.name), .int .i64 r.side, .int .i64 r.inns, .int .i64 r.overs, .int .i64 r.balls, .int .i64 r.quota, .int .i64 r.wide, .int .i64 r.noball, .bool r.free, .int .i64 r.newball, .int .i64 r.follow, .int .i64 r.reviews, .int .i64 r.outside, .slice none 0 0] from hb0.k1)
  have tok0 : True := trivial
  clear hb0
  go_region_held3 (fun w' => w'.cell? ⟨w.heap.size, 0, none⟩ = some (.string (S r.name)) ∧ w'.cell? ⟨w.heap.size, 1, none⟩ = some (.int .i64 r.side) ∧ w'.cell? ⟨w.heap.size, 2, none⟩ = some (.int .i64 r.inns) ∧ w'.cell? ⟨w.heap.size, 3, none⟩ = some (.int .i64 r.overs) ∧ w'.cell? ⟨w.heap.size, 4, none⟩ = some (.int .i64 r.balls) ∧ w'.cell? ⟨w.heap.size, 5, none⟩ = some (.int .i64 r.quota) ∧ w'.cell? ⟨w.heap.size, 6, none⟩ = some (.int .i64 r.wide) ∧ w'.cell? ⟨w.heap.size, 7, none⟩ = some (.int .i64 r.noball) ∧ w'.cell? ⟨w.heap.size, 8, none⟩ = some (.bool r.free) ∧ w'.cell? ⟨w.heap.size, 9, none⟩ = some (.int .i64 r.newball) ∧ w'.cell? ⟨w.heap.size, 10, none⟩ = some (.int .i64 r.follow) ∧ w'.cell? ⟨w.heap.size, 11, none⟩ = some (.int .i64 r.reviews) ∧ w'.cell? ⟨w.heap.size, 12, none⟩ = some (.int .i64 r.outside) ∧ w'.cell? ⟨w.heap.size, 13, none⟩ = some (.slice none 0 0) ∧ w'.cell? ⟨w.heap.size + 1, 0, none⟩ = some (.string (S r.name)) ∧ w'.cell? ⟨w.heap.size + 1, 1, none⟩ = some (.int .i64 r.side) ∧ w'.cell? ⟨w.heap.size + 1, 2, none⟩ = some (.int .i64 r.inns) ∧ w'.cell? ⟨w.heap.size + 1, 3, none⟩ = some (.int .i64 r.overs) ∧ w'.cell? ⟨w.heap.size + 1, 4, none⟩ = some (.int .i64 r.balls) ∧ w'.cell? ⟨w.heap.size + 1, 5, none⟩ = some (.int .i64 r.quota) ∧ w'.cell? ⟨w.heap.size + 1, 6, none⟩ = some (.int .i64 r.wide) ∧ w'.cell? ⟨w.heap.size + 1, 7, none⟩ = some (.int .i64 r.noball) ∧ w'.cell? ⟨w.heap.size + 1, 8, none⟩ = some (.bool r.free) ∧ w'.cell? ⟨w.heap.size + 1, 9, none⟩ = some (.int .i64 r.newball) ∧ w'.cell? ⟨w.heap.size + 1, 10, none⟩ = some (.int .i64 r.follow) ∧ w'.cell? ⟨w.heap.size + 1, 11, none⟩ = some (.int .i64 r.reviews) ∧ w'.cell? ⟨w.heap.size + 1, 12, none⟩ = some (.int .i64 r.outside) ∧ w'.cell? ⟨w.heap.size + 1, 13, none⟩ = some (.slice none 0 0)) (first | exact ⟨y0, y1, y2, y3, y4, y5, y6, y7, y8, y9, y10, y11, y12, y13, z0, z1, z2, z3, z4, z5, z6, z7, z8, z9, z10, z11, z12, z13⟩ | go_keep) (first
    | (clear tok0; go_at_call 36; refine (KN.out _ HB0.out).mono ?_; rintro e w2 ⟨rfl, hb2⟩; clear y0 y1 y2 y3 y4 y5 y6 y7 y8 y9 y10 y11 y12 y13 z0 z1 z2 z3 z4 z5 z6 z7 z8 z9 z10 z11 z12 z13; obtain ⟨y0, y1, y2, y3, y4, y5, y6, y7, y8, y9, y10, y11, y12, y13⟩ := Blk.fourteen (show Blk _ _ _ #[.string (S r.name), .int .i64 r.side, .int .i64 r.inns, .int .i64 r.overs, .int .i64 r.balls, .int .i64 r.quota, .int .i64 r.wide, .int .i64 r.noball, .bool r.free, .int .i64 r.newball, .int .i64 r.follow, .int .i64 r.reviews, .int .i64 r.outside, .slice none 0 0] from hb2.k0); obtain ⟨z0, z1, z2, z3, z4, z5, z6, z7, z8, z9, z10, z11, z12, z13⟩ := Blk.fourteen (show Blk _ _ _ #[.string (S r.name), .int .i64 r.side, .int .i64 r.inns, .int .i64 r.overs, .int .i64 r.balls, .int .i64 r.quota, .int .i64 r.wide, .int .i64 r.noball, .bool r.free, .int .i64 r.newball, .int .i64 r.follow, .int .i64 r.reviews, .int .i64 r.outside, .slice none 0 0] from hb2.k1); have HB2 := Lib.hid hb2; clear hb2; have tok1 : True := trivial)
    | (clear tok1; go_at_call 36; refine (KN.out _ HB2.out).mono ?_; rintro e w3 ⟨rfl, hb3⟩; clear y0 y1 y2 y3 y4 y5 y6 y7 y8 y9 y10 y11 y12 y13 z0 z1 z2 z3 z4 z5 z6 z7 z8 z9 z10 z11 z12 z13; obtain ⟨y0, y1, y2, y3, y4, y5, y6, y7, y8, y9, y10, y11, y12, y13⟩ := Blk.fourteen (show Blk _ _ _ #[.string (S r.name), .int .i64 r.side, .int .i64 r.inns, .int .i64 r.overs, .int .i64 r.balls, .int .i64 r.quota, .int .i64 r.wide, .int .i64 r.noball, .bool r.free, .int .i64 r.newball, .int .i64 r.follow, .int .i64 r.reviews, .int .i64 r.outside, .slice none 0 0] from hb3.k0); obtain ⟨z0, z1, z2, z3, z4, z5, z6, z7, z8, z9, z10, z11, z12, z13⟩ := Blk.fourteen (show Blk _ _ _ #[.string (S r.name), .int .i64 r.side, .int .i64 r.inns, .int .i64 r.overs, .int .i64 r.balls, .int .i64 r.quota, .int .i64 r.wide, .int .i64 r.noball, .bool r.free, .int .i64 r.newball, .int .i64 r.follow, .int .i64 r.reviews, .int .i64 r.outside, .slice none 0 0] from hb3.k1); have HB3 := Lib.hid hb3; clear hb3; have tok2 : True := trivial)
    | (clear tok2; go_at_call 37; refine (KE.out _ HB3.out).mono ?_; rintro e w4 ⟨rfl, hb4⟩; clear y0 y1 y2 y3 y4 y5 y6 y7 y8 y9 y10 y11 y12 y13 z0 z1 z2 z3 z4 z5 z6 z7 z8 z9 z10 z11 z12 z13; obtain ⟨y0, y1, y2, y3, y4, y5, y6, y7, y8, y9, y10, y11, y12, y13⟩ := Blk.fourteen (show Blk _ _ _ #[.string (S r.name), .int .i64 r.side, .int .i64 r.inns, .int .i64 r.overs, .int .i64 r.balls, .int .i64 r.quota, .int .i64 r.wide, .int .i64 r.noball, .bool r.free, .int .i64 r.newball, .int .i64 r.follow, .int .i64 r.reviews, .int .i64 r.outside, .slice none 0 0] from hb4.k0); obtain ⟨z0, z1, z2, z3, z4, z5, z6, z7, z8, z9, z10, z11, z12, z13⟩ := Blk.fourteen (show Blk _ _ _ #[.string (S r.name), .int .i64 r.side, .int .i64 r.inns, .int .i64 r.overs, .int .i64 r.balls, .int .i64 r.quota, .int .i64 r.wide, .int .i64 r.noball, .bool r.free, .int .i64 r.newball, .int .i64 r.follow, .int .i64 r.reviews, .int .i64 r.outside, .slice none 0 0] from hb4.k1); have HB4 := Lib.hid hb4; clear hb4; have tok3 : True := trivial))
  go_wp2
  go_ret
  exact ⟨rfl, HB4.out.bel⟩
end
end Go.Proofs.YtnacklbaphobbaaGreatDoor
