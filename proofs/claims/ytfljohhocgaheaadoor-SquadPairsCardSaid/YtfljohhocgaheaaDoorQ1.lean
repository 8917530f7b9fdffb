/- Contracts of squad.Title, Find and Same. -/
import Derived.Test.YtfljohhocgaheaaDoorS
import Derived.Test.YtfljohhocgaheaaDoorP5
import Derived.Test.YtfljohhocgaheaaDoorB
set_option linter.unusedSimpArgs false
set_option linter.unusedVariables false
namespace Go.Proofs.YtfljohhocgaheaaDoor
open Go.RowKit

/-- A side as a value. -/
def sqV (q : Sqd) (pv : Value) : Value := .agg #[.string (S q.name), pv, .int .i64 q.cap, .int .i64 q.kee]


set_option maxRecDepth 100000 in
set_option maxHeartbeats 2000000 in
theorem sq_Find (q : Sqd) (pv : Value) (x : ByteArray) (w : World) (h : Sl 1 elStr w (· < w.heap.size) pv q.players) :
    Calls Tryd.prog 21 #[sqV q pv, .string x] w fun e w' => e = .returned (.int .i64 (indexS q.players x.data.toList + 1)) ∧ Below w.heap.size w w' := by
  unfold sqV
  obtain ⟨hle1, hle2⟩ := indexS_le q.players x.data.toList
  obtain ⟨A, c, rfl, hc, hc'⟩ := h.shape
  have H := Lib.hid h
  clear h
  go_enter Tryd.func21, Tryd.ntmps21
  go_wp2_with (go_at_call 48; refine (str_Index _ q.players x _ _ (H.out.keep elStr_good (Same.below ((Below.refl w.heap.size w).alloc (Nat.le_refl _) _) fun _ h => h) fun _ h => h)).mono ?_; rintro e w' ⟨rfl, rfl⟩)
  go_ret
  exact ⟨rfl, (Below.refl _ _).alloc (Nat.le_refl _) _⟩

set_option maxRecDepth 100000 in
set_option maxHeartbeats 2000000 in
theorem sq_Title (q : Sqd) (pv : Value) (n : Int) (w : World) (h : Sl 1 elStr w (· < w.heap.size) pv q.players) (hl : ∀ p ∈ q.players, p.length ≤ 1000000000) :
    Calls Tryd.prog 23 #[sqV q pv, .int .i64 n] w fun e w' => e = .returned (.string (S (titleS q n))) ∧ Below w.heap.size w w' := by
  unfold sqV
  obtain ⟨t, ht⟩ : ∃ t, t = titleS q n := ⟨_, rfl⟩
  rw [← ht]
  unfold titleS at ht
  obtain ⟨A, c, rfl, hc, hc'⟩ := h.shape
  have H := Lib.hid h
  clear h
  by_cases h1 : n < 1
  · rw [if_pos (.inl h1)] at ht
    have HT := Lib.hid ht
    clear ht hl
    go_enter Tryd.func23, Tryd.ntmps23
    go_wp2
    go_ret
    exact ⟨ret_str (by rw [HT.out]), (Below.refl _ _).alloc (Nat.le_refl _) _⟩
  · by_cases h2 : (q.players.length : Int) < n
    · rw [if_pos (.inr h2)] at ht
      have HT := Lib.hid ht
      clear ht hl
      go_enter Tryd.func23, Tryd.ntmps23
      go_wp2
      go_ret
      exact ⟨ret_str (by rw [HT.out]), (Below.refl _ _).alloc (Nat.le_refl _) _⟩
    · rw [if_neg (by omega)] at ht
      obtain ⟨k, rfl⟩ : ∃ k : Nat, n = (k : Int) + 1 := ⟨(n - 1).toNat, by omega⟩
      have hk : k < q.players.length := by omega
      obtain ⟨b, o, rfl, hb, hcell⟩ := H.out.str_at hk
      have hp := hl q.players[k] (List.getElem_mem hk)
      rw [show ((k : Int) + 1 - 1).toNat = k from by omega, List.getD_eq_getElem?_getD, List.getElem?_eq_getElem hk, Option.getD_some] at ht
      obtain ⟨p, hpe⟩ : ∃ p, p = q.players[k] := ⟨_, rfl⟩
      rw [← hpe] at hcell hp ht
      have HT := Lib.hid ht
      clear ht hl hpe
      have y0 : (w.alloc (Obj.cells #[.string (S q.name), .slice (some ⟨b, o, none⟩) q.players.length c, .int .i64 q.cap, .int .i64 q.kee] 24)).cell? ⟨b, o + k, none⟩ = some (.string (S p)) := (World.cell?_alloc_lt w _ ⟨b, o + k, none⟩ hb).trans hcell
      have s1 : (⟨#[32, 40, 99, 41]⟩ : ByteArray).size = 4 := rfl
      have s2 : (⟨#[32, 40, 107, 41]⟩ : ByteArray).size = 4 := rfl
      have a1 := fun W => run_string_add_sum (P := Tryd.prog) W (S p) ⟨#[32, 40, 99, 41]⟩ (by rw [s1, S_size]; omega)
      have a2 := fun W => run_string_add_sum (P := Tryd.prog) W (S p) ⟨#[32, 40, 107, 41]⟩ (by rw [s2, S_size]; omega)
      have a3 := fun W => run_string_add_sum (P := Tryd.prog) W (S p ++ ⟨#[32, 40, 99, 41]⟩) ⟨#[32, 40, 107, 41]⟩ (by rw [ByteArray.size_append, s1, s2, S_size]; omega)
      clear s1 s2 hcell
      by_cases hcap : (k : Int) + 1 = q.cap <;> by_cases hkee : (k : Int) + 1 = q.kee
      all_goals first | (have e1 : ((k : Int) + 1 == q.cap) = true := beq_iff_eq.2 (by assumption)) | (have e1 : ((k : Int) + 1 == q.cap) = false := beq_eq_false_iff_ne.2 (by assumption))
      all_goals first | (have e2 : ((k : Int) + 1 == q.kee) = true := beq_iff_eq.2 (by assumption)) | (have e2 : ((k : Int) + 1 == q.kee) = false := beq_eq_false_iff_ne.2 (by assumption))
      all_goals
        have HC := Lib.hid hcap
        have HK := Lib.hid hkee
        clear hcap hkee
        go_enter Tryd.func23, Tryd.ntmps23
        go_wp2
        go_ret
      · exact ⟨ret_str (by rw [HT.out, if_pos HC.out, if_pos HK.out]; simp), (Below.refl _ _).alloc (Nat.le_refl _) _⟩
      · exact ⟨ret_str (by rw [HT.out, if_pos HC.out, if_neg HK.out]; simp), (Below.refl _ _).alloc (Nat.le_refl _) _⟩
      · exact ⟨ret_str (by rw [HT.out, if_neg HC.out, if_pos HK.out]; simp), (Below.refl _ _).alloc (Nat.le_refl _) _⟩
      · exact ⟨ret_str (by rw [HT.out, if_neg HC.out, if_neg HK.out]; simp), (Below.refl _ _).alloc (Nat.le_refl _) _⟩

def sameS (a b : Sqd) : Bool := decide (a.name = b.name) && decide (a.players = b.players) && decide (a.cap = b.cap) && decide (a.kee = b.kee)
set_option maxRecDepth 100000 in
set_option maxHeartbeats 2000000 in
theorem sq_Same (a b : Sqd) (pv pv' : Value) (w : World) (h : Sl 1 elStr w (· < w.heap.size) pv a.players) (h' : Sl 1 elStr w (· < w.heap.size) pv' b.players) :
    Calls Tryd.prog 19 #[sqV a pv, sqV b pv'] w fun e w' => e = .returned (.bool (sameS a b)) ∧ Below w.heap.size w w' := by
  unfold sqV
  obtain ⟨t, ht⟩ : ∃ t, t = sameS a b := ⟨_, rfl⟩
  rw [← ht]
  unfold sameS at ht
  obtain ⟨A, c, rfl, hc, hc'⟩ := h.shape
  obtain ⟨A', c', rfl, hd, hd'⟩ := h'.shape
  have H := Lib.hid h
  have H' := Lib.hid h'
  clear h h'
  have hbw := ((Below.refl w.heap.size w).alloc (Nat.le_refl _) (Obj.cells #[.string (S a.name), .slice A a.players.length c, .int .i64 a.cap, .int .i64 a.kee] 24)).alloc (by simp) (Obj.cells #[.string (S b.name), .slice A' b.players.length c', .int .i64 b.cap, .int .i64 b.kee] 24)
  have HB := Lib.hid hbw
  clear hbw
  by_cases h1 : a.name = b.name
  · have e1 : (a.name == b.name) = true := beq_iff_eq.2 h1
    rw [decide_eq_true h1] at ht
    have hpe : ∀ W, Below w.heap.size w W → Calls Tryd.prog 46 #[.slice A a.players.length c, .slice A' b.players.length c'] W fun e w' => e = .returned (.bool (decide (a.players = b.players))) ∧ ∃ n, w' = W.drewN n := fun W hW =>
      str_Equal _ _ a.players b.players _ _ W (H.out.keep elStr_good (Same.below hW fun _ h => h) fun _ h => h) (H'.out.keep elStr_good (Same.below hW fun _ h => h) fun _ h => h)
    have HPE := Lib.hid hpe
    have HT := Lib.hid ht
    clear hpe h1 ht
    generalize hdp : decide (a.players = b.players) = dp at *
    have HDP := Lib.hid hdp
    clear hdp
    cases dp
    · go_enter Tryd.func19, Tryd.ntmps19
      go_wp2_with (go_at_call 46; refine (HPE.out _ HB.out).mono ?_; rintro e w' ⟨rfl, n, rfl⟩)
      go_ret
      exact ⟨ret_b (by rw [HT.out]; simp), Below.drewN_ HB.out _⟩
    · by_cases h2 : a.cap = b.cap <;> by_cases h3 : a.kee = b.kee
      all_goals first | (have e2 : (a.cap == b.cap) = true := beq_iff_eq.2 (by assumption)) | (have e2 : (a.cap == b.cap) = false := beq_eq_false_iff_ne.2 (by assumption))
      all_goals first | (have e3 : (a.kee == b.kee) = true := beq_iff_eq.2 (by assumption)) | (have e3 : (a.kee == b.kee) = false := beq_eq_false_iff_ne.2 (by assumption))
      all_goals
        have G2 := Lib.hid h2
        have G3 := Lib.hid h3
        clear h2 h3
        go_enter Tryd.func19, Tryd.ntmps19
        go_wp2_with (go_at_call 46; refine (HPE.out _ HB.out).mono ?_; rintro e w' ⟨rfl, n, rfl⟩)
        go_ret
        exact ⟨ret_b (by rw [HT.out]; simp [G2.out, G3.out]), Below.drewN_ HB.out _⟩
  · have e1 : (a.name == b.name) = false := beq_eq_false_iff_ne.2 h1
    rw [decide_eq_false h1] at ht
    have HT := Lib.hid ht
    clear h1 ht
    go_enter Tryd.func19, Tryd.ntmps19
    go_wp2
    go_ret
    exact ⟨ret_b (by rw [HT.out]; simp), HB.out⟩
end Go.Proofs.YtfljohhocgaheaaDoor
