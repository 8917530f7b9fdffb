/- The reference's contracts: names; Find, Title, Check of sides. -/
import Derived.Test.YtfljohhocgaheaaDoorP9
import Derived.Test.YtfljohhocgaheaaDoorQ2
set_option linter.unusedSimpArgs false
set_option linter.unusedVariables false
namespace Go.Proofs.YtfljohhocgaheaaDoor
open Go.RowKit

set_option maxRecDepth 100000 in
set_option maxHeartbeats 4000000 in
theorem ref_Name (s : ByteArray) (w : World) (hs : s.size ≤ maxLen) :
    Calls Tryd.prog 47 #[.string s] w fun e w' => e = .returned (.bool (nameS s.data.toList)) ∧ w' = w := by
  unfold maxLen at hs
  have hb : ∀ b, (nameS s.data.toList = b) → nameS s.data.toList = b := fun _ h => h
  by_cases hz : s.size = 0
  · have e0 : s.toList.isEmpty = true := by rw [ByteArray.toList_eq, List.isEmpty_iff, ← List.length_eq_zero_iff]; simpa using hz
    have hn : nameS s.data.toList = false := by rw [Bool.eq_false_iff]; intro h; have := (nameS_eq _).1 h; have h1 := this.2.1; simp at h1; omega
    have HN := Lib.hid hn
    clear hn hb hz
    go_enter Tryd.func47, Tryd.ntmps47
    go_wp2
    go_ret
    exact ⟨ret_b HN.out.symm, rfl⟩
  · have e0 : s.toList.isEmpty = false := by rw [Bool.eq_false_iff]; intro h; rw [ByteArray.toList_eq, List.isEmpty_iff, ← List.length_eq_zero_iff] at h; exact hz (by simpa using h)
    by_cases h16 : (16 : Int) < (s.size : Int)
    · have hn : nameS s.data.toList = false := by rw [Bool.eq_false_iff]; intro h; have := (nameS_eq _).1 h; have h1 := this.2.2; simp at h1; omega
      have HN := Lib.hid hn
      clear hn hb hz
      go_enter Tryd.func47, Tryd.ntmps47
      go_wp2
      go_ret
      exact ⟨ret_b HN.out.symm, rfl⟩
    · have h16' : (s.size : Int) ≤ 16 := by omega
      have HZ := Lib.hid hz
      clear hb hz
      go_enter Tryd.func47, Tryd.ntmps47
      go_wp2
      go_loop [3] (fun i => ∃ k : Nat, k ≤ s.size ∧ i = .int .i64 k ∧ Hid (∀ j, j < k → nameOk s.data.toList j = true)) (fun i => s.size - (intOf i).toNat)
      case atStart => exact ⟨0, Nat.zero_le _, rfl, fun j hj => absurd hj (by omega)⟩
      case round =>
        obtain ⟨k, hk, rfl, hall⟩ := hrel
        by_cases hlt : k < s.size
        · have hbad := Lib.hid (nameS_bad s k hlt)
          have hat := Lib.hid (nameOk_at s k hlt)
          rcases Nat.eq_zero_or_pos k with h0 | h0
          · have hzk : ((k : Int) == 0) = true := by rw [h0]; rfl
            have h0' := Lib.hid h0
            clear h0
            rcases (show (s[k].toNat : Int) < 65 ∨ (65 ≤ (s[k].toNat : Int) ∧ (s[k].toNat : Int) ≤ 90) ∨ 90 < (s[k].toNat : Int) from by omega) with hc | ⟨hc, hc'⟩ | hc
            all_goals ((first | (have e1 : decide ((65 : Int) ≤ (s[k].toNat : Int)) = true := decide_eq_true (by omega)) | (have e1 : decide ((65 : Int) ≤ (s[k].toNat : Int)) = false := decide_eq_false (by omega))); (first | (have e2 : decide ((s[k].toNat : Int) ≤ (90 : Int)) = true := decide_eq_true (by omega)) | (have e2 : decide ((s[k].toNat : Int) ≤ (90 : Int)) = false := decide_eq_false (by omega))); go_wp2)
            all_goals first
              | (go_ret; exact ⟨ret_b (hbad.out (by rw [hat.out, if_pos h0'.out, letterB_iff, decide_eq_false_iff_not]; omega)).symm, rfl⟩)
              | (go_round
                 case rel => exact ⟨k + 1, by omega, by go_num, nameOk_next hall hat.out (by rw [if_pos h0'.out, letterB_iff, decide_eq_true_eq]; omega)⟩
                 case measure => simp [intOf]; omega)
          · have hzk : ((k : Int) == 0) = false := by simp; omega
            rcases (show (s[k].toNat : Int) < 45 ∨ (45 ≤ (s[k].toNat : Int) ∧ (s[k].toNat : Int) ≤ 45) ∨ (46 ≤ (s[k].toNat : Int) ∧ (s[k].toNat : Int) ≤ 47) ∨ (48 ≤ (s[k].toNat : Int) ∧ (s[k].toNat : Int) ≤ 57) ∨ (58 ≤ (s[k].toNat : Int) ∧ (s[k].toNat : Int) ≤ 64) ∨ (65 ≤ (s[k].toNat : Int) ∧ (s[k].toNat : Int) ≤ 90) ∨ (91 ≤ (s[k].toNat : Int) ∧ (s[k].toNat : Int) ≤ 94) ∨ (95 ≤ (s[k].toNat : Int) ∧ (s[k].toNat : Int) ≤ 95) ∨ 95 < (s[k].toNat : Int) from by omega) with hc | ⟨hc, hc'⟩ | ⟨hc, hc'⟩ | ⟨hc, hc'⟩ | ⟨hc, hc'⟩ | ⟨hc, hc'⟩ | ⟨hc, hc'⟩ | ⟨hc, hc'⟩ | hc
            all_goals ((first | (have e1 : decide ((65 : Int) ≤ (s[k].toNat : Int)) = true := decide_eq_true (by omega)) | (have e1 : decide ((65 : Int) ≤ (s[k].toNat : Int)) = false := decide_eq_false (by omega))); (first | (have e2 : decide ((s[k].toNat : Int) ≤ (90 : Int)) = true := decide_eq_true (by omega)) | (have e2 : decide ((s[k].toNat : Int) ≤ (90 : Int)) = false := decide_eq_false (by omega))); (first | (have e3 : ((s[k].toNat : Int) != (95 : Int)) = true := by rw [bne_iff_ne]; omega) | (have e3 : ((s[k].toNat : Int) != (95 : Int)) = false := by rw [bne_eq_false_iff_eq]; omega)); (first | (have e4 : ((s[k].toNat : Int) != (45 : Int)) = true := by rw [bne_iff_ne]; omega) | (have e4 : ((s[k].toNat : Int) != (45 : Int)) = false := by rw [bne_eq_false_iff_eq]; omega)); (first | (have e5 : decide ((s[k].toNat : Int) < (48 : Int)) = true := decide_eq_true (by omega)) | (have e5 : decide ((s[k].toNat : Int) < (48 : Int)) = false := decide_eq_false (by omega))); (first | (have e6 : decide ((57 : Int) < (s[k].toNat : Int)) = true := decide_eq_true (by omega)) | (have e6 : decide ((57 : Int) < (s[k].toNat : Int)) = false := decide_eq_false (by omega))); go_wp2)
            all_goals first
              | (go_ret; exact ⟨ret_b (hbad.out (by rw [hat.out, if_neg (by omega), tailB_iff, decide_eq_false_iff_not]; omega)).symm, rfl⟩)
              | (go_round
                 case rel => exact ⟨k + 1, by omega, by go_num, nameOk_next hall hat.out (by rw [if_neg (by omega), tailB_iff, decide_eq_true_eq]; omega)⟩
                 case measure => simp [intOf]; omega)

        · obtain rfl : k = s.size := by omega
          have hn : nameS s.data.toList = true := by
            rw [nameS_end s hall.out]
            have := HZ.out
            simp; omega
          have HN := Lib.hid hn
          clear hn
          go_wp2
          go_ret
          exact ⟨ret_b HN.out.symm, rfl⟩

set_option maxRecDepth 100000 in
set_option maxHeartbeats 2000000 in
theorem rsq_Title (q : Sqd) (pv : Value) (n : Int) (w : World) (h : Sl 1 elStr w (· < w.heap.size) pv q.players) (hl : ∀ p ∈ q.players, p.length ≤ 1000000000) :
    Calls Tryd.prog 24 #[sqV q pv, .int .i64 n] w fun e w' => e = .returned (.string (S (titleS q n))) ∧ Below w.heap.size w w' := by
  unfold sqV
  obtain ⟨t, ht⟩ : ∃ t, t = titleS q n := ⟨_, rfl⟩
  rw [← ht]
  unfold titleS at ht
  obtain ⟨A, c, rfl, hc, hc'⟩ := h.shape
  have H := Lib.hid h
  clear h
  by_cases h1 : n < 1
  · rw [if_pos (.inl h1)] at ht
    have HT := Lib.hid ht
    clear ht hl
    go_enter Tryd.func24, Tryd.ntmps24
    go_wp2
    go_ret
    exact ⟨ret_str (by rw [HT.out]), (Below.refl _ _).alloc (Nat.le_refl _) _⟩
  · by_cases h2 : (q.players.length : Int) < n
    · rw [if_pos (.inr h2)] at ht
      have HT := Lib.hid ht
      clear ht hl
      go_enter Tryd.func24, Tryd.ntmps24
      go_wp2
      go_ret
      exact ⟨ret_str (by rw [HT.out]), (Below.refl _ _).alloc (Nat.le_refl _) _⟩
    · rw [if_neg (by omega)] at ht
      obtain ⟨k, rfl⟩ : ∃ k : Nat, n = (k : Int) + 1 := ⟨(n - 1).toNat, by omega⟩
      have hk : k < q.players.length := by omega
      obtain ⟨b, o, rfl, hb, hcell⟩ := H.out.str_at hk
      have hp := hl q.players[k] (List.getElem_mem hk)
      rw [show ((k : Int) + 1 - 1).toNat = k from by omega, List.getD_eq_getElem?_getD, List.getElem?_eq_getElem hk, Option.getD_some] at ht
      obtain ⟨p, hpe⟩ : ∃ p, p = q.players[k] := ⟨_, rfl⟩
      rw [← hpe] at hcell hp ht
      have HT := Lib.hid ht
      clear ht hl hpe
      have y0 : (w.alloc (Obj.cells #[.string (S q.name), .slice (some ⟨b, o, none⟩) q.players.length c, .int .i64 q.cap, .int .i64 q.kee] 24)).cell? ⟨b, o + k, none⟩ = some (.string (S p)) := (World.cell?_alloc_lt w _ ⟨b, o + k, none⟩ hb).trans hcell
      have s1 : (⟨#[32, 40, 99, 41]⟩ : ByteArray).size = 4 := rfl
      have s2 : (⟨#[32, 40, 107, 41]⟩ : ByteArray).size = 4 := rfl
      have a1 := fun W => run_string_add_sum (P := Tryd.prog) W (S p) ⟨#[32, 40, 99, 41]⟩ (by rw [s1, S_size]; omega)
      have a2 := fun W => run_string_add_sum (P := Tryd.prog) W (S p) ⟨#[32, 40, 107, 41]⟩ (by rw [s2, S_size]; omega)
      have a3 := fun W => run_string_add_sum (P := Tryd.prog) W (S p ++ ⟨#[32, 40, 99, 41]⟩) ⟨#[32, 40, 107, 41]⟩ (by rw [ByteArray.size_append, s1, s2, S_size]; omega)
      clear s1 s2 hcell
      by_cases hcap : (k : Int) + 1 = q.cap <;> by_cases hkee : (k : Int) + 1 = q.kee
      all_goals first | (have e1 : ((k : Int) + 1 == q.cap) = true := beq_iff_eq.2 (by assumption)) | (have e1 : ((k : Int) + 1 == q.cap) = false := beq_eq_false_iff_ne.2 (by assumption))
      all_goals first | (have e2 : ((k : Int) + 1 == q.kee) = true := beq_iff_eq.2 (by assumption)) | (have e2 : ((k : Int) + 1 == q.kee) = false := beq_eq_false_iff_ne.2 (by assumption))
      all_goals
        have HC := Lib.hid hcap
        have HK := Lib.hid hkee
        clear hcap hkee
        go_enter Tryd.func24, Tryd.ntmps24
        go_wp2
        go_ret
      · exact ⟨ret_str (by rw [HT.out, if_pos HC.out, if_pos HK.out]; simp), (Below.refl _ _).alloc (Nat.le_refl _) _⟩
      · exact ⟨ret_str (by rw [HT.out, if_pos HC.out, if_neg HK.out]; simp), (Below.refl _ _).alloc (Nat.le_refl _) _⟩
      · exact ⟨ret_str (by rw [HT.out, if_neg HC.out, if_pos HK.out]; simp), (Below.refl _ _).alloc (Nat.le_refl _) _⟩
      · exact ⟨ret_str (by rw [HT.out, if_neg HC.out, if_neg HK.out]; simp), (Below.refl _ _).alloc (Nat.le_refl _) _⟩

set_option maxRecDepth 100000 in
set_option maxHeartbeats 2000000 in
theorem rsq_Find (q : Sqd) (pv : Value) (x : ByteArray) (w : World) (h : Sl 1 elStr w (· < w.heap.size) pv q.players) :
    Calls Tryd.prog 22 #[sqV q pv, .string x] w fun e w' => e = .returned (.int .i64 (indexS q.players x.data.toList + 1)) ∧ Below w.heap.size w w' := by
  unfold sqV
  obtain ⟨t, ht⟩ : ∃ t, t = indexS q.players x.data.toList + 1 := ⟨_, rfl⟩
  rw [← ht]
  unfold indexS at ht
  obtain ⟨A, c, rfl, hc, hc'⟩ := h.shape
  have hb0 : Below w.heap.size w (w.alloc (.cells #[.string (S q.name), .slice A q.players.length c, .int .i64 q.cap, .int .i64 q.kee] 24)) := Below.alloc (Below.refl _ _) (Nat.le_refl _) _
  have H := Lib.hid h
  have HB := Lib.hid hb0
  have HT := Lib.hid ht
  clear h ht hb0
  go_enter Tryd.func22, Tryd.ntmps22
  go_wp2
  go_loop [10] (fun i => ∃ k : Nat, k ≤ q.players.length ∧ i = .int .i64 k ∧ Hid (t = indexF x.data.toList (q.players.drop k) k + 1)) (fun i => q.players.length - (intOf i).toNat)
  case atStart => exact ⟨0, Nat.zero_le _, rfl, HT.out⟩
  case round =>
    obtain ⟨k, hk, rfl, htk⟩ := hrel
    by_cases hlt : k < q.players.length
    · obtain ⟨b, o, rfl, hbF, hcell⟩ := H.out.str_at hlt
      have hc1 : (w.alloc (.cells #[.string (S q.name), .slice (some ⟨b, o, none⟩) q.players.length c, .int .i64 q.cap, .int .i64 q.kee] 24)).cell? ⟨b, o + k, none⟩ = some (.string (S q.players[k])) := (HB.out.cell (p := ⟨b, o + k, none⟩) hbF).trans hcell
      have hst := htk.out
      rw [List.drop_eq_getElem_cons hlt, indexF] at hst
      obtain ⟨p, hp⟩ : ∃ p, p = q.players[k] := ⟨_, rfl⟩
      rw [← hp] at hc1 hst
      clear hp hcell htk
      by_cases he : p = x.data.toList
      · have e1 : (p == x.toList) = true := by rw [he, ByteArray.toList_eq]; simp
        rw [if_pos he] at hst
        have HS := Lib.hid hst
        clear hst he
        go_wp2
        go_ret
        exact ⟨ret_i (by rw [HS.out]), HB.out⟩
      · have e1 : (p == x.toList) = false := by rw [ByteArray.toList_eq]; exact beq_eq_false_iff_ne.2 he
        rw [if_neg he] at hst
        have HS := Lib.hid hst
        clear hst he
        go_wp2
        go_round
        case rel => exact ⟨k + 1, by omega, by go_num, HS.out⟩
        case measure => simp [intOf]; omega
    · have hst := htk.out
      rw [List.drop_of_length_le (by omega), indexF] at hst
      have HS := Lib.hid hst
      clear hst htk
      go_wp2
      go_ret
      exact ⟨ret_i (by rw [HS.out]; rfl), HB.out⟩
end Go.Proofs.YtfljohhocgaheaaDoor
