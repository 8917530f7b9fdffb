/- conduct.Suspensions. -/
import Derived.Test.YtajcnjehjkpieaaE10
set_option linter.unusedSimpArgs false
set_option linter.unusedVariables false
namespace Go.Proofs.Ytajcnjehjkpieaa
open Go.RowKit

theorem mat_len {l : List Int} (h : matS l = 0) : l.length ≤ 400 := by
  unfold matS at h
  by_cases hb : 400 < l.length
  · rw [if_pos hb] at h; omega
  · omega
theorem pts_bound (p : List UInt8) (d : Int) : ∀ (l : List Off) (n : Int), (∀ x ∈ l, 1 ≤ x.pts ∧ x.pts ≤ 8) → n ≤ l.foldl (fun n x => if countsB p d x then n + x.pts else n) n ∧ l.foldl (fun n x => if countsB p d x then n + x.pts else n) n ≤ n + 8 * l.length
  | [], n, _ => by simp
  | x :: l, n, h => by
    have h1 := h x (List.mem_cons_self ..)
    have h2 := pts_bound p d l (if countsB p d x then n + x.pts else n) fun y hy => h y (List.mem_cons_of_mem _ hy)
    rw [List.foldl_cons, List.length_cons]
    by_cases hc : countsB p d x = true
    · simp only [hc, if_true] at h2 ⊢; push_cast; omega
    · simp only [hc] at h2 ⊢; push_cast; simp at h2 ⊢; omega
theorem mark_step {ms : List Int} {day : Int} {k : Nat} {m : List Bool} {c : Int} (hk : k < ms.length) : markF ms day (ms.length - k) k m c = if decide (0 < c) && decide (day < ms.getD k 0) && !(m.getD k false) then markF ms day (ms.length - (k + 1)) (k + 1) (m.set k true) (c - 1) else markF ms day (ms.length - (k + 1)) (k + 1) m c := by
  rw [show ms.length - k = ms.length - (k + 1) + 1 by omega, markF]
theorem sus_step {l : List Off} {p : List UInt8} {ms : List Int} {k : Nat} {m : List Bool} (hk : k < l.length) : susF l p ms (l.length - k) k m = if (ofn l k).player == p then susF l p ms (l.length - (k + 1)) (k + 1) (markF ms (ofn l k).day ms.length 0 m (costS l p k)) else susF l p ms (l.length - (k + 1)) (k + 1) m := by
  rw [show l.length - k = l.length - (k + 1) + 1 by omega, susF]
  by_cases h : (ofn l k).player = p
  · rw [if_pos h, if_pos (by simpa using h)]
  · rw [if_neg h, if_neg (by simpa using h)]
theorem out_step {ms : List Int} {m : List Bool} {k : Nat} : outF ms m (k + 1) = if m.getD k false then outF ms m k ++ [ms.getD k 0] else outF ms m k := rfl
set_option maxRecDepth 100000 in
set_option maxHeartbeats 4000000 in
theorem con_Sus_bad (l : List Off) (lv : Value) (p : List UInt8) (ms : List Int) (mv : Value) (w : World) (hl : Sl 4 elOff w (· < w.heap.size) lv l) (hm : Sl 1 elInt w (· < w.heap.size) mv ms) (h : conS l ≠ 0 ∨ matS ms ≠ 0) :
    Calls Try.prog 6 #[lv, .string (S p), mv] w (SusPost w (susS l p ms)) := by
  obtain ⟨A, c, rfl, hc, hc2⟩ := hl.shape
  obtain ⟨A', c', rfl, hc', hc2'⟩ := hm.shape
  have k1 := con_Check l _ w hl
  have k2 := fun W (hW : Below w.heap.size w W) => con_checkMatches ms _ W (hm.keep elInt_good (Same.of_below hW) fun _ h => Nat.lt_of_lt_of_le h hW.size)
  obtain ⟨z, hz⟩ : ∃ z, z = susS l p ms := ⟨_, rfl⟩
  rw [← hz]
  unfold susS at hz
  have tok0 : True := trivial
  by_cases h1 : conS l = 0
  · rw [if_neg (by simp [h1])] at hz
    have h2 : matS ms ≠ 0 := by rcases h with h | h; exact absurd h1 h; exact h
    rw [if_pos h2] at hz
    rw [h1] at k1
    have e2 : (matS ms != 0) = true := by simp [h2]
    obtain ⟨u, hu⟩ : ∃ u, u = matS ms := ⟨_, rfl⟩
    rw [← hu] at hz k2 e2
    have HZ := Lib.hid hz
    have K1 := Lib.hid k1
    have K2 := Lib.hid k2
    clear h h1 h2 hz hu k1 k2 hl hm
    go_enter Try.func6, Try.ntmps6
    go_wp2_with (first
      | (clear tok0; go_at_call 22; refine K1.out.mono ?_; rintro e w2 ⟨rfl, hb⟩; have HB2 := Lib.hid hb; clear hb; have tok1 : True := trivial)
      | (clear tok1; go_at_call 23; refine (K2.out _ HB2.out).mono ?_; rintro e w3 ⟨rfl, hb⟩; have HB3 := Lib.hid (HB2.out.trans (hb.mono HB2.out.size)); clear hb; have tok2 : True := trivial))
    go_ret2
    exact ⟨none, 0, 0, by rw [HZ.out]; rfl, by rw [HZ.out]; exact Sl.nil _ _, HB3.out⟩
  · rw [if_pos h1] at hz
    have e2 : (conS l != 0) = true := by simp [h1]
    obtain ⟨u, hu⟩ : ∃ u, u = conS l := ⟨_, rfl⟩
    rw [← hu] at hz k1 e2
    have HZ := Lib.hid hz
    have K1 := Lib.hid k1
    clear h h1 hz hu k1 k2 hl hm
    go_enter Try.func6, Try.ntmps6
    go_wp2_with (clear tok0; go_at_call 22; refine K1.out.mono ?_; rintro e w2 ⟨rfl, hb⟩; have HB2 := Lib.hid hb; clear hb; have tok1 : True := trivial)
    go_ret2
    exact ⟨none, 0, 0, by rw [HZ.out]; rfl, by rw [HZ.out]; exact Sl.nil _ _, HB2.out⟩
end Go.Proofs.Ytajcnjehjkpieaa
