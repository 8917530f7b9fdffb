/- Plain laws: all sixteen outcomes in a row; the weights of a list's start. -/
import Derived.Test.YtfnfbojaiikigaaGreatDoorP62
set_option linter.unusedSimpArgs false
set_option linter.unusedVariables false
namespace Go.Proofs.YtfnfbojaiikigaaGreatDoor

theorem wAt_one (o : Otc) (j : Nat) : wAt [o] j = if keyO o = j then o.wt else 0 := by rw [wAt_cons, wAt_nil, Int.add_zero]
theorem take_upd {d : List Otc} (hn : Neat d) {k : Nat} (hk : k < d.length) : wAt (d.take (k + 1)) = upd (wAt (d.take k)) (keyO d[k]) d[k].wt ∧ wAt (d.take k) (keyO d[k]) = 0 := by
  have e : d.take (k + 1) = d.take k ++ [d[k]] := by rw [List.take_add_one, List.getElem?_eq_getElem hk]; rfl
  constructor
  · funext j
    rw [e, wAt_app, wAt_one]
    unfold upd
    by_cases h : j = keyO d[k]
    · rw [if_pos h, if_pos h.symm]
    · rw [if_neg h, if_neg fun x => h x.symm, Int.add_zero]
  · refine wAt_none fun o ho => ?_
    obtain ⟨i, hi, rfl⟩ := List.mem_iff_getElem.1 ho
    rw [List.getElem_take]
    have := List.pairwise_iff_getElem.1 hn.asc i k (by rw [List.length_take] at hi; omega) hk (by rw [List.length_take] at hi; omega)
    omega
/-- The first 2m outcomes in the order of their keys. -/
def allF (f : Nat → Int) : Nat → List Otc
  | 0 => []
  | m + 1 => allF f m ++ [⟨(m : Int), false, f (2 * m)⟩, ⟨(m : Int), true, f (2 * m + 1)⟩]
theorem allF_len (f : Nat → Int) : ∀ m, (allF f m).length = 2 * m
  | 0 => rfl
  | m + 1 => by rw [allF, List.length_append, allF_len f m]; rfl
theorem allF_wAt (f : Nat → Int) : ∀ m j, wAt (allF f m) j = if j < 2 * m then f j else 0
  | 0, j => by rw [if_neg (by omega)]; rfl
  | m + 1, j => by
    rw [allF, wAt_app, allF_wAt f m j, wAt_cons, wAt_one]
    have e1 : keyO ⟨(m : Int), false, f (2 * m)⟩ = 2 * m := by unfold keyO; simp
    have e2 : keyO ⟨(m : Int), true, f (2 * m + 1)⟩ = 2 * m + 1 := by unfold keyO; simp
    rw [e1, e2]
    by_cases h1 : j < 2 * m
    · rw [if_pos h1, if_neg (by omega), if_neg (by omega), if_pos (by omega)]; omega
    · rw [if_neg h1]
      by_cases h2 : j = 2 * m
      · subst h2; rw [if_pos rfl, if_neg (by omega), if_pos (by omega)]; dsimp only; omega
      · rw [if_neg (fun e => h2 e.symm)]
        by_cases h3 : j = 2 * m + 1
        · subst h3; rw [if_pos rfl, if_pos (by omega)]; dsimp only; omega
        · rw [if_neg (fun e => h3 e.symm), if_neg (by omega)]; omega
theorem allF_each {f : Nat → Int} (h : Fit f) : ∀ m, m ≤ 8 → ∀ o ∈ allF f m, OkN o
  | 0, _, o, ho => by cases ho
  | m + 1, hm, o, ho => by
    rw [allF, List.mem_append] at ho
    rcases ho with ho | ho
    · exact allF_each h m (by omega) o ho
    · have a1 := h.pos (2 * m) (by omega)
      have a2 := h.pos (2 * m + 1) (by omega)
      have b1 := h.le (j := 2 * m) (by omega)
      have b2 := h.le (j := 2 * m + 1) (by omega)
      simp only [List.mem_cons, List.not_mem_nil, or_false] at ho
      rcases ho with rfl | rfl
      · exact ⟨by show (0 : Int) ≤ m; omega, by show (m : Int) ≤ 7; omega, a1, b1⟩
      · exact ⟨by show (0 : Int) ≤ m; omega, by show (m : Int) ≤ 7; omega, a2, b2⟩
theorem normS_all {f : Nat → Int} (h : Fit f) : normS (allF f 8) = (canon f, 0) := by
  have he := allF_each h 8 (Nat.le_refl _)
  have hw : ∀ j, j < 16 → wAt (allF f 8) j = f j := fun j hj => by rw [allF_wAt, if_pos (by omega)]
  have hs : sumI ((allF f 8).map (·.wt)) = 16 := by
    rw [← sumK_wAt (allF f 8) fun o ho => ⟨(he o ho).r0, (he o ho).r7⟩, sumK_congr (g := f) 16 0 fun j _ h2 => hw j (by omega)]; exact h.sum
  unfold normS
  rw [if_neg (by rw [allF_len]; omega), if_neg, if_neg (by omega), canon_congr hw]
  intro hb
  obtain ⟨o, hx, hb⟩ := List.any_eq_true.1 hb
  rw [okN_good (he o hx)] at hb; cases hb
theorem move_two (f : Nat → Int) (n : Int) : easyK (hardK f n.toNat) (-n).toNat = moveW f n := by
  unfold moveW
  by_cases h : 0 ≤ n
  · rw [if_pos h, show (-n).toNat = 0 from by omega]; rfl
  · rw [if_neg h, show n.toNat = 0 from by omega]; rfl
theorem hard_same {f : Nat → Int} {n k : Nat} (h : topF (hardK f k) 7 = 0) (hk : k ≤ n) : hardK f n = hardK f k := by
  obtain ⟨m, rfl⟩ : ∃ m, n = k + m := ⟨n - k, by omega⟩
  exact hardK_stop h m
theorem easy_same {f : Nat → Int} {n k : Nat} (h : ¬ (0 < easyK f k 1 ∨ 0 < easyK f k 0)) (hk : k ≤ n) : easyK f n = easyK f k := by
  obtain ⟨m, rfl⟩ : ∃ m, n = k + m := ⟨n - k, by omega⟩
  exact easyK_stop (fun x => h (.inl x)) (fun x => h (.inr x)) m
theorem hard_stays {n : Nat} {f : Nat → Int} (h : topF f 7 = 0) : hardF n f = f := by unfold hardF; rw [if_pos h]
theorem easy_stays {f : Nat → Int} (h : ¬ (0 < f 1 ∨ 0 < f 0)) : easyF f = f := by unfold easyF; rw [if_neg fun x => h (.inl x), if_neg fun x => h (.inr x)]
theorem shift_bad {d : List Otc} {n : Int} (h : checkD d ≠ 0) : shiftS d n = ([], checkD d) := by unfold shiftS; rw [if_pos h]
theorem shift_far {d : List Otc} {n : Int} (h : checkD d = 0) (hn : n < -12 ∨ 12 < n) : shiftS d n = ([], 2) := by unfold shiftS; rw [if_neg (by omega), if_pos hn]
end Go.Proofs.YtfnfbojaiikigaaGreatDoor
