/- Plain laws of a shifted distribution: units of weight moved between keys. -/
import Derived.Test.YtfnfbojaiikigaaGreatDoorP60
set_option linter.unusedSimpArgs false
set_option linter.unusedVariables false
namespace Go.Proofs.YtfnfbojaiikigaaGreatDoor

/-- The most runs without a wicket that bear a weight. -/
def topF (f : Nat → Int) : Nat → Nat
  | 0 => 0
  | r + 1 => if f (2 * (r + 1)) = 0 then topF f r else r + 1
def upd (f : Nat → Int) (j : Nat) (x : Int) : Nat → Int := fun k => if k = j then f k + x else f k
def hardF (n : Nat) (f : Nat → Int) : Nat → Int := if topF f 7 = 0 then f else upd (upd f (2 * topF f 7) (-1)) (n % 2) 1
def easyF (f : Nat → Int) : Nat → Int := if 0 < f 1 then upd (upd f 1 (-1)) 2 1 else if 0 < f 0 then upd (upd f 0 (-1)) 2 1 else f
def hardK (f : Nat → Int) : Nat → Nat → Int
  | 0 => f
  | n + 1 => hardF n (hardK f n)
def easyK (f : Nat → Int) : Nat → Nat → Int
  | 0 => f
  | n + 1 => easyF (easyK f n)
def moveW (f : Nat → Int) (n : Int) : Nat → Int := if 0 ≤ n then hardK f n.toNat else easyK f (-n).toNat
def shiftS (d : List Otc) (n : Int) : List Otc × Int :=
  if checkD d ≠ 0 then ([], checkD d) else if n < -12 ∨ 12 < n then ([], 2) else (canon (moveW (wAt d) n), 0)
/-- Weights that make a distribution. -/
structure Fit (f : Nat → Int) : Prop where
  pos : ∀ j, j < 16 → 0 ≤ f j
  sum : sumK f 16 0 = 16
theorem topF_le (f : Nat → Int) : ∀ m, topF f m ≤ m
  | 0 => Nat.le_refl _
  | r + 1 => by
    have := topF_le f r
    rw [topF]; split <;> omega
theorem topF_ne {f : Nat → Int} : ∀ m, topF f m ≠ 0 → f (2 * topF f m) ≠ 0
  | 0, h => absurd rfl h
  | r + 1, h => by
    rw [topF] at h ⊢
    by_cases h0 : f (2 * (r + 1)) = 0
    · rw [if_pos h0] at h ⊢; exact topF_ne r h
    · rw [if_neg h0]; exact h0
theorem topF_over {f : Nat → Int} : ∀ m r, topF f m < r → r ≤ m → f (2 * r) = 0
  | 0, r, h1, h2 => by rw [topF] at h1; omega
  | m + 1, r, h1, h2 => by
    rw [topF] at h1
    by_cases h0 : f (2 * (m + 1)) = 0
    · rw [if_pos h0] at h1
      by_cases hr : r = m + 1
      · rw [hr]; exact h0
      · exact topF_over m r h1 (by omega)
    · rw [if_neg h0] at h1; omega
theorem topF_at {f : Nat → Int} {m r : Nat} (h0 : f (2 * r) ≠ 0) (h1 : ∀ s, r < s → s ≤ m → f (2 * s) = 0) (h2 : r ≤ m) (h3 : 1 ≤ r) : topF f m = r := by
  have hle := topF_le f m
  rcases Nat.lt_trichotomy (topF f m) r with h | h | h
  · exact absurd (topF_over m r h h2) h0
  · exact h
  · exact absurd (h1 _ h hle) (topF_ne m (by omega))
theorem topF_none {f : Nat → Int} {m : Nat} (h : ∀ s, 1 ≤ s → s ≤ m → f (2 * s) = 0) : topF f m = 0 := by
  rcases Nat.eq_zero_or_pos (topF f m) with h0 | h0
  · exact h0
  · exact absurd (h _ h0 (topF_le f m)) (topF_ne m (by omega))
theorem sumK_upd (c f : Nat → Int) (k : Nat) (x : Int) : ∀ m i, sumK (fun j => c j * upd f k x j) m i = sumK (fun j => c j * f j) m i + if i ≤ k ∧ k < i + m then c k * x else 0
  | 0, i => by rw [sumK, sumK, if_neg (by omega)]; rfl
  | m + 1, i => by
    rw [sumK, sumK, sumK_upd c f k x m (i + 1)]
    by_cases h : i = k
    · subst h
      rw [upd, if_pos rfl, if_neg (by omega), if_pos (by omega), Int.mul_add]; omega
    · rw [upd, if_neg h]
      by_cases h2 : i + 1 ≤ k ∧ k < i + 1 + m
      · rw [if_pos h2, if_pos (by omega)]; omega
      · rw [if_neg h2, if_neg (by omega)]; omega
theorem sumK_upd1 (f : Nat → Int) (k : Nat) (x : Int) (hk : k < 16) : sumK (upd f k x) 16 0 = sumK f 16 0 + x := by
  have h := sumK_upd (fun _ => 1) f k x 16 0
  simp only [Int.one_mul] at h
  rw [if_pos (by omega)] at h
  exact h
theorem Fit.upd2 {f : Nat → Int} (h : Fit f) {a b : Nat} (ha : a < 16) (hb : b < 16) (h0 : 0 < f a) : Fit (upd (upd f a (-1)) b 1) := by
  refine ⟨fun j hj => ?_, by rw [sumK_upd1 _ _ _ hb, sumK_upd1 _ _ _ ha, h.sum]; rfl⟩
  have := h.pos j hj
  unfold upd
  by_cases h1 : j = b
  · rw [if_pos h1]
    by_cases h2 : j = a
    · rw [if_pos h2]; omega
    · rw [if_neg h2]; omega
  · rw [if_neg h1]
    by_cases h2 : j = a
    · rw [if_pos h2]; subst h2; omega
    · rw [if_neg h2]; omega
theorem Fit.top {f : Nat → Int} (h : Fit f) (h0 : topF f 7 ≠ 0) : 0 < f (2 * topF f 7) := by
  have h1 := topF_ne 7 h0
  have h2 := h.pos (2 * topF f 7) (by have := topF_le f 7; omega)
  omega
theorem Fit.hard {f : Nat → Int} (h : Fit f) (n : Nat) : Fit (hardF n f) := by
  unfold hardF
  by_cases h0 : topF f 7 = 0
  · rw [if_pos h0]; exact h
  · rw [if_neg h0]; exact h.upd2 (by have := topF_le f 7; omega) (by omega) (h.top h0)
theorem Fit.easy {f : Nat → Int} (h : Fit f) : Fit (easyF f) := by
  unfold easyF
  by_cases h0 : 0 < f 1
  · rw [if_pos h0]; exact h.upd2 (by omega) (by omega) h0
  · rw [if_neg h0]
    by_cases h1 : 0 < f 0
    · rw [if_pos h1]; exact h.upd2 (by omega) (by omega) h1
    · rw [if_neg h1]; exact h
theorem Fit.hardK {f : Nat → Int} (h : Fit f) : ∀ n, Fit (Go.Proofs.YtfnfbojaiikigaaGreatDoor.hardK f n)
  | 0 => h
  | n + 1 => (Fit.hardK h n).hard n
theorem Fit.easyK {f : Nat → Int} (h : Fit f) : ∀ n, Fit (Go.Proofs.YtfnfbojaiikigaaGreatDoor.easyK f n)
  | 0 => h
  | n + 1 => (Fit.easyK h n).easy
theorem Fit.move {f : Nat → Int} (h : Fit f) (n : Int) : Fit (moveW f n) := by
  unfold moveW; split
  · exact h.hardK _
  · exact h.easyK _
theorem Fit.le {f : Nat → Int} (h : Fit f) {j : Nat} (hj : j < 16) : f j ≤ 16 := by
  have := (sumK_pos 16 0 fun j _ h2 => h.pos j (by omega)).2 j (by omega) (by omega)
  have := h.sum
  omega
theorem fit_of {d : List Otc} (h : checkD d = 0) : Fit (wAt d) := by
  have ho := checkD_ok h
  exact ⟨fun j _ => wAt_nonneg (fun o hx => by have := (ho.each o hx).w1; omega) j, by rw [sumK_wAt d fun o hx => ⟨(ho.each o hx).r0, (ho.each o hx).r7⟩]; exact ho.sum⟩
theorem shift_check {d : List Otc} {n : Int} (h : (shiftS d n).2 = 0) : checkD (shiftS d n).1 = 0 ∧ checkD d = 0 ∧ -12 ≤ n ∧ n ≤ 12 ∧ (shiftS d n).1 = canon (moveW (wAt d) n) := by
  unfold shiftS at h ⊢
  by_cases h1 : checkD d ≠ 0
  · rw [if_pos h1] at h; exact absurd h h1
  · rw [if_neg h1] at h ⊢
    by_cases h2 : n < -12 ∨ 12 < n
    · rw [if_pos h2] at h; cases h
    · rw [if_neg h2]
      have hf := (fit_of (d := d) (by omega)).move n
      exact ⟨canon_ok hf.pos hf.sum, by omega, by omega, by omega, rfl⟩
theorem shift_ok {d : List Otc} {n : Int} (h : checkD d = 0) (h0 : -12 ≤ n) (h1 : n ≤ 12) : shiftS d n = (canon (moveW (wAt d) n), 0) := by
  unfold shiftS
  rw [if_neg (by omega), if_neg (by omega)]
/-- Where nothing can be made harder, nothing changes any more. -/
theorem hardK_stop {f : Nat → Int} {i : Nat} (h : topF (hardK f i) 7 = 0) : ∀ m, hardK f (i + m) = hardK f i
  | 0 => rfl
  | m + 1 => by
    rw [← Nat.add_assoc, hardK, hardK_stop h m, hardF, if_pos h]
theorem easyK_stop {f : Nat → Int} {i : Nat} (h1 : ¬ 0 < easyK f i 1) (h0 : ¬ 0 < easyK f i 0) : ∀ m, easyK f (i + m) = easyK f i
  | 0 => rfl
  | m + 1 => by
    rw [← Nat.add_assoc, easyK, easyK_stop h1 h0 m, easyF, if_neg h1, if_neg h0]
/-- Mean and risk of weights at keys. -/
def meanK (f : Nat → Int) : Int := sumK (fun j => ((j / 2 : Nat) : Int) * f j) 16 0
def riskK (f : Nat → Int) : Int := sumK (fun j => (if j % 2 = 1 then 1 else 0) * f j) 16 0
theorem mean_canonF {f : Nat → Int} : ∀ (m i : Nat), (∀ j, i ≤ j → j < i + m → 0 ≤ f j) → meanL (canonF f m i) = sumK (fun j => ((j / 2 : Nat) : Int) * f j) m i
  | 0, _, _ => rfl
  | m + 1, i, h => by
    have h0 := h i (Nat.le_refl _) (by omega)
    have ih := mean_canonF m (i + 1) fun j h1 h2 => h j (by omega) (by omega)
    unfold meanL at ih ⊢
    rw [canonF, List.map_append, sumI_app, ih, sumK]
    by_cases hf : 0 < f i
    · rw [if_pos hf]; simp [otcOf, sumI_cons, sumI_nil]
    · have e : f i = 0 := by omega
      rw [if_neg hf, e]; simp [sumI_nil]
theorem risk_canonF {f : Nat → Int} : ∀ (m i : Nat), (∀ j, i ≤ j → j < i + m → 0 ≤ f j) → riskL (canonF f m i) = sumK (fun j => (if j % 2 = 1 then 1 else 0) * f j) m i
  | 0, _, _ => rfl
  | m + 1, i, h => by
    have h0 := h i (Nat.le_refl _) (by omega)
    have ih := risk_canonF m (i + 1) fun j h1 h2 => h j (by omega) (by omega)
    unfold riskL at ih ⊢
    rw [canonF, List.map_append, sumI_app, ih, sumK]
    by_cases hf : 0 < f i
    · rw [if_pos hf]
      by_cases hw : i % 2 = 1
      · simp [otcOf, sumI_cons, sumI_nil, hw]
      · simp [otcOf, sumI_cons, sumI_nil, hw]
    · have e : f i = 0 := by omega
      rw [if_neg hf, e]; simp [sumI_nil]
theorem mean_canon {f : Nat → Int} (h : Fit f) : meanL (canon f) = meanK f := mean_canonF 16 0 fun j _ h2 => h.pos j (by omega)
theorem risk_canon {f : Nat → Int} (h : Fit f) : riskL (canon f) = riskK f := risk_canonF 16 0 fun j _ h2 => h.pos j (by omega)
theorem meanK_upd (f : Nat → Int) (k : Nat) (x : Int) (hk : k < 16) : meanK (upd f k x) = meanK f + ((k / 2 : Nat) : Int) * x := by
  unfold meanK; rw [sumK_upd, if_pos (by omega)]
theorem riskK_upd (f : Nat → Int) (k : Nat) (x : Int) (hk : k < 16) : riskK (upd f k x) = riskK f + (if k % 2 = 1 then 1 else 0) * x := by
  unfold riskK; rw [sumK_upd (fun j => if j % 2 = 1 then 1 else 0), if_pos (by omega)]
theorem hard_mean (f : Nat → Int) (n : Nat) : meanK (hardF n f) ≤ meanK f ∧ riskK f ≤ riskK (hardF n f) := by
  unfold hardF
  by_cases h0 : topF f 7 = 0
  · rw [if_pos h0]; exact ⟨Int.le_refl _, Int.le_refl _⟩
  · have hl := topF_le f 7
    rw [if_neg h0, meanK_upd _ _ _ (by omega), meanK_upd _ _ _ (by omega), riskK_upd _ _ _ (by omega), riskK_upd _ _ _ (by omega)]
    have e1 : 2 * topF f 7 / 2 = topF f 7 := by omega
    have e2 : n % 2 / 2 = 0 := by omega
    have e3 : ¬ 2 * topF f 7 % 2 = 1 := by omega
    rw [e1, e2, if_neg e3]
    refine ⟨by omega, ?_⟩
    split <;> omega
theorem easy_mean (f : Nat → Int) : meanK f ≤ meanK (easyF f) ∧ riskK (easyF f) ≤ riskK f := by
  unfold easyF
  by_cases h0 : 0 < f 1
  · rw [if_pos h0, meanK_upd _ _ _ (by omega), meanK_upd _ _ _ (by omega), riskK_upd _ _ _ (by omega), riskK_upd _ _ _ (by omega)]
    simp; omega
  · rw [if_neg h0]
    by_cases h1 : 0 < f 0
    · rw [if_pos h1, meanK_upd _ _ _ (by omega), meanK_upd _ _ _ (by omega), riskK_upd _ _ _ (by omega), riskK_upd _ _ _ (by omega)]
      simp; omega
    · rw [if_neg h1]; exact ⟨Int.le_refl _, Int.le_refl _⟩
theorem hardK_mean (f : Nat → Int) : ∀ n, meanK (hardK f n) ≤ meanK f ∧ riskK f ≤ riskK (hardK f n)
  | 0 => ⟨Int.le_refl _, Int.le_refl _⟩
  | n + 1 => by
    have h1 := hardK_mean f n
    have h2 := hard_mean (hardK f n) n
    rw [hardK]
    exact ⟨Int.le_trans h2.1 h1.1, Int.le_trans h1.2 h2.2⟩
theorem easyK_mean (f : Nat → Int) : ∀ n, meanK f ≤ meanK (easyK f n) ∧ riskK (easyK f n) ≤ riskK f
  | 0 => ⟨Int.le_refl _, Int.le_refl _⟩
  | n + 1 => by
    have h1 := easyK_mean f n
    have h2 := easy_mean (easyK f n)
    rw [easyK]
    exact ⟨Int.le_trans h1.1 h2.1, Int.le_trans h2.2 h1.2⟩
/-- What ModelMonotone asks. -/
theorem shift_monotone {d : List Otc} (h : checkD d = 0) (k : Nat) (hk : k < 12) :
    meanL (shiftS d (k + 1)).1 ≤ meanL (shiftS d k).1 ∧ meanL (shiftS d k).1 ≤ meanL d ∧ meanL d ≤ meanL (shiftS d (-(k : Int))).1 ∧ riskL (shiftS d k).1 ≤ riskL (shiftS d (k + 1)).1 ∧ riskL d ≤ riskL (shiftS d k).1 ∧ riskL (shiftS d (-(k : Int))).1 ≤ riskL d := by
  have hf := fit_of h
  rw [shift_ok h (by omega) (by omega), shift_ok h (by omega) (by omega), shift_ok h (by omega) (by omega)]
  have ed : d = canon (wAt d) := (checkD_canon h).symm
  have e1 : moveW (wAt d) ((k : Int) + 1) = hardF k (hardK (wAt d) k) := by
    unfold moveW; rw [if_pos (by omega), show ((k : Int) + 1).toNat = k + 1 from by omega]; rfl
  have e2 : moveW (wAt d) (k : Int) = hardK (wAt d) k := by
    unfold moveW; rw [if_pos (by omega), show ((k : Int)).toNat = k from by omega]
  have e3 : moveW (wAt d) (-(k : Int)) = easyK (wAt d) k := by
    unfold moveW
    by_cases h0 : k = 0
    · subst h0; rfl
    · rw [if_neg (by omega), show (-(-(k : Int))).toNat = k from by omega]
  rw [e1, e2, e3]
  dsimp only
  rw [mean_canon ((hf.hardK k).hard k), mean_canon (hf.hardK k), mean_canon (hf.easyK k), risk_canon ((hf.hardK k).hard k), risk_canon (hf.hardK k), risk_canon (hf.easyK k)]
  have m0 : meanL d = meanK (wAt d) := by conv => lhs; rw [ed]
                                          exact mean_canon hf
  have r0 : riskL d = riskK (wAt d) := by conv => lhs; rw [ed]
                                          exact risk_canon hf
  rw [m0, r0]
  exact ⟨(hard_mean _ k).1, (hardK_mean _ k).1, (easyK_mean _ k).1, (hard_mean _ k).2, (hardK_mean _ k).2, (easyK_mean _ k).2⟩
end Go.Proofs.YtfnfbojaiikigaaGreatDoor
