/- Plain laws of chance: sums of convolutions, powers of a distribution, dominance. -/
import Derived.Test.YtfnfbojaiikigaaGreatDoorP51
set_option linter.unusedSimpArgs false
set_option linter.unusedVariables false
namespace Go.Proofs.YtfnfbojaiikigaaGreatDoor

theorem sxF_shift : ∀ (l : List Int) (i : Nat), sxF (i + 1) l = sxF i l + sumI l := by
  intro l
  induction l with
  | nil => intro i; rfl
  | cons w l ih =>
    intro i
    rw [sxF, sxF, ih, ih i, sumI_cons]
    push_cast
    rw [Int.add_mul]; omega
theorem sumF_front (g : Nat → Int) (n : Nat) : sumF g (n + 1) = g 0 + sumF (fun k => g (k + 1)) n := by
  induction n with
  | zero => show 0 + g 0 = g 0 + 0; omega
  | succ n ih => rw [sumF, ih, sumF]; omega
theorem sumF_congr {g h : Nat → Int} : ∀ n, (∀ k, k < n → g k = h k) → sumF g n = sumF h n := by
  intro n
  induction n with
  | zero => intro _; rfl
  | succ n ih => intro hh; rw [sumF, sumF, ih fun k hk => hh k (by omega), hh n (by omega)]
/-- Runs times coefficient. -/
def xF (g : Nat → Int) (n : Nat) : Int := (n : Int) * g n
theorem sxF_sum : ∀ (l : List Int), sxF 0 l = sumF (xF (cf l)) l.length := by
  intro l
  induction l with
  | nil => rfl
  | cons w l ih =>
    rw [sxF, sxF_shift, ih, List.length_cons, sumF_front]
    have e : sumF (fun k => xF (cf (w :: l)) (k + 1)) l.length = sumF (fun k => xF (cf l) k + cf l k) l.length := by
      apply sumF_congr
      intro k _
      show ((k + 1 : Nat) : Int) * cf (w :: l) (k + 1) = (k : Int) * cf l k + cf l k
      rw [cf_cons_succ]; push_cast; rw [Int.add_mul]; omega
    rw [e, sumF_add (xF (cf l)) (cf l), sumF_cf_all l _ (Nat.le_refl _)]
    show (0 : Nat) * w + _ = ((0 : Nat) : Int) * _ + _
    omega
theorem xF_more {g : Nat → Int} {M : Nat} (hg : ∀ n, M ≤ n → g n = 0) : ∀ n, M ≤ n → xF g n = 0 := fun n hn => by unfold xF; rw [hg n hn]; omega
theorem sumX_sh (h : Nat → Int) (n : Nat) : sumF (xF (shF h)) (n + 1) = sumF (xF h) n + sumF h n := by
  rw [sumF_front, ← sumF_add (xF h) h]
  show ((0 : Nat) : Int) * 0 + sumF (fun k => ((k + 1 : Nat) : Int) * h k) n = _
  have : sumF (fun k => ((k + 1 : Nat) : Int) * h k) n = sumF (fun k => xF h k + h k) n := by
    apply sumF_congr; intro k _; unfold xF; push_cast; rw [Int.add_mul]; omega
  rw [this]; omega
theorem sumX_act (a : List Int) (g : Nat → Int) (M : Nat) (hg : ∀ n, M ≤ n → g n = 0) : ∀ N, a.length + M ≤ N → sumF (xF (actL a g)) N = sxF 0 a * sumF g M + sumI a * sumF (xF g) M := by
  induction a with
  | nil =>
    intro N _
    show _ = 0 * sumF g M + 0 * sumF (xF g) M
    rw [actL_nil]
    have e : xF (fun _ => 0) = fun n => 0 * (0 : Int) := by funext n; show (n : Int) * 0 = 0 * 0; omega
    rw [e, sumF_smul 0 (fun _ => 0)]; omega
  | cons x a ih =>
    intro N hN
    rw [List.length_cons] at hN
    obtain ⟨N, rfl⟩ : ∃ m, N = m + 1 := ⟨N - 1, by omega⟩
    have e : xF (actL (x :: a) g) = fun n => x * xF g n + xF (shF (actL a g)) n := by
      funext n
      show (n : Int) * (x * g n + shF (actL a g) n) = x * ((n : Int) * g n) + (n : Int) * shF (actL a g) n
      rw [Int.mul_add, Int.mul_left_comm]
    rw [e, sumF_add (fun n => x * xF g n) (xF (shF (actL a g))), sumF_smul, sumX_sh, ih N (by omega), sumF_act a g M hg N (by omega), sumF_more (xF_more hg) (N + 1) (by omega), sxF, sxF_shift, sumI_cons]
    show _ = (((0 : Nat) : Int) * x + (sxF 0 a + sumI a)) * _ + _
    rw [Int.add_mul, Int.add_mul, Int.add_mul]
    have : ((0 : Nat) : Int) * x * sumF g M = 0 := by simp
    omega
theorem conv_sx (a b : List Int) (ha : a ≠ []) : sxF 0 (convL a b) = sxF 0 a * sumI b + sumI a * sxF 0 b := by
  have la := List.length_pos_iff.2 ha
  rw [sxF_sum (convL a b), ← sumF_more (xF_more (g := cf (convL a b)) fun n hn => cf_ge hn) (a.length + b.length) (by rw [convL_length]; omega), cf_conv, sumX_act a (cf b) b.length (fun n hn => cf_ge hn) _ (Nat.le_refl _), sumF_cf_all b _ (Nat.le_refl _), sxF_sum b]
/-- The product with one place of weight 1. -/
theorem conv_one (l : List Int) : convL [1] l = l := by
  refine cf_ext (by rw [convL_length]; simp) fun n => ?_
  rw [cf_conv]
  show 1 * cf l n + shF (actL [] (cf l)) n = cf l n
  rw [actL_nil]
  cases n <;> (show 1 * _ + (0 : Int) = _; omega)
theorem powL_one (one : List Int) : powL one 1 = one := conv_one one
theorem powL_ne {one : List Int} (h : one ≠ []) : ∀ n, powL one n ≠ [] := by
  have l1 := List.length_pos_iff.2 h
  intro n
  induction n with
  | zero => simp [powL]
  | succ n ih =>
    have l2 := List.length_pos_iff.2 ih
    rw [powL, ← List.length_pos_iff, convL_length]; omega
theorem powL_add {one : List Int} (h : one ≠ []) (n : Nat) : ∀ m, convL (powL one n) (powL one m) = powL one (n + m) := by
  intro m
  induction m with
  | zero => rw [convL_comm]; exact conv_one _
  | succ m ih =>
    show convL (powL one n) (convL (powL one m) one) = convL (powL one (n + m)) one
    rw [convL_assoc _ _ _ (powL_ne h n) (powL_ne h m) h, ih]
/-- The sum of runs times weight of one ball is the mean. -/
theorem ofL_sx {d : List Otc} (h : OkD d) : sxF 0 (ofL d) = meanL d := by
  obtain ⟨o, ho, h1, _, h3⟩ := h.lastR
  have key : ∀ (R : Nat) (l : List Otc), (∀ a ∈ l, 0 ≤ a.runs ∧ a.runs < R) → sumF (xF (cf ((List.range R).map (ofC l)))) R = meanL l := by
    intro R l
    have ecf : ∀ l k, k < R → cf ((List.range R).map (ofC l)) k = ofC l k := fun l k hk => by
      rw [cf_lt (by simpa using hk)]; simp
    induction l with
    | nil =>
      intro _
      rw [sumF_congr (h := fun n => 0 * (0 : Int)) R fun k hk => by unfold xF; rw [ecf [] k hk]; show (k : Int) * 0 = _; omega, sumF_smul 0 (fun _ => 0)]
      show 0 * _ = (0 : Int); omega
    | cons a l ih =>
      intro hl
      have hia := hl a (by simp)
      have ihh := ih fun x hx => hl x (by simp [hx])
      have e : sumF (xF (cf ((List.range R).map (ofC (a :: l))))) R = sumF (fun k => (if a.runs = (k : Int) then a.runs * a.wt else 0) + xF (cf ((List.range R).map (ofC l))) k) R := by
        apply sumF_congr
        intro k hk
        unfold xF
        rw [ecf _ k hk, ecf _ k hk]
        have ec : ofC (a :: l) k = (if a.runs = (k : Int) then a.wt else 0) + ofC l k := by unfold ofC; rw [List.map_cons, sumI_cons]
        rw [ec, Int.mul_add]
        by_cases hh : a.runs = (k : Int)
        · rw [if_pos hh, if_pos hh, hh]
        · rw [if_neg hh, if_neg hh]; omega
      rw [e, sumF_add (fun k : Nat => if a.runs = (k : Int) then a.runs * a.wt else 0), ihh]
      have one : ∀ (x w : Int) (n : Nat), sumF (fun k : Nat => if x = (k : Int) then w else 0) n = if 0 ≤ x ∧ x < n then w else 0 := by
        intro x w n
        induction n with
        | zero => rw [if_neg (by omega)]; rfl
        | succ n ihn =>
          rw [sumF, ihn]
          by_cases hh : x = (n : Int)
          · rw [if_pos hh, if_neg (by omega), if_pos (by omega)]; omega
          · rw [if_neg hh]
            by_cases h2 : 0 ≤ x ∧ x < (n : Int)
            · rw [if_pos h2, if_pos (by omega)]; omega
            · rw [if_neg h2, if_neg (by omega)]; omega
      rw [one, if_pos hia]
      unfold meanL
      rw [List.map_cons, sumI_cons]
  rw [sxF_sum, ofL_length]
  exact key _ d fun a ha => ⟨(h.each a ha).r0, by rw [h1]; have := h3 a ha; have := (h.each o ho).r0; omega⟩
/-- The tail of a list's weights. -/
theorem alF_tail (r : Nat) : ∀ (l : List Int) (i : Nat), alF (r : Int) i l = sumI l - sumI (l.take (r - i)) := by
  intro l
  induction l with
  | nil => intro i; simp [alF, sumI_nil]
  | cons w l ih =>
    intro i
    rw [alF, ih, sumI_cons]
    by_cases h : r ≤ i
    · rw [if_pos (by omega), show r - (i + 1) = 0 by omega, show r - i = 0 by omega, List.take_zero, List.take_zero, sumI_nil]; omega
    · rw [if_neg (by omega), show r - i = (r - (i + 1)) + 1 by omega, List.take_succ_cons, sumI_cons]; omega
theorem atLeast_tail (l : List Int) (r : Nat) : atLeastL l (r : Int) = sumI l - sumF (cf l) r := by unfold atLeastL; rw [alF_tail, sumF_cf, Nat.sub_zero]
theorem domF_iff (a b : List Int) : ∀ (n r : Nat), domF a b r n = true ↔ ∀ k, r ≤ k → k < r + n → atLeastL b (k : Int) ≤ atLeastL a (k : Int) := by
  intro n
  induction n with
  | zero => intro r; simp [domF]; intro k h1 h2; omega
  | succ n ih =>
    intro r
    rw [domF]
    by_cases h : atLeastL a (r : Int) < atLeastL b (r : Int)
    · rw [if_pos h]
      refine ⟨(fun k => by cases k), (fun k => ?_)⟩
      have := k r (Nat.le_refl _) (by omega); omega
    · rw [if_neg h, ih]
      constructor
      · intro hk k h1 h2
        by_cases e : k = r
        · subst e; omega
        · exact hk k (by omega) (by omega)
      · intro hk k h1 h2
        exact hk k (by omega) (by omega)
theorem dom_self (a : List Int) : domF a a 0 a.length = true := (domF_iff a a _ _).2 fun _ _ _ => Int.le_refl _
theorem dom_all {a b : List Int} {u : Int} (ha : Fine a u) (hb : Fine b u) : domF a b 0 b.length = true ↔ ∀ r, sumF (cf a) r ≤ sumF (cf b) r := by
  rw [domF_iff]
  constructor
  · intro h r
    by_cases hr : r < b.length
    · have := h r (Nat.zero_le _) (by omega)
      rw [atLeast_tail, atLeast_tail, ha.sum, hb.sum] at this
      omega
    · rw [sumF_cf_all b r (by omega), hb.sum, sumF_cf, ← ha.sum]
      exact (sumI_take_le ha.pos r).2
  · intro h k _ _
    rw [atLeast_tail, atLeast_tail, ha.sum, hb.sum]
    have := h k
    omega
theorem act_mono {z : List Int} (hz : ∀ x ∈ z, 0 ≤ x) {g h : Nat → Int} (hgh : ∀ r, sumF g r ≤ sumF h r) : ∀ r, sumF (actL z g) r ≤ sumF (actL z h) r := by
  induction z with
  | nil => intro r; rw [actL_nil, actL_nil]; exact Int.le_refl _
  | cons x z ih =>
    intro r
    have e : ∀ g, actL (x :: z) g = fun n => x * g n + shF (actL z g) n := fun _ => rfl
    rw [e, e, sumF_add (fun n => x * g n), sumF_add (fun n => x * h n), sumF_smul, sumF_smul]
    have h1 := Int.mul_le_mul_of_nonneg_left (hgh r) (hz x (by simp))
    cases r with
    | zero => exact Int.le_refl _
    | succ r =>
      rw [sumF_sh, sumF_sh]
      have := ih (fun y hy => hz y (by simp [hy])) r
      omega
theorem dom_conv {a b z : List Int} {u v : Int} (ha : Fine a u) (hb : Fine b u) (hz : Fine z v) (a0 : a ≠ []) (b0 : b ≠ []) (h : domF a b 0 b.length = true) : domF (convL a z) (convL b z) 0 (convL b z).length = true := by
  rw [dom_all (conv_fine ha hz a0) (conv_fine hb hz b0), cf_conv', cf_conv']
  exact act_mono hz.pos ((dom_all ha hb).1 h)
theorem sumX_abel (g : Nat → Int) : ∀ N, sumF (xF g) N = (N : Int) * sumF g N - sumF (fun r => sumF g (r + 1)) N := by
  intro N
  induction N with
  | zero => rfl
  | succ N ih =>
    rw [sumF, ih, sumF, sumF, sumF]
    unfold xF
    push_cast
    rw [Int.add_mul, Int.mul_add]; omega
theorem sumF_mono {g h : Nat → Int} : ∀ n, (∀ k, k < n → g k ≤ h k) → sumF g n ≤ sumF h n := by
  intro n
  induction n with
  | zero => intro _; exact Int.le_refl _
  | succ n ih => intro hh; rw [sumF, sumF]; have := ih fun k hk => hh k (by omega); have := hh n (by omega); omega
theorem dom_mean {a b : List Int} {u : Int} (ha : Fine a u) (hb : Fine b u) (h : domF a b 0 b.length = true) : sxF 0 b ≤ sxF 0 a := by
  have h1 := (dom_all ha hb).1 h
  obtain ⟨N, h2, h3⟩ : ∃ N, a.length ≤ N ∧ b.length ≤ N := ⟨a.length + b.length, by omega, by omega⟩
  rw [sxF_sum, sxF_sum, ← sumF_more (xF_more (g := cf a) fun n hn => cf_ge hn) N h2, ← sumF_more (xF_more (g := cf b) fun n hn => cf_ge hn) N h3, sumX_abel, sumX_abel, sumF_cf_all a N h2, sumF_cf_all b N h3, ha.sum, hb.sum]
  have := sumF_mono (g := fun r => sumF (cf a) (r + 1)) (h := fun r => sumF (cf b) (r + 1)) N fun k _ => h1 (k + 1)
  omega
end Go.Proofs.YtfnfbojaiikigaaGreatDoor
