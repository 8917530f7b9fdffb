/- Plain specifications of chance (chapter 42): outcomes, spreads, convolution; laws of convolution. -/
import Derived.Test.YtfnfbojaiikigaaGreatDoorPP
set_option linter.unusedSimpArgs false
set_option linter.unusedVariables false
namespace Go.Proofs.YtfnfbojaiikigaaGreatDoor

structure Otc where
  runs : Int
  wick : Bool
  wt : Int
structure Spr where
  balls : Int
  ws : List Int
/-- How the program compares two outcomes. -/
def ordS (a b : Otc) : Int :=
  if a.runs ≠ b.runs then (if a.runs < b.runs then -1 else 1) else if a.wick = b.wick then 0 else if b.wick = true then -1 else 1
def befB (a b : Otc) : Bool := decide (ordS a b < 0)
def badO (o : Otc) : Bool := decide (o.runs < 0) || decide (7 < o.runs) || decide (o.wt < 1) || decide (16 < o.wt)
def otcErr (prev : Option Otc) (o : Otc) : Int :=
  if badO o = true then 2 else match prev with
    | none => 0
    | some p => if befB p o = true then 0 else 8
/-- The first error of the outcomes behind prev, the weights so far being sum. -/
def otcsF : Option Otc → Int → List Otc → Int
  | _, sum, [] => if sum = 16 then 0 else 12
  | prev, sum, o :: r => if otcErr prev o ≠ 0 then otcErr prev o else otcsF (some o) (sum + o.wt) r
def checkD (d : List Otc) : Int := if d.length = 0 then 6 else if 16 < d.length then 9 else otcsF none 0 d
def sumI (l : List Int) : Int := l.foldr (· + ·) 0
theorem sumI_nil : sumI [] = 0 := rfl
theorem sumI_cons (x : Int) (l : List Int) : sumI (x :: l) = x + sumI l := rfl
theorem sumI_app (l m : List Int) : sumI (l ++ m) = sumI l + sumI m := by
  induction l with
  | nil => rw [List.nil_append, sumI_nil]; omega
  | cons x l ih => rw [List.cons_append, sumI_cons, sumI_cons, ih]; omega
theorem sumI_snoc (l : List Int) (x : Int) : sumI (l ++ [x]) = sumI l + x := by rw [sumI_app, sumI_cons, sumI_nil]; omega
theorem sumI_take {l : List Int} {k : Nat} (h : k < l.length) : sumI (l.take (k + 1)) = sumI (l.take k) + l[k] := by
  rw [List.take_succ_eq_append_getElem h, sumI_snoc]
theorem sumI_bound {l : List Int} {B : Int} (h : ∀ x ∈ l, 0 ≤ x ∧ x ≤ B) : 0 ≤ sumI l ∧ sumI l ≤ B * l.length := by
  induction l with
  | nil => simp [sumI_nil]
  | cons x l ih =>
    have h1 := h x (by simp)
    have h2 := ih fun y hy => h y (by simp [hy])
    rw [sumI_cons, List.length_cons]
    push_cast
    rw [Int.mul_add, Int.mul_one]
    omega
theorem sumI_take_le {l : List Int} (h : ∀ x ∈ l, 0 ≤ x) (k : Nat) : 0 ≤ sumI (l.take k) ∧ sumI (l.take k) ≤ sumI l := by
  have e := sumI_app (l.take k) (l.drop k)
  rw [List.take_append_drop] at e
  have pos : ∀ m : List Int, (∀ x ∈ m, 0 ≤ x) → 0 ≤ sumI m := by
    intro m
    induction m with
    | nil => intro _; simp [sumI_nil]
    | cons x m ih => intro hm; rw [sumI_cons]; have := hm x (by simp); have := ih fun y hy => hm y (by simp [hy]); omega
  have h1 := pos (l.take k) fun x hx => h x (List.mem_of_mem_take hx)
  have h2 := pos (l.drop k) fun x hx => h x (List.mem_of_mem_drop hx)
  omega
def meanL (d : List Otc) : Int := sumI (d.map fun o => o.runs * o.wt)
def riskL (d : List Otc) : Int := sumI (d.map fun o => if o.wick = true then o.wt else 0)
def meanS (d : List Otc) : Int × Int := if checkD d ≠ 0 then (0, checkD d) else (meanL d, 0)
def riskS (d : List Otc) : Int × Int := if checkD d ≠ 0 then (0, checkD d) else (riskL d, 0)
def unitV (n : Nat) : Int := 16 ^ n
def unitS (n : Int) : Int × Int := if n < 0 ∨ 12 < n then (0, 2) else (unitV n.toNat, 0)
/-- The first error of a spread. -/
def checkP (s : Spr) : Int :=
  if s.balls < 0 ∨ 12 < s.balls then 2
  else if s.ws.length = 0 then 6
  else if 7 * s.balls + 1 < (s.ws.length : Int) then 9
  else if s.ws.all (fun x => decide (0 ≤ x) && decide (x ≤ unitV s.balls.toNat)) = false then 2
  else if s.ws.getLast? = some 0 then 4
  else if sumI s.ws = unitV s.balls.toNat then 0 else 12
def noSpr : Spr := ⟨0, []⟩
/-- The coefficients of a list. -/
def cf (l : List Int) (n : Nat) : Int := l.getD n 0
theorem cf_lt {l : List Int} {n : Nat} (h : n < l.length) : cf l n = l[n] := by unfold cf; rw [List.getD_eq_getElem?_getD, List.getElem?_eq_getElem h]; rfl
theorem cf_ge {l : List Int} {n : Nat} (h : l.length ≤ n) : cf l n = 0 := by unfold cf; rw [List.getD_eq_getElem?_getD, List.getElem?_eq_none h]; rfl
theorem cf_cons_zero (x : Int) (l : List Int) : cf (x :: l) 0 = x := rfl
theorem cf_cons_succ (x : Int) (l : List Int) (n : Nat) : cf (x :: l) (n + 1) = cf l n := by unfold cf; simp [List.getD_eq_getElem?_getD]
theorem cf_ext {l m : List Int} (h : l.length = m.length) (hc : ∀ n, cf l n = cf m n) : l = m := by
  apply List.ext_getElem h
  intro n h1 h2
  have := hc n
  rwa [cf_lt h1, cf_lt h2] at this
/-- a's coefficient i times b's at n - i. -/
def termC (a b : List Int) (i n : Nat) : Int := if i ≤ n then cf a i * cf b (n - i) else 0
/-- The first i rows of the product, at n. -/
def accC (a b : List Int) : Nat → Nat → Int
  | 0, _ => 0
  | i + 1, n => accC a b i n + termC a b i n
/-- The first i rows of the product and j places of the next one, at n. -/
def partC (a b : List Int) (i j n : Nat) : Int := accC a b i n + if i ≤ n ∧ n - i < j then cf a i * cf b (n - i) else 0
def convL (a b : List Int) : List Int := (List.range (a.length + b.length - 1)).map (accC a b a.length)
def convS (a b : Spr) : Spr := ⟨a.balls + b.balls, convL a.ws b.ws⟩
theorem convL_length (a b : List Int) : (convL a b).length = a.length + b.length - 1 := by unfold convL; simp
theorem partC_zero (a b : List Int) (i n : Nat) : partC a b i 0 n = accC a b i n := by unfold partC; rw [if_neg (by omega)]; omega
theorem partC_end (a b : List Int) (i n : Nat) : partC a b i b.length n = accC a b (i + 1) n := by
  unfold partC
  rw [accC]
  unfold termC
  by_cases h : i ≤ n
  · rw [if_pos h]
    by_cases h2 : n - i < b.length
    · rw [if_pos ⟨h, h2⟩]
    · rw [if_neg (by omega), cf_ge (l := b) (by omega), Int.mul_zero]
  · rw [if_neg (by omega), if_neg h]
theorem partC_hit (a b : List Int) (i j : Nat) : partC a b i (j + 1) (i + j) = partC a b i j (i + j) + cf a i * cf b j := by
  unfold partC
  rw [if_pos (by omega), if_neg (by omega), Nat.add_sub_cancel_left]; omega
theorem partC_miss (a b : List Int) (i j n : Nat) (h : n ≠ i + j) : partC a b i (j + 1) n = partC a b i j n := by
  unfold partC
  by_cases h1 : i ≤ n ∧ n - i < j
  · rw [if_pos h1, if_pos (by omega)]
  · rw [if_neg h1, if_neg (by omega)]
/-- Entries from 0 on, with a sum u. -/
structure Fine (l : List Int) (u : Int) : Prop where
  pos : ∀ x ∈ l, 0 ≤ x
  sum : sumI l = u
theorem cf_pos {l : List Int} (h : ∀ x ∈ l, 0 ≤ x) (n : Nat) : 0 ≤ cf l n := by
  by_cases hn : n < l.length
  · rw [cf_lt hn]; exact h _ (List.getElem_mem hn)
  · rw [cf_ge (by omega)]; exact Int.le_refl _
theorem mem_le_sum {l : List Int} (h : ∀ x ∈ l, 0 ≤ x) : ∀ x ∈ l, x ≤ sumI l := by
  induction l with
  | nil => intro x hx; cases hx
  | cons y l ih =>
    intro x hx
    rw [sumI_cons]
    have h0 := h y (by simp)
    have h1 := (sumI_take_le (l := l) (fun z hz => h z (by simp [hz])) 0).2
    rw [List.take_zero, sumI_nil] at h1
    rcases List.mem_cons.1 hx with rfl | hx
    · omega
    · have := ih (fun z hz => h z (by simp [hz])) x hx; omega
theorem cf_le_sum {l : List Int} (h : ∀ x ∈ l, 0 ≤ x) (n : Nat) : cf l n ≤ sumI l := by
  by_cases hn : n < l.length
  · rw [cf_lt hn]; exact mem_le_sum h _ (List.getElem_mem hn)
  · rw [cf_ge (by omega)]; exact Int.le_trans (sumI_take_le h 0).1 (sumI_take_le h 0).2
theorem accC_bound {a b : List Int} (ha : ∀ x ∈ a, 0 ≤ x) (hb : ∀ x ∈ b, 0 ≤ x) (n : Nat) : ∀ i, 0 ≤ accC a b i n ∧ accC a b i n ≤ sumI (a.take i) * sumI b := by
  intro i
  induction i with
  | zero => rw [accC, List.take_zero, sumI_nil, Int.zero_mul]; omega
  | succ i ih =>
    have hst : sumI (a.take (i + 1)) = sumI (a.take i) + cf a i := by
      by_cases hi : i < a.length
      · rw [sumI_take hi, cf_lt hi]
      · rw [List.take_of_length_le (by omega), List.take_of_length_le (by omega), cf_ge (by omega)]; omega
    rw [accC, hst, Int.add_mul]
    have h1 := cf_pos ha i
    have hS : 0 ≤ sumI b := Int.le_trans (sumI_take_le hb 0).1 (sumI_take_le hb 0).2
    have h5 := Int.mul_nonneg h1 hS
    unfold termC
    split
    · have h2 := cf_pos hb (n - i)
      have h3 := cf_le_sum hb (n - i)
      have h4 := Int.mul_nonneg h1 h2
      have h6 := Int.mul_le_mul_of_nonneg_left h3 h1
      omega
    · omega
theorem partC_bound {a b : List Int} {u v : Int} (ha : Fine a u) (hb : Fine b v) (i j n : Nat) : 0 ≤ partC a b i j n ∧ partC a b i j n ≤ u * v := by
  have h0 := accC_bound ha.pos hb.pos n i
  have h1 := accC_bound ha.pos hb.pos n (i + 1)
  have hle := (sumI_take_le ha.pos (i + 1)).2
  have hS : 0 ≤ sumI b := Int.le_trans (sumI_take_le hb.pos 0).1 (sumI_take_le hb.pos 0).2
  have h2 := Int.mul_le_mul_of_nonneg_right hle hS
  rw [ha.sum, hb.sum] at h2
  rw [hb.sum] at h0 h1
  have hp : 0 ≤ cf a i * cf b (n - i) := Int.mul_nonneg (cf_pos ha.pos i) (cf_pos hb.pos _)
  rw [accC] at h1
  unfold termC at h1
  unfold partC
  by_cases hi : i ≤ n
  · rw [if_pos hi] at h1
    split <;> omega
  · rw [if_neg hi] at h1
    rw [if_neg (by omega)]
    omega
/-- A shift by one place. -/
def shF (g : Nat → Int) (n : Nat) : Int := match n with | 0 => 0 | n + 1 => g n
/-- The list's polynomial at work on a sequence. -/
def actL : List Int → (Nat → Int) → Nat → Int
  | [], _, _ => 0
  | x :: a, g, n => x * g n + shF (actL a g) n
theorem actL_nil (g : Nat → Int) : actL [] g = fun _ => 0 := by funext n; rfl
theorem actL_add (a : List Int) : ∀ (g h : Nat → Int) (n : Nat), actL a (fun n => g n + h n) n = actL a g n + actL a h n := by
  induction a with
  | nil => intro g h n; rfl
  | cons x a ih =>
    intro g h n
    cases n with
    | zero => show x * (g 0 + h 0) + 0 = (x * g 0 + 0) + (x * h 0 + 0); rw [Int.mul_add]; omega
    | succ n =>
      show x * (g (n + 1) + h (n + 1)) + actL a (fun n => g n + h n) n = (x * g (n + 1) + actL a g n) + (x * h (n + 1) + actL a h n)
      rw [ih, Int.mul_add]; omega
theorem actL_smul (a : List Int) (y : Int) : ∀ (g : Nat → Int) (n : Nat), actL a (fun n => y * g n) n = y * actL a g n := by
  induction a with
  | nil => intro g n; show (0 : Int) = y * 0; omega
  | cons x a ih =>
    intro g n
    cases n with
    | zero => show x * (y * g 0) + 0 = y * (x * g 0 + 0); rw [Int.add_zero, Int.add_zero, Int.mul_left_comm]
    | succ n =>
      show x * (y * g (n + 1)) + actL a (fun n => y * g n) n = y * (x * g (n + 1) + actL a g n)
      rw [ih, Int.mul_add, Int.mul_left_comm]
theorem actL_sh (a : List Int) : ∀ (g : Nat → Int) (n : Nat), actL a (shF g) n = shF (actL a g) n := by
  induction a with
  | nil => intro g n; cases n <;> rfl
  | cons x a ih =>
    intro g n
    cases n with
    | zero => show x * 0 + 0 = 0; omega
    | succ n =>
      show x * g n + actL a (shF g) n = x * g n + shF (actL a g) n
      rw [ih]
theorem actL_comm (a b : List Int) (g : Nat → Int) : actL a (actL b g) = actL b (actL a g) := by
  induction a with
  | nil =>
    funext n
    show (0 : Int) = actL b (actL [] g) n
    rw [actL_nil]
    have := actL_smul b 0 (fun _ => 0) n
    simp only [Int.zero_mul] at this
    exact this.symm
  | cons x a ih =>
    have e : actL (x :: a) g = fun n => x * g n + shF (actL a g) n := rfl
    rw [e]
    funext n
    rw [actL_add b (fun n => x * g n) (shF (actL a g)) n, actL_smul, actL_sh]
    show x * actL b g n + shF (actL a (actL b g)) n = _
    rw [ih]
/-- The unit of the product. -/
def oneF (n : Nat) : Int := if n = 0 then 1 else 0
theorem cf_act (a : List Int) : cf a = actL a oneF := by
  induction a with
  | nil => funext n; rw [cf_ge (by simp)]; rfl
  | cons x a ih =>
    funext n
    cases n with
    | zero => rw [cf_cons_zero]; show x = x * 1 + 0; omega
    | succ n => rw [cf_cons_succ, ih]; show _ = x * 0 + actL a oneF n; omega
theorem accC_act (b : List Int) : ∀ (a : List Int) (n : Nat), accC a b a.length n = actL a (cf b) n := by
  have key : ∀ (x : Int) (a : List Int) (i n : Nat), accC (x :: a) b (i + 1) n = x * cf b n + shF (accC a b i) n := by
    intro x a i
    induction i with
    | zero =>
      intro n
      rw [accC, accC]
      unfold termC
      rw [if_pos (Nat.zero_le _), cf_cons_zero, Nat.sub_zero]
      cases n <;> simp [shF, accC]
    | succ i ih =>
      intro n
      rw [accC, ih]
      unfold termC
      cases n with
      | zero => rw [if_neg (by omega)]; show _ + 0 + 0 = _ + 0; omega
      | succ n =>
        show x * cf b (n + 1) + accC a b i n + _ = x * cf b (n + 1) + accC a b (i + 1) n
        rw [accC, cf_cons_succ]
        unfold termC
        by_cases h : i ≤ n
        · rw [if_pos h, if_pos (by omega), show n + 1 - (i + 1) = n - i by omega]; omega
        · rw [if_neg h, if_neg (by omega)]; omega
  intro a
  induction a with
  | nil => intro n; rfl
  | cons x a ih =>
    intro n
    rw [List.length_cons, key]
    show _ = x * cf b n + shF (actL a (cf b)) n
    congr 1
    cases n with
    | zero => rfl
    | succ n => exact ih n
theorem actL_ge (a : List Int) (g : Nat → Int) (M : Nat) (hg : ∀ n, M ≤ n → g n = 0) : ∀ n, a.length + M ≤ n + 1 → actL a g n = 0 := by
  induction a with
  | nil => intro n _; rfl
  | cons x a ih =>
    intro n hn
    rw [List.length_cons] at hn
    show x * g n + shF (actL a g) n = 0
    rw [hg n (by omega)]
    cases n with
    | zero => show x * 0 + 0 = 0; omega
    | succ n => show x * 0 + actL a g n = 0; rw [ih n (by omega)]; omega
theorem cf_conv (a b : List Int) : cf (convL a b) = actL a (cf b) := by
  funext n
  by_cases h : n < a.length + b.length - 1
  · rw [cf_lt (by rw [convL_length]; exact h)]
    unfold convL
    rw [List.getElem_map, List.getElem_range, accC_act]
  · rw [cf_ge (by rw [convL_length]; omega), actL_ge a (cf b) b.length (fun n hn => cf_ge hn) n (by omega)]
theorem cf_conv' (a b : List Int) : cf (convL a b) = actL b (cf a) := by
  rw [cf_conv, cf_act b, actL_comm, ← cf_act a]
theorem convL_comm (a b : List Int) : convL a b = convL b a :=
  cf_ext (by rw [convL_length, convL_length]; omega) fun n => by rw [cf_conv, cf_conv']
theorem convL_assoc (a b c : List Int) (ha : a ≠ []) (hb : b ≠ []) (hc : c ≠ []) : convL a (convL b c) = convL (convL a b) c := by
  have la := List.length_pos_iff.2 ha
  have lb := List.length_pos_iff.2 hb
  have lc := List.length_pos_iff.2 hc
  refine cf_ext (by simp only [convL_length]; omega) fun n => ?_
  rw [cf_conv, cf_conv', cf_conv', cf_conv, actL_comm]
/-- The sum of the first N. -/
def sumF (g : Nat → Int) : Nat → Int
  | 0 => 0
  | n + 1 => sumF g n + g n
theorem sumF_add (g h : Nat → Int) (n : Nat) : sumF (fun n => g n + h n) n = sumF g n + sumF h n := by
  induction n with
  | zero => rfl
  | succ n ih => rw [sumF, sumF, sumF, ih]; omega
theorem sumF_smul (y : Int) (g : Nat → Int) (n : Nat) : sumF (fun n => y * g n) n = y * sumF g n := by
  induction n with
  | zero => show (0 : Int) = y * 0; omega
  | succ n ih => rw [sumF, sumF, ih, Int.mul_add]
theorem sumF_sh (g : Nat → Int) (n : Nat) : sumF (shF g) (n + 1) = sumF g n := by
  induction n with
  | zero => rfl
  | succ n ih => rw [sumF, ih, sumF]; rfl
theorem sumF_more {g : Nat → Int} {M : Nat} (hg : ∀ n, M ≤ n → g n = 0) : ∀ N, M ≤ N → sumF g N = sumF g M := by
  intro N
  induction N with
  | zero => intro h; rw [Nat.le_zero.1 h]
  | succ N ih =>
    intro h
    by_cases e : M = N + 1
    · rw [e]
    · rw [sumF, ih (by omega), hg N (by omega)]; omega
theorem sumF_cf (l : List Int) : ∀ k, sumF (cf l) k = sumI (l.take k) := by
  intro k
  induction k with
  | zero => rfl
  | succ k ih =>
    rw [sumF, ih]
    by_cases hk : k < l.length
    · rw [sumI_take hk, cf_lt hk]
    · rw [List.take_of_length_le (by omega), List.take_of_length_le (by omega), cf_ge (by omega)]; omega
theorem sumF_cf_all (l : List Int) (N : Nat) (h : l.length ≤ N) : sumF (cf l) N = sumI l := by rw [sumF_cf, List.take_of_length_le h]
theorem sumF_act (a : List Int) (g : Nat → Int) (M : Nat) (hg : ∀ n, M ≤ n → g n = 0) : ∀ N, a.length + M ≤ N → sumF (actL a g) N = sumI a * sumF g M := by
  induction a with
  | nil =>
    intro N _
    rw [sumI_nil, Int.zero_mul, actL_nil]
    have := sumF_smul 0 (fun _ => 0) N
    simp only [Int.zero_mul] at this
    exact this
  | cons x a ih =>
    intro N hN
    rw [List.length_cons] at hN
    obtain ⟨N, rfl⟩ : ∃ m, N = m + 1 := ⟨N - 1, by omega⟩
    have e : actL (x :: a) g = fun n => x * g n + shF (actL a g) n := rfl
    rw [e, sumF_add (fun n => x * g n) (shF (actL a g)), sumF_smul, sumF_sh, ih N (by omega), sumF_more hg (N + 1) (by omega), sumI_cons, Int.add_mul]
theorem conv_sum (a b : List Int) (ha : a ≠ []) : sumI (convL a b) = sumI a * sumI b := by
  have la := List.length_pos_iff.2 ha
  rw [← sumF_cf_all (convL a b) (a.length + b.length) (by rw [convL_length]; omega), cf_conv, sumF_act a (cf b) b.length (fun n hn => cf_ge hn) _ (Nat.le_refl _), sumF_cf_all b _ (Nat.le_refl _)]
theorem conv_pos {a b : List Int} (ha : ∀ x ∈ a, 0 ≤ x) (hb : ∀ x ∈ b, 0 ≤ x) : ∀ x ∈ convL a b, 0 ≤ x := by
  intro x hx
  unfold convL at hx
  obtain ⟨n, _, rfl⟩ := List.mem_map.1 hx
  exact (accC_bound ha hb n _).1
theorem conv_fine {a b : List Int} {u v : Int} (ha : Fine a u) (hb : Fine b v) (h0 : a ≠ []) : Fine (convL a b) (u * v) :=
  ⟨conv_pos ha.pos hb.pos, by rw [conv_sum a b h0, ha.sum, hb.sum]⟩
/-- The last place of a product. -/
theorem actL_last (a : List Int) (g : Nat → Int) (M : Nat) (hg : ∀ n, M < n → g n = 0) : ∀ (x : Int) , a ++ [x] ≠ [] → actL (a ++ [x]) g (a.length + M) = x * g M := by
  induction a with
  | nil =>
    intro x _
    show x * g (0 + M) + shF (actL [] g) (0 + M) = x * g M
    rw [Nat.zero_add, actL_nil]
    cases M <;> (show _ + (0 : Int) = _; omega)
  | cons y a ih =>
    intro x _
    show y * g ((y :: a).length + M) + shF (actL (a ++ [x]) g) ((y :: a).length + M) = x * g M
    rw [List.length_cons, hg (a.length + 1 + M) (by omega), show a.length + 1 + M = a.length + M + 1 by omega]
    show y * 0 + actL (a ++ [x]) g (a.length + M) = _
    rw [ih x (by simp)]; omega
theorem conv_last {a b : List Int} (ha : a ≠ []) (hb : b ≠ []) (h1 : a.getLast? ≠ some 0) (h2 : b.getLast? ≠ some 0) : (convL a b).getLast? ≠ some 0 := by
  obtain ⟨a, x, rfl⟩ : ∃ a' x, a = a' ++ [x] := ⟨a.dropLast, a.getLast ha, (List.dropLast_concat_getLast ha).symm⟩
  obtain ⟨b, y, rfl⟩ : ∃ b' y, b = b' ++ [y] := ⟨b.dropLast, b.getLast hb, (List.dropLast_concat_getLast hb).symm⟩
  have hx : x ≠ 0 := by intro e; apply h1; rw [List.getLast?_concat, e]
  have hy : y ≠ 0 := by intro e; apply h2; rw [List.getLast?_concat, e]
  have hl := convL_length (a ++ [x]) (b ++ [y])
  simp only [List.length_append, List.length_cons, List.length_nil] at hl
  rw [List.getLast?_eq_getElem?, hl, List.getElem?_eq_getElem (by rw [hl]; omega)]
  intro h
  have h3 := Option.some.inj h
  rw [← cf_lt, cf_conv] at h3
  have hM : ∀ n, b.length < n → cf (b ++ [y]) n = 0 := fun n hn => cf_ge (by simp; omega)
  have h4 := actL_last a (cf (b ++ [y])) b.length hM x (by simp)
  have e5 : a.length + (0 + 1) + (b.length + (0 + 1)) - 1 - 1 = a.length + b.length := by omega
  rw [e5, h4, cf_lt (by simp)] at h3
  simp only [List.getElem_concat_length] at h3
  rcases Int.mul_eq_zero.1 h3 with h | h
  · exact hx h
  · exact hy h
end Go.Proofs.YtfnfbojaiikigaaGreatDoor
