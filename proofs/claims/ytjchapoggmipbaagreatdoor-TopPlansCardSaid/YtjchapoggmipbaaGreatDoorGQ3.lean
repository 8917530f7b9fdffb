/- Several texts of this family in one: P92 P91 FG I1 I2 I8 I16 I17 I3 I4 I18 I19 I20 I21 I22 I23 I24 I25 I5 I9 I6 I7 I10. -/
import Derived.Test.YtjchapoggmipbaaGreatDoorGP1
import Derived.Test.YtjchapoggmipbaaGreatDoorGP0
import Derived.BigRegion
import Derived.Deep.OwnRows
import Derived.Deep.RegionHeld3
import Derived.Deep.RegionLaw
set_option linter.unusedSimpArgs false
set_option linter.unusedVariables false
namespace Go.Proofs.YtjchapoggmipbaaGreatDoor
open Go.RowKit

structure Dct where
  ovs : Int
  lead : Int
  step : Int
  over : List Otc
  win : List (List Int)
def rowD (t : Dct) (m : Nat) : List Int := t.win.getD m []
def nowD (t : Dct) (m : Nat) (lead : Int) : Int := if lead < 0 then 0 else (rowD t m).getD (min (lead / t.step) ((rowD t m).length - 1)).toNat 0 * 16 ^ m
def onD (t : Dct) (f : Int → Int) (lead : Int) : Int := sumI (t.over.map fun o => o.wt * f (lead + o.runs))
def valD (t : Dct) : Nat → Int → Int
  | 0, lead => nowD t 0 lead
  | m + 1, lead => max (nowD t (m + 1) lead) (onD t (valD t m) lead)
def rulD (t : Dct) (leads : List Int) : Nat → Int → Int
  | 0, lead => nowD t 0 lead
  | m + 1, lead => if leads.getD (m + 1) 0 ≤ lead then nowD t (m + 1) lead else onD t (rulD t leads m) lead
structure OkT47 (t : Dct) : Prop where
  o0 : 0 ≤ t.ovs
  o1 : t.ovs < 12
  l0 : -600 ≤ t.lead
  l1 : t.lead ≤ 600
  s0 : 1 ≤ t.step
  s1 : t.step ≤ 600
  ov : OkD t.over
  wn : (t.win.length : Int) = t.ovs + 1
  row : ∀ l ∈ t.win, 1 ≤ l.length ∧ l.length ≤ 100 ∧ ∀ x ∈ l, 0 ≤ x ∧ x ≤ 16
theorem sumI_leD {α : Type} {l : List α} {f g : α → Int} (h : ∀ x ∈ l, f x ≤ g x) : sumI (l.map f) ≤ sumI (l.map g) := by
  induction l with
  | nil => simp [sumI_nil]
  | cons a l ih =>
    have h1 := h a (by simp)
    have h2 := ih fun x hx => h x (by simp [hx])
    simp only [List.map_cons, sumI_cons]; omega
theorem sumI_mulR {α : Type} (l : List α) (f : α → Int) (c : Int) : sumI (l.map fun x => f x * c) = sumI (l.map f) * c := by
  induction l with
  | nil => simp [sumI_nil]
  | cons a l ih => simp only [List.map_cons, sumI_cons, ih, Int.add_mul]
theorem sumI_nonneg {α : Type} {l : List α} {f : α → Int} (h : ∀ x ∈ l, 0 ≤ f x) : 0 ≤ sumI (l.map f) := by
  induction l with
  | nil => simp [sumI_nil]
  | cons a l ih =>
    have h1 := h a (by simp)
    have h2 := ih fun x hx => h x (by simp [hx])
    simp only [List.map_cons, sumI_cons]; omega
section
variable {t : Dct} (h : OkT47 t)
theorem OkT47.rowB (h : OkT47 t) {m : Nat} (hm : (m : Int) ≤ t.ovs) : 1 ≤ (rowD t m).length ∧ (rowD t m).length ≤ 100 ∧ ∀ x ∈ rowD t m, 0 ≤ x ∧ x ≤ 16 := by
  have hl : m < t.win.length := by have := h.wn; omega
  have e : rowD t m = t.win[m] := by simp [rowD, List.getD_eq_getElem?_getD, hl]
  rw [e]
  exact h.row _ (List.getElem_mem hl)
/-- The place that is read. -/
theorem OkT47.place (h : OkT47 t) {m : Nat} (hm : (m : Int) ≤ t.ovs) {lead : Int} (hl : 0 ≤ lead) : 0 ≤ min (lead / t.step) (((rowD t m).length : Int) - 1) ∧ (min (lead / t.step) (((rowD t m).length : Int) - 1)).toNat < (rowD t m).length := by
  have h1 := (h.rowB hm).1
  have h2 := Int.ediv_nonneg hl (show 0 ≤ t.step by have := h.s0; omega)
  omega
theorem OkT47.cell (h : OkT47 t) {m : Nat} (hm : (m : Int) ≤ t.ovs) (k : Nat) : 0 ≤ (rowD t m).getD k 0 ∧ (rowD t m).getD k 0 ≤ 16 := by
  by_cases hk : k < (rowD t m).length
  · have := (h.rowB hm).2.2 (rowD t m)[k] (List.getElem_mem hk)
    rw [show (rowD t m).getD k 0 = (rowD t m)[k] by simp [List.getD_eq_getElem?_getD, hk]]
    exact this
  · rw [show (rowD t m).getD k 0 = 0 by simp [List.getD_eq_getElem?_getD, List.getElem?_eq_none (show (rowD t m).length ≤ k by omega)]]
    decide
theorem pw16_pos (m : Nat) : (0 : Int) < 16 ^ m := Int.pow_pos (by decide)
theorem nowD_bd (h : OkT47 t) {m : Nat} (hm : (m : Int) ≤ t.ovs) (lead : Int) : 0 ≤ nowD t m lead ∧ nowD t m lead ≤ 16 * 16 ^ m := by
  have hp := pw16_pos m
  unfold nowD
  split
  · omega
  · obtain ⟨h1, h2⟩ := h.cell hm (min (lead / t.step) (((rowD t m).length : Int) - 1)).toNat
    exact ⟨Int.mul_nonneg h1 (by omega), Int.mul_le_mul_of_nonneg_right h2 (by omega)⟩
theorem onD_bd (h : OkT47 t) {f : Int → Int} {B : Int} (hf : ∀ x, 0 ≤ f x ∧ f x ≤ B) (lead : Int) : 0 ≤ onD t f lead ∧ onD t f lead ≤ 16 * B := by
  unfold onD
  refine ⟨sumI_nonneg fun o ho => ?_, ?_⟩
  · exact Int.mul_nonneg (by have := (h.ov.each o ho).w1; omega) (hf _).1
  · have h1 := sumI_leD (l := t.over) (f := fun o => o.wt * f (lead + o.runs)) (g := fun o => o.wt * B) fun o ho => Int.mul_le_mul_of_nonneg_left (hf _).2 (by have := (h.ov.each o ho).w1; omega)
    rw [sumI_mulR, h.ov.sum] at h1
    exact h1
theorem valD_bd (h : OkT47 t) : ∀ (m : Nat), (m : Int) ≤ t.ovs → ∀ lead, 0 ≤ valD t m lead ∧ valD t m lead ≤ 16 * 16 ^ m
  | 0, hm, lead => nowD_bd h hm lead
  | m + 1, hm, lead => by
    have h1 := nowD_bd h hm lead
    have h2 := onD_bd h (f := valD t m) (fun x => valD_bd h m (by omega) x) lead
    unfold valD
    rw [Int.pow_succ] at h1 ⊢
    omega
theorem rulD_bd (h : OkT47 t) (leads : List Int) : ∀ (m : Nat), (m : Int) ≤ t.ovs → ∀ lead, 0 ≤ rulD t leads m lead ∧ rulD t leads m lead ≤ 16 * 16 ^ m
  | 0, hm, lead => nowD_bd h hm lead
  | m + 1, hm, lead => by
    have h1 := nowD_bd h hm lead
    have h2 := onD_bd h (f := rulD t leads m) (fun x => rulD_bd h leads m (by omega) x) lead
    unfold rulD
    rw [Int.pow_succ] at h1 ⊢
    split <;> omega
theorem onD_mono (h : OkT47 t) {f g : Int → Int} (hf : ∀ x, f x ≤ g x) (lead : Int) : onD t f lead ≤ onD t g lead := by
  unfold onD
  exact sumI_leD fun o ho => Int.mul_le_mul_of_nonneg_left (hf _) (by have := (h.ov.each o ho).w1; omega)
/-- No rule is better. -/
theorem rulD_le (h : OkT47 t) (leads : List Int) : ∀ (m : Nat) (lead : Int), rulD t leads m lead ≤ valD t m lead
  | 0, lead => Int.le_refl _
  | m + 1, lead => by
    have h1 := onD_mono h (fun x => rulD_le h leads m x) lead
    unfold rulD valD
    split <;> omega
/-- Where it is not best to declare, going on gives the value. -/
theorem valD_on {m : Nat} {lead : Int} (hn : valD t (m + 1) lead ≠ nowD t (m + 1) lead) : valD t (m + 1) lead = onD t (valD t m) lead := by
  unfold valD at hn ⊢
  omega
theorem onD_take {f : Int → Int} {lead : Int} {k : Nat} (hk : k < t.over.length) : sumI ((t.over.take (k + 1)).map fun o => o.wt * f (lead + o.runs)) = sumI ((t.over.take k).map fun o => o.wt * f (lead + o.runs)) + t.over[k].wt * f (lead + t.over[k].runs) := by
  rw [List.take_succ_eq_append_getElem hk, List.map_append, List.map_singleton, sumI_app, sumI_cons, sumI_nil]
  omega
end
/-- The first error of a task. -/
def winE' (l : List Int) : Nat → Nat → Int
  | 0, _ => 0
  | n + 1, k => if l.getD k 0 < 0 ∨ 16 < l.getD k 0 then 2 else if 0 < k ∧ l.getD k 0 < l.getD (k - 1) 0 then 8 else winE' l n (k + 1)
def rowE' (l : List Int) : Int := if l.length = 0 then 6 else if 100 < l.length then 9 else winE' l l.length 0
def rowsE' : List (List Int) → Int
  | [] => 0
  | l :: r => if rowE' l ≠ 0 then rowE' l else rowsE' r
def badT (t : Dct) : Bool := decide (t.ovs < 0) || decide (12 ≤ t.ovs) || decide (t.lead < -600) || decide (600 < t.lead) || decide (t.step < 1) || decide (600 < t.step)
def checkT (t : Dct) : Int := if badT t = true then 2 else if checkD t.over ≠ 0 then checkD t.over else if (t.win.length : Int) ≠ t.ovs + 1 then 1 else rowsE' t.win
theorem winE'_ok {l : List Int} : ∀ {n k : Nat}, winE' l n k = 0 → ∀ i, k ≤ i → i < k + n → 0 ≤ l.getD i 0 ∧ l.getD i 0 ≤ 16
  | 0, k, _, i, h1, h2 => absurd h1 (by omega)
  | n + 1, k, h, i, h1, h2 => by
    unfold winE' at h
    by_cases ha : l.getD k 0 < 0 ∨ 16 < l.getD k 0
    · rw [if_pos ha] at h; exact absurd h (by decide)
    rw [if_neg ha] at h
    by_cases hb : 0 < k ∧ l.getD k 0 < l.getD (k - 1) 0
    · rw [if_pos hb] at h; exact absurd h (by decide)
    rw [if_neg hb] at h
    by_cases e : i = k
    · subst e; omega
    · exact winE'_ok h i (by omega) (by omega)
theorem rowE'_ok {l : List Int} (h : rowE' l = 0) : 1 ≤ l.length ∧ l.length ≤ 100 ∧ ∀ x ∈ l, 0 ≤ x ∧ x ≤ 16 := by
  unfold rowE' at h
  by_cases h1 : l.length = 0
  · rw [if_pos h1] at h; exact absurd h (by decide)
  rw [if_neg h1] at h
  by_cases h2 : 100 < l.length
  · rw [if_pos h2] at h; exact absurd h (by decide)
  rw [if_neg h2] at h
  refine ⟨by omega, by omega, fun x hx => ?_⟩
  obtain ⟨i, hi, rfl⟩ := List.getElem_of_mem hx
  have := winE'_ok h i (by omega) (by omega)
  rw [show l.getD i 0 = l[i] by simp [List.getD_eq_getElem?_getD, hi]] at this
  exact this
theorem rowsE'_ok : ∀ {L : List (List Int)}, rowsE' L = 0 → ∀ l ∈ L, rowE' l = 0
  | [], _, l, h => by cases h
  | x :: r, h, l, hl => by
    unfold rowsE' at h
    by_cases hx : rowE' x ≠ 0
    · rw [if_pos hx] at h; exact absurd h hx
    · rw [if_neg hx] at h
      rcases List.mem_cons.1 hl with rfl | hl
      · simpa using hx
      · exact rowsE'_ok h l hl
theorem checkT_ok {t : Dct} (h : checkT t = 0) : OkT47 t := by
  unfold checkT at h
  by_cases h1 : badT t = true
  · rw [if_pos h1] at h; exact absurd h (by decide)
  rw [if_neg h1] at h
  by_cases h2 : checkD t.over ≠ 0
  · rw [if_pos h2] at h; exact absurd h h2
  rw [if_neg h2] at h
  by_cases h3 : (t.win.length : Int) ≠ t.ovs + 1
  · rw [if_pos h3] at h; exact absurd h (by decide)
  rw [if_neg h3] at h
  unfold badT at h1
  simp only [Bool.or_eq_true, decide_eq_true_eq, not_or] at h1
  exact ⟨by omega, by omega, by omega, by omega, by omega, by omega, checkD_ok (by omega), by omega, fun l hl => rowE'_ok (rowsE'_ok h l hl)⟩
end Go.Proofs.YtjchapoggmipbaaGreatDoor

namespace Go.Proofs.YtjchapoggmipbaaGreatDoor
open Go.RowKit

structure Att where
  costs : List (List Int)
  quota : Int
  last : Int
structure Ast where
  bow : List Int
  last : Int
def nbA (t : Att) : Nat := (t.costs.getD 0 []).length
def ovF : List Int → Int
  | [] => 0
  | x :: r => x + ovF r
theorem ovF_append (a b : List Int) : ovF (a ++ b) = ovF a + ovF b := by
  induction a with
  | nil => simp [ovF]
  | cons x a ih => simp only [List.cons_append, ovF, ih]; omega
theorem ovF_take {l : List Int} {k : Nat} (h : k < l.length) : ovF (l.take (k + 1)) = ovF (l.take k) + l.getD k 0 := by
  rw [List.take_succ_eq_append_getElem h, ovF_append, show ovF [l[k]] = l[k] by simp [ovF]]
  simp [List.getD_eq_getElem?_getD, h]
theorem ovF_set : ∀ {l : List Int} {k : Nat} {x : Int}, k < l.length → ovF (l.set k x) = ovF l + x - l.getD k 0
  | [], k, x, h => absurd h (by simp)
  | a :: l, 0, x, h => by simp [ovF]; omega
  | a :: l, k + 1, x, h => by
    have := ovF_set (l := l) (k := k) (x := x) (by simpa using h)
    simp only [List.set_cons_succ, ovF, this, List.getD_cons_succ]
    omega
theorem ovF_zero (n : Nat) : ovF (List.replicate n 0) = 0 := by
  induction n with
  | zero => rfl
  | succ n ih => rw [List.replicate_succ, ovF, ih]; rfl
theorem ovF_nonneg {l : List Int} (h : ∀ x ∈ l, 0 ≤ x) : 0 ≤ ovF l := by
  induction l with
  | nil => simp [ovF]
  | cons a l ih =>
    have h1 := h a (by simp)
    have h2 := ih fun x hx => h x (by simp [hx])
    simp only [ovF]; omega
theorem ovF_bd {l : List Int} {q : Int} (h : ∀ x ∈ l, 0 ≤ x ∧ x ≤ q) : ovF l ≤ q * l.length := by
  induction l with
  | nil => simp [ovF]
  | cons a l ih =>
    have h1 := h a (by simp)
    have h2 := ih fun x hx => h x (by simp [hx])
    simp only [ovF, List.length_cons]
    push_cast
    rw [Int.mul_add]
    omega
/-- The number of a row of overs. -/
def idxF (q : Int) : List Int → Int
  | [] => 0
  | x :: r => idxF q r * (q + 1) + x
def decF (q : Int) : Nat → Int → List Int
  | 0, _ => []
  | c + 1, n => n % (q + 1) :: decF q c (n / (q + 1))
theorem decF_len (q : Int) : ∀ c n, (decF q c n).length = c
  | 0, _ => rfl
  | c + 1, n => by rw [decF, List.length_cons, decF_len]
theorem decF_bd {q : Int} (hq : 0 ≤ q) : ∀ {c : Nat} {n : Int}, 0 ≤ n → ∀ x ∈ decF q c n, 0 ≤ x ∧ x ≤ q
  | 0, n, _, x, h => by cases h
  | c + 1, n, hn, x, h => by
    rw [decF, List.mem_cons] at h
    rcases h with rfl | h
    · have h1 := Int.emod_nonneg n (show q + 1 ≠ 0 by omega)
      have h2 := Int.emod_lt_of_pos n (show 0 < q + 1 by omega)
      omega
    · exact decF_bd hq (Int.ediv_nonneg hn (by omega)) x h
def pwQ (q : Int) : Nat → Int
  | 0 => 1
  | c + 1 => pwQ q c * (q + 1)
theorem pwQ_pos {q : Int} (hq : 0 ≤ q) : ∀ c, 0 < pwQ q c
  | 0 => by simp [pwQ]
  | c + 1 => by rw [pwQ]; exact Int.mul_pos (pwQ_pos hq c) (by omega)
theorem idx_dec {q : Int} (hq : 0 ≤ q) : ∀ {c : Nat} {n : Int}, 0 ≤ n → n < pwQ q c → idxF q (decF q c n) = n
  | 0, n, h0, h1 => by simp [pwQ] at h1; simp [decF, idxF]; omega
  | c + 1, n, h0, h1 => by
    have hd : n / (q + 1) < pwQ q c := by rw [pwQ] at h1; exact Int.ediv_lt_of_lt_mul (by omega) h1
    rw [decF, idxF, idx_dec hq (Int.ediv_nonneg h0 (by omega)) hd]
    have := Int.mul_ediv_add_emod n (q + 1)
    rw [Int.mul_comm] at this
    omega
theorem idx_bd {q : Int} (hq : 0 ≤ q) : ∀ {l : List Int}, (∀ x ∈ l, 0 ≤ x ∧ x ≤ q) → 0 ≤ idxF q l ∧ idxF q l < pwQ q l.length
  | [], _ => by simp [idxF, pwQ]
  | x :: r, h => by
    obtain ⟨h1, h2⟩ := idx_bd hq (l := r) fun y hy => h y (by simp [hy])
    obtain ⟨h3, h4⟩ := h x (by simp)
    rw [idxF, List.length_cons, pwQ]
    have h5 : 0 ≤ idxF q r * (q + 1) := Int.mul_nonneg h1 (by omega)
    have h6 : (idxF q r + 1) * (q + 1) ≤ pwQ q r.length * (q + 1) := Int.mul_le_mul_of_nonneg_right (by omega) (by omega)
    rw [Int.add_mul, Int.one_mul] at h6
    omega
theorem dec_idx {q : Int} (hq : 0 ≤ q) : ∀ {l : List Int}, (∀ x ∈ l, 0 ≤ x ∧ x ≤ q) → decF q l.length (idxF q l) = l
  | [], _ => rfl
  | x :: r, h => by
    have ih := dec_idx hq (l := r) fun y hy => h y (by simp [hy])
    obtain ⟨h3, h4⟩ := h x (by simp)
    have e1 : (idxF q r * (q + 1) + x) % (q + 1) = x := by
      rw [Int.add_comm, Int.add_mul_emod_self_right]
      exact Int.emod_eq_of_lt h3 (by omega)
    have e2 : (idxF q r * (q + 1) + x) / (q + 1) = idxF q r := by
      rw [Int.add_comm, Int.add_mul_ediv_right _ _ (by omega), Int.ediv_eq_zero_of_lt h3 (by omega)]
      omega
    rw [List.length_cons, decF, idxF, e1, e2, ih]
/-- The index of a state, the state with an index. -/
def idxS (t : Att) (s : Ast) : Int := idxF t.quota s.bow * (s.bow.length + 1) + s.last + 1
def decS (t : Att) (n : Int) : Ast := ⟨decF t.quota (nbA t) (n / ((nbA t : Int) + 1)), n % ((nbA t : Int) + 1) - 1⟩
def cntA (t : Att) : Int := ((nbA t : Int) + 1) * pwQ t.quota (nbA t)
structure OkA (t : Att) (s : Ast) : Prop where
  len : s.bow.length = nbA t
  bd : ∀ x ∈ s.bow, 0 ≤ x ∧ x ≤ t.quota
  lo : -1 ≤ s.last
  hi : s.last < nbA t
theorem idxS_bd {t : Att} {s : Ast} (hq : 0 ≤ t.quota) (h : OkA t s) : 0 ≤ idxS t s ∧ idxS t s < cntA t := by
  obtain ⟨h1, h2⟩ := idx_bd hq h.bd
  have hl := h.lo
  have hh := h.hi
  unfold idxS cntA
  rw [h.len] at h2 ⊢
  have h5 : 0 ≤ idxF t.quota s.bow * ((nbA t : Int) + 1) := Int.mul_nonneg h1 (by omega)
  have h6 : (idxF t.quota s.bow + 1) * ((nbA t : Int) + 1) ≤ pwQ t.quota (nbA t) * ((nbA t : Int) + 1) := Int.mul_le_mul_of_nonneg_right (by omega) (by omega)
  rw [Int.add_mul, Int.one_mul] at h6
  rw [Int.mul_comm ((nbA t : Int) + 1)]
  omega
theorem decS_ok {t : Att} {n : Int} (hq : 0 ≤ t.quota) (h0 : 0 ≤ n) : OkA t (decS t n) := by
  refine ⟨decF_len _ _ _, decF_bd hq (Int.ediv_nonneg h0 (by omega)), ?_, ?_⟩
  · have := Int.emod_nonneg n (show (nbA t : Int) + 1 ≠ 0 by omega)
    show -1 ≤ n % ((nbA t : Int) + 1) - 1
    omega
  · have := Int.emod_lt_of_pos n (show 0 < (nbA t : Int) + 1 by omega)
    show n % ((nbA t : Int) + 1) - 1 < nbA t
    omega
theorem dec_idxS {t : Att} {s : Ast} (hq : 0 ≤ t.quota) (h : OkA t s) : decS t (idxS t s) = s := by
  have e := dec_idx hq h.bd
  have hl := h.lo
  have hh := h.hi
  obtain ⟨bow, last⟩ := s
  have hn := h.len
  dsimp only at e hn hl hh
  have e1 : (idxF t.quota bow * ((nbA t : Int) + 1) + last + 1) % ((nbA t : Int) + 1) = last + 1 := by
    rw [Int.add_assoc, Int.add_comm, Int.add_mul_emod_self_right]
    exact Int.emod_eq_of_lt (by omega) (by omega)
  have e2 : (idxF t.quota bow * ((nbA t : Int) + 1) + last + 1) / ((nbA t : Int) + 1) = idxF t.quota bow := by
    rw [Int.add_assoc, Int.add_comm, Int.add_mul_ediv_right _ _ (by omega), Int.ediv_eq_zero_of_lt (by omega) (by omega)]
    omega
  unfold decS idxS
  dsimp only
  rw [hn] at e ⊢
  rw [e1, e2, e]
  congr 1
  omega
theorem idx_decS {t : Att} {n : Int} (hq : 0 ≤ t.quota) (h0 : 0 ≤ n) (h1 : n < cntA t) : idxS t (decS t n) = n := by
  have hd : n / ((nbA t : Int) + 1) < pwQ t.quota (nbA t) := by
    unfold cntA at h1
    rw [Int.mul_comm] at h1
    exact Int.ediv_lt_of_lt_mul (by omega) h1
  unfold idxS decS
  dsimp only
  rw [decF_len, idx_dec hq (Int.ediv_nonneg h0 (by omega)) hd]
  have := Int.mul_ediv_add_emod n ((nbA t : Int) + 1)
  rw [Int.mul_comm] at this
  omega
def overS (s : Ast) : Int := ovF s.bow
def mayB (t : Att) (s : Ast) (j : Nat) : Bool := !((j : Int) == s.last) && decide (s.bow.getD j 0 < t.quota)
def aftS (s : Ast) (j : Nat) : Ast := ⟨s.bow.set j (s.bow.getD j 0 + 1), j⟩
def cAt (t : Att) (i j : Nat) : Int := (t.costs.getD i []).getD j 0
theorem aft_ok {t : Att} {s : Ast} {j : Nat} (h : OkA t s) (hj : j < nbA t) (hm : mayB t s j = true) : OkA t (aftS s j) := by
  unfold mayB at hm
  rw [Bool.and_eq_true, decide_eq_true_eq] at hm
  have hb := h.bd (s.bow.getD j 0) (by rw [List.getD_eq_getElem?_getD, List.getElem?_eq_getElem (by rw [h.len]; exact hj)]; exact List.getElem_mem _)
  refine ⟨by rw [← h.len]; simp [aftS], fun x hx => ?_, by show -1 ≤ (j : Int); omega, by show (j : Int) < nbA t; omega⟩
  rcases List.mem_or_eq_of_mem_set hx with hx | rfl
  · exact h.bd x hx
  · omega
theorem aft_over {t : Att} {s : Ast} {j : Nat} (h : OkA t s) (hj : j < nbA t) : overS (aftS s j) = overS s + 1 := by
  unfold overS aftS
  rw [ovF_set (by rw [h.len]; exact hj)]
  omega
/-- The least of what the next overs give. -/
def minJ (t : Att) (g : Ast → Int) (s : Ast) : Nat → Int
  | 0 => -1
  | j + 1 => if mayB t s j = true ∧ g (aftS s j) ≠ -1 ∧ (minJ t g s j = -1 ∨ cAt t (overS s).toNat j + g (aftS s j) < minJ t g s j) then cAt t (overS s).toNat j + g (aftS s j) else minJ t g s j
theorem minJ_congr {t : Att} {g h : Ast → Int} {s : Ast} : ∀ {k : Nat}, (∀ j, j < k → mayB t s j = true → g (aftS s j) = h (aftS s j)) → minJ t g s k = minJ t h s k
  | 0, _ => rfl
  | k + 1, e => by
    have ih := minJ_congr (k := k) fun j hj => e j (by omega)
    unfold minJ
    rw [ih]
    by_cases hm : mayB t s k = true
    · rw [e k (by omega) hm]
    · rw [if_neg (fun h => hm h.1), if_neg (fun h => hm h.1)]
/-- The potential of a state. -/
def potF (t : Att) : Nat → Ast → Int
  | 0, s => if overS s = t.costs.length then 0 else -1
  | n + 1, s => if overS s = t.costs.length then 0 else if (t.costs.length : Int) < overS s then -1 else minJ t (potF t n) s (nbA t)
def potP (t : Att) (s : Ast) : Int := potF t ((t.costs.length : Int) - overS s).toNat s
theorem pot_end {t : Att} {s : Ast} (h : overS s = t.costs.length) : potP t s = 0 := by
  unfold potP
  rw [h, Int.sub_self]
  simp [potF, h]
theorem pot_past {t : Att} {s : Ast} (h : (t.costs.length : Int) < overS s) : potP t s = -1 := by
  unfold potP
  rw [show ((t.costs.length : Int) - overS s).toNat = 0 by omega, potF, if_neg (by omega)]
theorem pot_run {t : Att} {s : Ast} (ho : OkA t s) (h : overS s < t.costs.length) : potP t s = minJ t (potP t) s (nbA t) := by
  obtain ⟨n, hn⟩ : ∃ n, ((t.costs.length : Int) - overS s).toNat = n + 1 := ⟨((t.costs.length : Int) - overS s).toNat - 1, by omega⟩
  unfold potP
  rw [hn, potF, if_neg (by omega), if_neg (by omega)]
  refine minJ_congr fun j hj hm => ?_
  rw [aft_over ho hj]
  congr 1
  omega
theorem minJ_le {t : Att} {g : Ast → Int} {s : Ast} : ∀ {k j : Nat}, j < k → mayB t s j = true → g (aftS s j) ≠ -1 → (∀ j, j < k → 0 ≤ cAt t (overS s).toNat j) → (∀ s', -1 ≤ g s') → minJ t g s k ≠ -1 ∧ minJ t g s k ≤ cAt t (overS s).toNat j + g (aftS s j)
  | 0, j, h, _, _, _, _ => absurd h (by omega)
  | k + 1, j, h, hm, hg, hc, hl => by
    have hck := hc k (by omega)
    have hlk := hl (aftS s k)
    unfold minJ
    by_cases e : j = k
    · subst e
      by_cases hx : minJ t g s j = -1 ∨ cAt t (overS s).toNat j + g (aftS s j) < minJ t g s j
      · rw [if_pos ⟨hm, hg, hx⟩]
        exact ⟨by omega, Int.le_refl _⟩
      · rw [if_neg (fun h => hx h.2.2)]
        omega
    · obtain ⟨h1, h2⟩ := minJ_le (k := k) (j := j) (by omega) hm hg (fun j hj => hc j (by omega)) hl
      by_cases hx : mayB t s k = true ∧ g (aftS s k) ≠ -1 ∧ (minJ t g s k = -1 ∨ cAt t (overS s).toNat k + g (aftS s k) < minJ t g s k)
      · rw [if_pos hx]
        obtain ⟨h3, h4, h5⟩ := hx
        omega
      · rw [if_neg hx]
        exact ⟨h1, h2⟩
theorem minJ_at {t : Att} {g : Ast → Int} {s : Ast} : ∀ {k : Nat}, minJ t g s k ≠ -1 → ∃ j, j < k ∧ mayB t s j = true ∧ g (aftS s j) ≠ -1 ∧ minJ t g s k = cAt t (overS s).toNat j + g (aftS s j)
  | 0, h => absurd rfl h
  | k + 1, h => by
    unfold minJ at h ⊢
    by_cases hx : mayB t s k = true ∧ g (aftS s k) ≠ -1 ∧ (minJ t g s k = -1 ∨ cAt t (overS s).toNat k + g (aftS s k) < minJ t g s k)
    · rw [if_pos hx]
      exact ⟨k, by omega, hx.1, hx.2.1, rfl⟩
    · rw [if_neg hx] at h ⊢
      obtain ⟨j, h1, h2⟩ := minJ_at h
      exact ⟨j, by omega, h2⟩
structure OkT46 (t : Att) : Prop where
  n1 : 1 ≤ t.costs.length
  n2 : t.costs.length ≤ 12
  b1 : 1 ≤ nbA t
  b2 : nbA t ≤ 6
  row : ∀ l ∈ t.costs, l.length = nbA t
  cost : ∀ l ∈ t.costs, ∀ c ∈ l, 0 ≤ c ∧ c ≤ 1048576
  q1 : 1 ≤ t.quota
  q2 : t.quota ≤ 12
  l1 : -1 ≤ t.last
  l2 : t.last < nbA t
  cnt : cntA t ≤ 200000
theorem OkT46.c {t : Att} (h : OkT46 t) (i j : Nat) : 0 ≤ cAt t i j ∧ cAt t i j ≤ 1048576 := by
  unfold cAt
  by_cases hi : i < t.costs.length
  · have e : t.costs.getD i [] = t.costs[i] := by simp [List.getD_eq_getElem?_getD, hi]
    rw [e]
    by_cases hj : j < t.costs[i].length
    · have e2 : t.costs[i].getD j 0 = t.costs[i][j] := by simp [List.getD_eq_getElem?_getD, hj]
      rw [e2]
      exact h.cost _ (List.getElem_mem hi) _ (List.getElem_mem hj)
    · have e2 : t.costs[i].getD j 0 = 0 := by simp [List.getD_eq_getElem?_getD, List.getElem?_eq_none (show t.costs[i].length ≤ j by omega)]
      rw [e2]; decide
  · have e : t.costs.getD i [] = [] := by simp [List.getD_eq_getElem?_getD, List.getElem?_eq_none (show t.costs.length ≤ i by omega)]
    rw [e]; simp
theorem minJ_bd {t : Att} (h : OkT46 t) {g : Ast → Int} {s : Ast} {B : Int} (hB : 0 ≤ B) (hg : ∀ s', -1 ≤ g s' ∧ g s' ≤ B) : ∀ k, -1 ≤ minJ t g s k ∧ minJ t g s k ≤ B + 1048576
  | 0 => by simp [minJ]; omega
  | k + 1 => by
    have ih := minJ_bd h hB hg (s := s) k
    have hc := h.c (overS s).toNat k
    have h2 := hg (aftS s k)
    unfold minJ
    split <;> omega
theorem potF_bd {t : Att} (h : OkT46 t) : ∀ (n : Nat) (s : Ast), -1 ≤ potF t n s ∧ potF t n s ≤ 1048576 * n
  | 0, s => by unfold potF; split <;> simp
  | n + 1, s => by
    have ih := potF_bd h n
    have hm := minJ_bd h (g := potF t n) (s := s) (B := 1048576 * n) (by omega) ih (nbA t)
    unfold potF
    split
    · omega
    · split
      · omega
      · push_cast; omega
theorem pot_bd {t : Att} (h : OkT46 t) {s : Ast} (ho : OkA t s) : -1 ≤ potP t s ∧ potP t s ≤ 12582912 := by
  have := potF_bd h ((t.costs.length : Int) - overS s).toNat s
  have h0 : 0 ≤ overS s := ovF_nonneg fun x hx => (ho.bd x hx).1
  have hn := h.n2
  unfold potP
  omega
theorem pot_lo {t : Att} (h : OkT46 t) (s : Ast) : -1 ≤ potP t s := (potF_bd h _ s).1
/-- A further over. -/
theorem pot_le {t : Att} (h : OkT46 t) {s : Ast} {j : Nat} (ho : OkA t s) (hj : j < nbA t) (hm : mayB t s j = true) (hi : overS s < t.costs.length) (hp : potP t (aftS s j) ≠ -1) : potP t s ≠ -1 ∧ potP t s ≤ cAt t (overS s).toNat j + potP t (aftS s j) := by
  rw [pot_run ho hi]
  exact minJ_le hj hm hp (fun j _ => (h.c _ j).1) (pot_lo h)
theorem pot_at {t : Att} {s : Ast} (ho : OkA t s) (hi : overS s < t.costs.length) (hp : potP t s ≠ -1) : ∃ j, j < nbA t ∧ mayB t s j = true ∧ potP t (aftS s j) ≠ -1 ∧ potP t s = cAt t (overS s).toNat j + potP t (aftS s j) := by
  rw [pot_run ho hi] at hp ⊢
  exact minJ_at hp
/-- The cost of an allocation, from a state on. -/
def costE (t : Att) : List Int → Nat → Ast → Int → Int × Int
  | [], _, _, c => (c, 0)
  | j :: r, i, s, c => if j < 0 ∨ (nbA t : Int) ≤ j then (0, 2) else if j = s.last then (0, 8) else if s.bow.getD j.toNat 0 = t.quota then (0, 9) else costE t r (i + 1) (aftS s j.toNat) (c + cAt t i j.toNat)
theorem cost_ge {t : Att} (h : OkT46 t) : ∀ (l : List Int) (i : Nat) (s : Ast) (c : Int), OkA t s → overS s = i → i + l.length = t.costs.length → (costE t l i s c).2 = 0 → potP t s ≠ -1 ∧ c + potP t s ≤ (costE t l i s c).1
  | [], i, s, c, ho, hi, hl, he => by
    rw [pot_end (by rw [hi]; simp at hl; exact_mod_cast hl)]
    exact ⟨by decide, by simp [costE]⟩
  | j :: r, i, s, c, ho, hi, hl, he => by
    unfold costE at he ⊢
    by_cases h1 : j < 0 ∨ (nbA t : Int) ≤ j
    · rw [if_pos h1] at he; exact absurd he (by decide)
    rw [if_neg h1] at he ⊢
    by_cases h2 : j = s.last
    · rw [if_pos h2] at he; exact absurd he (by decide)
    rw [if_neg h2] at he ⊢
    by_cases h3 : s.bow.getD j.toNat 0 = t.quota
    · rw [if_pos h3] at he; exact absurd he (by decide)
    rw [if_neg h3] at he ⊢
    have hj : j.toNat < nbA t := by omega
    have hb := ho.bd (s.bow.getD j.toNat 0) (by rw [List.getD_eq_getElem?_getD, List.getElem?_eq_getElem (by rw [ho.len]; exact hj)]; exact List.getElem_mem _)
    have hm : mayB t s j.toNat = true := by
      unfold mayB
      rw [Bool.and_eq_true, decide_eq_true_eq, Int.toNat_of_nonneg (by omega)]
      exact ⟨by simpa using h2, by omega⟩
    obtain ⟨g1, g2⟩ := cost_ge h r (i + 1) (aftS s j.toNat) (c + cAt t i j.toNat) (aft_ok ho hj hm) (by rw [aft_over ho hj, hi]; rfl) (by simp at hl; omega) he
    have hp := pot_le h ho hj hm (by simp at hl; omega) g1
    rw [hi, Int.toNat_natCast] at hp
    exact ⟨hp.1, by omega⟩
theorem costE_step {t : Att} {s : Ast} {i j : Nat} {c : Int} {r : List Int} (ho : OkA t s) (hj : j < nbA t) (hm : mayB t s j = true) : costE t ((j : Int) :: r) i s c = costE t r (i + 1) (aftS s j) (c + cAt t i j) := by
  unfold mayB at hm
  rw [Bool.and_eq_true, decide_eq_true_eq] at hm
  have h2 : ¬ (j : Int) = s.last := by simpa using hm.1
  rw [costE, if_neg (by omega), if_neg h2, Int.toNat_natCast, if_neg (by omega)]
def startA (t : Att) : Ast := ⟨List.replicate (nbA t) 0, t.last⟩
theorem start_ok {t : Att} (h : OkT46 t) : OkA t (startA t) := ⟨by simp [startA], fun x hx => by
  have := List.eq_of_mem_replicate hx
  have := h.q1
  omega, h.l1, h.l2⟩
theorem start_over (t : Att) : overS (startA t) = 0 := ovF_zero _
theorem idxF_zero (q : Int) (n : Nat) : idxF q (List.replicate n 0) = 0 := by
  induction n with
  | zero => rfl
  | succ n ih => rw [List.replicate_succ, idxF, ih]; simp
theorem start_idx (t : Att) : idxS t (startA t) = t.last + 1 := by
  unfold idxS startA
  rw [idxF_zero]
  simp
/-- The first error of a task; the costs of allocations. -/
def stF (q : Int) : Nat → Int → Int
  | 0, n => n
  | k + 1, n => if 200000 < n * (q + 1) then n * (q + 1) else stF q k (n * (q + 1))
theorem stF_ok {q : Int} (hq : 0 ≤ q) : ∀ {k : Nat} {n : Int}, 0 ≤ n → stF q k n ≤ 200000 → stF q k n = n * pwQ q k
  | 0, n, _, _ => by simp [stF, pwQ]
  | k + 1, n, hn, h => by
    unfold stF at h ⊢
    by_cases hx : 200000 < n * (q + 1)
    · rw [if_pos hx] at h; omega
    · rw [if_neg hx] at h ⊢
      rw [stF_ok hq (Int.mul_nonneg hn (by omega)) h, pwQ, Int.mul_assoc, Int.mul_comm (q + 1)]
def statesS (q : Int) (b : Nat) : Int := stF q b ((b : Int) + 1)
def badC (c : Int) : Bool := decide (c < 0) || decide (1048576 < c)
def rowE (b : Nat) (l : List Int) : Int := if l.length ≠ b then 1 else if l.any badC then 2 else 0
def rowsE (b : Nat) : List (List Int) → Int
  | [] => 0
  | l :: r => if rowE b l ≠ 0 then rowE b l else rowsE b r
def badQ (t : Att) : Bool := decide (t.quota < 1) || decide (12 < t.quota) || decide (t.last < -1) || decide ((nbA t : Int) ≤ t.last)
def checkA (t : Att) : Int :=
  if t.costs.length = 0 then 6 else if 12 < t.costs.length then 9 else if nbA t < 1 ∨ 6 < nbA t then 9 else if rowsE (nbA t) t.costs ≠ 0 then rowsE (nbA t) t.costs
  else if badQ t = true then 2 else if 200000 < statesS t.quota (nbA t) then 9 else 0
theorem rowsE_zero {b : Nat} : ∀ {L : List (List Int)}, rowsE b L = 0 → ∀ l ∈ L, rowE b l = 0
  | [], _, l, h => by cases h
  | x :: r, h, l, hl => by
    unfold rowsE at h
    by_cases hx : rowE b x ≠ 0
    · rw [if_pos hx] at h; exact absurd h hx
    · rw [if_neg hx] at h
      rcases List.mem_cons.1 hl with rfl | hl
      · simpa using hx
      · exact rowsE_zero h l hl
theorem checkA_ok {t : Att} (h : checkA t = 0) : OkT46 t ∧ statesS t.quota (nbA t) = cntA t := by
  unfold checkA at h
  by_cases h1 : t.costs.length = 0
  · rw [if_pos h1] at h; exact absurd h (by decide)
  rw [if_neg h1] at h
  by_cases h2 : 12 < t.costs.length
  · rw [if_pos h2] at h; exact absurd h (by decide)
  rw [if_neg h2] at h
  by_cases h3 : nbA t < 1 ∨ 6 < nbA t
  · rw [if_pos h3] at h; exact absurd h (by decide)
  rw [if_neg h3] at h
  by_cases h4 : rowsE (nbA t) t.costs ≠ 0
  · rw [if_pos h4] at h; exact absurd h h4
  rw [if_neg h4] at h
  by_cases h5 : badQ t = true
  · rw [if_pos h5] at h; exact absurd h (by decide)
  rw [if_neg h5] at h
  by_cases h6 : 200000 < statesS t.quota (nbA t)
  · rw [if_pos h6] at h; exact absurd h (by decide)
  unfold badQ at h5
  simp only [Bool.or_eq_true, decide_eq_true_eq, not_or] at h5
  have hs : statesS t.quota (nbA t) = cntA t := stF_ok (by omega) (by omega) (show stF t.quota (nbA t) ((nbA t : Int) + 1) ≤ 200000 from by unfold statesS at h6; omega)
  have hr := rowsE_zero (show rowsE (nbA t) t.costs = 0 by omega)
  have hr1 : ∀ l ∈ t.costs, l.length = nbA t := fun l hl => by
    have := hr l hl
    unfold rowE at this
    by_cases e : l.length ≠ nbA t
    · rw [if_pos e] at this; exact absurd this (by decide)
    · omega
  refine ⟨⟨by omega, by omega, by omega, by omega, hr1, fun l hl c hc => ?_, by omega, by omega, by omega, by omega, by omega⟩, hs⟩
  have := hr l hl
  unfold rowE at this
  rw [if_neg (by rw [hr1 l hl]; simp)] at this
  by_cases e : l.any badC = true
  · rw [if_pos e] at this; exact absurd this (by decide)
  · have e2 : badC c = false := by
      cases hb : badC c with
      | false => rfl
      | true => exact absurd (List.any_eq_true.2 ⟨c, hc, hb⟩) e
    unfold badC at e2
    simp only [Bool.or_eq_false_iff, decide_eq_false_iff_not] at e2
    omega
def costS (t : Att) (l : List Int) : Int × Int :=
  if checkA t ≠ 0 then (0, checkA t) else if l.length ≠ t.costs.length then (0, 1) else costE t l 0 (startA t) 0
theorem costS_ge {t : Att} {l : List Int} (h : (costS t l).2 = 0) : checkA t = 0 ∧ potP t (startA t) ≠ -1 ∧ potP t (startA t) ≤ (costS t l).1 := by
  unfold costS at h ⊢
  by_cases h1 : checkA t ≠ 0
  · rw [if_pos h1] at h; exact absurd h h1
  rw [if_neg h1] at h ⊢
  have h1' : checkA t = 0 := by omega
  by_cases h2 : l.length ≠ t.costs.length
  · rw [if_pos h2] at h; exact absurd h (by decide)
  rw [if_neg h2] at h ⊢
  have ht := (checkA_ok h1').1
  have := cost_ge ht l 0 (startA t) 0 (start_ok ht) (start_over t) (by omega) h
  exact ⟨h1', this.1, by omega⟩
end Go.Proofs.YtjchapoggmipbaaGreatDoor

namespace Go.Proofs.YtjchapoggmipbaaGreatDoor
open Go.RowKit

/-! A region that draws its order, some of whose operations are not wanted. -/
structure FreeG (P : Program) (ops : Array Oper) (V : Tab) (G : World → Prop) (needs : Nat → List Nat) (init : List Nat) (N : Nat) : Prop where
  back : ∀ (i : Nat) (o : Oper), ops[i]? = some o → ∀ e ∈ o.after, e.on < i
  dst : ∀ (i : Nat) (o : Oper), ops[i]? = some o → ∃ d, o.dst = some d ∧ d < N
  need : ∀ (i : Nat) (o : Oper), ops[i]? = some o → ∀ d ∈ needs i, d ∈ init ∨ ∃ e ∈ o.after, Region.binds .any e = true ∧ ∃ p, ops[e.on]? = some p ∧ p.dst = some d
  sV : ∀ d w w' v, V d w v → Below w.heap.size w w' → V d w' v
  sG : ∀ w w', G w → Below w.heap.size w w' → G w'
  step : ∀ (i : Nat) (o : Oper), ops[i]? = some o → ∀ a w, G w → (∀ x ∈ needs i, Holds V a w x) → (Region.wanted o (yielded ops a.tmps) = true ∧ Meets P V o a w) ∨ (Region.wanted o (yielded ops a.tmps) = false ∧ ∀ d, o.dst = some d → V d w undef)
section
variable {P : Program} {ops : Array Oper} {V : Tab} {G : World → Prop} {needs : Nat → List Nat} {init : List Nat} {N : Nat} {Q : Exit → Act → World → Prop} {a0 : Act} {w0 : World}
end
/-- The operations of a region of a function's text. -/
def findR6 (n : Nat) : Code → Option (Array Oper)
  | .region id ops _ => if id = n then some ops else none
  | .seq a b => match findR6 n a with
    | some x => some x
    | none => findR6 n b
  | .cond _ a b => match findR6 n a with
    | some x => some x
    | none => findR6 n b
  | .block _ c => findR6 n c
  | .loop c => findR6 n c
  | .scope c => findR6 n c
  | _ => none
def needG (ops : Array Oper) (needs : List (List Nat)) (init : List Nat) : Bool := (List.range ops.size).all fun i => match ops[i]? with
  | some o => (needs.getD i []).all fun d => init.contains d || o.after.toList.any fun e => Region.binds .any e && (match ops[e.on]? with | some p => p.dst == some d | none => false)
  | none => true
theorem needG_of {ops : Array Oper} {needs : List (List Nat)} {init : List Nat} (h : needG ops needs init = true) : ∀ (i : Nat) (o : Oper), ops[i]? = some o → ∀ d ∈ needs.getD i [], d ∈ init ∨ ∃ e ∈ o.after, Region.binds .any e = true ∧ ∃ p, ops[e.on]? = some p ∧ p.dst = some d := by
  intro i o ho d hd
  have := List.all_eq_true.1 h i (List.mem_range.2 (Array.getElem?_eq_some_iff.1 ho).1)
  rw [ho] at this
  have := List.all_eq_true.1 this d hd
  rcases Bool.or_eq_true_iff.1 this with h1 | h1
  · exact .inl (by simpa using h1)
  · obtain ⟨e, he, h2⟩ := List.any_eq_true.1 h1
    rw [Bool.and_eq_true] at h2
    refine .inr ⟨e, Array.mem_toList_iff.1 he, h2.1, ?_⟩
    cases hp : ops[e.on]? with
    | none => rw [hp] at h2; cases h2.2
    | some p => rw [hp] at h2; exact ⟨p, rfl, by simpa using h2.2⟩
theorem opG_of {ops : Array Oper} {i : Nat} {o : Oper} {x : Op} {d : Option Tmp} (h : (ops[i]?).map (fun o => (o.op, o.dst)) = some (x, d)) (ho : ops[i]? = some o) : o.op = x ∧ o.dst = d := by
  rw [ho] at h
  simpa using h
theorem free_not {ops : Array Oper} {o : Oper} (h : o.guard = none) {t : Array Value} : Region.wanted o (yielded ops t) = true := by unfold Region.wanted; rw [h]
theorem guardG_of {ops : Array Oper} {i : Nat} {o : Oper} (h : (ops[i]?).map (·.guard) = some none) (ho : ops[i]? = some o) : o.guard = none := by
  rw [ho] at h
  simpa using h
/-- What a list of slots says. -/
def tabV (tab : List (Nat × Value)) : Tab := fun d _ v => v = (tab.lookup d).getD undef
theorem fg_put {tab : List (Nat × Value)} {w : World} {o : Oper} {d0 : Nat} {v : Value} (hd : o.dst = some d0) (hv : v = (tab.lookup d0).getD undef) : ∀ d, o.dst = some d → tabV tab d w v := by
  intro d h
  rw [hd] at h
  obtain rfl := Option.some.inj h
  exact hv
/-- The frame with some slots put anew. -/
def updM : List (Option Value) → List Value → List Value
  | none :: m, x :: l => x :: updM m l
  | some v :: m, _ :: l => v :: updM m l
  | _, _ => []
theorem updM_get : ∀ (m : List (Option Value)) (l : List Value) (i : Nat), m.length = l.length → (updM m l)[i]? = (l[i]?).map fun x => ((m[i]?).getD none).getD x
  | [], [], _, _ => by simp [updM]
  | none :: m, x :: l, 0, _ => by simp [updM]
  | some v :: m, x :: l, 0, _ => by simp [updM]
  | none :: m, x :: l, i + 1, h => by
    rw [updM, List.getElem?_cons_succ, List.getElem?_cons_succ, List.getElem?_cons_succ, updM_get m l i (by simpa using h)]
  | some v :: m, x :: l, i + 1, h => by
    rw [updM, List.getElem?_cons_succ, List.getElem?_cons_succ, List.getElem?_cons_succ, updM_get m l i (by simpa using h)]
  | [], _ :: _, _, h => by simp at h
  | _ :: _, [], _, h => by simp at h
def maskOf (tab : List (Nat × Value)) (dl : List Nat) : Nat → Nat → List (Option Value)
  | _, 0 => []
  | k, n + 1 => (bif dl.contains k then some ((tab.lookup k).getD undef) else none) :: maskOf tab dl (k + 1) n
theorem maskOf_len (tab : List (Nat × Value)) (dl : List Nat) : ∀ n k, (maskOf tab dl k n).length = n
  | 0, _ => rfl
  | n + 1, k => by rw [maskOf, List.length_cons, maskOf_len tab dl n]
theorem maskOf_get (tab : List (Nat × Value)) (dl : List Nat) : ∀ (n k i : Nat), i < n → (maskOf tab dl k n)[i]? = some (bif dl.contains (k + i) then some ((tab.lookup (k + i)).getD undef) else none)
  | 0, _, _, h => by omega
  | n + 1, k, 0, _ => by rw [maskOf]; simp
  | n + 1, k, i + 1, h => by rw [maskOf, List.getElem?_cons_succ, maskOf_get tab dl n (k + 1) i (by omega), show k + 1 + i = k + (i + 1) by omega]
def dstIn (ops : Array Oper) (dl : List Nat) : Bool := ops.toList.all (fun o => match o.dst with | some d => dl.contains d | none => true) && dl.all fun d => ops.toList.any fun o => o.dst == some d
end Go.Proofs.YtjchapoggmipbaaGreatDoor

namespace Go.Proofs.YtjchapoggmipbaaGreatDoor
open Go.RowKit

/-- A row of numbers that is an element. -/
def elRw (w : World) (F : Nat → Prop) (cs : List Value) (l : List Int) : Prop := ∃ v, cs = [v] ∧ Sl 1 elInt w F v l
theorem elRw_good : Good elRw := Sl.good elInt_good
theorem num_at {w : World} {F : Nat → Prop} {A : Option Addr} {n c : Nat} {l : List Int} (h : Sl 1 elInt w F (.slice A n c) l) {k : Nat} (hk : k < l.length) :
    ∃ b o, A = some ⟨b, o, none⟩ ∧ F b ∧ w.cell? ⟨b, o + k, none⟩ = some (.int .i64 (l.getD k 0)) := by
  obtain ⟨b, o, cs, h1, h2, h3, h4, h5⟩ := h.at hk
  have h5' : cs = [.int .i64 l[k]] := h5
  subst h5'
  have y0 := h4 0 _ rfl
  rw [Nat.add_zero, Nat.mul_one, show l[k] = l.getD k 0 by simp [List.getD_eq_getElem?_getD, hk]] at y0
  exact ⟨b, o, h1, h2, y0⟩
theorem rw_at {w : World} {F : Nat → Prop} {A : Option Addr} {n c : Nat} {L : List (List Int)} (h : Sl 1 elRw w F (.slice A n c) L) {k : Nat} (hk : k < L.length) :
    ∃ b o B cb, A = some ⟨b, o, none⟩ ∧ F b ∧ w.cell? ⟨b, o + k, none⟩ = some (.slice B (L.getD k []).length cb) ∧ Sl 1 elInt w F (.slice B (L.getD k []).length cb) (L.getD k []) := by
  obtain ⟨b, o, cs, h1, h2, h3, h4, v, rfl, h5⟩ := h.at hk
  have y0 := h4 0 _ rfl
  rw [Nat.add_zero, Nat.mul_one] at y0
  rw [show L[k] = L.getD k [] by simp [List.getD_eq_getElem?_getD, hk]] at h5
  obtain ⟨B, cb, rfl, _⟩ := h5.shape
  exact ⟨b, o, B, cb, h1, h2, y0, h5⟩
/-- A slice that lies below. -/
theorem sl_lowA {α : Type} {size : Nat} {R : World → (Nat → Prop) → List Value → α → Prop} {w w' : World} {v : Value} {l : List α} (hR : Good R) (h : Sl size R w (· < w.heap.size) v l) (hb : Below w.heap.size w w') : Sl size R w' (· < w'.heap.size) v l :=
  h.keep hR (Same.of_below hb) fun _ h => Nat.lt_of_lt_of_le h hb.size
theorem low_allocA (w : World) (o : Obj) : Below w.heap.size w (w.alloc o) := Below.alloc (Below.refl _ _) (Nat.le_refl _) o
theorem ret_iA {x y : Int} (h : x = y) : Ending.returned (.int .i64 x) = .returned (.int .i64 y) := by rw [h]
def asV (sv : Value) (s : Ast) : Value := .agg #[sv, .int .i64 s.last]
def atV (cv : Value) (t : Att) : Value := .agg #[cv, .int .i64 t.quota, .int .i64 t.last]
theorem stF_err {q : Int} {k : Nat} {n : Int} (h : 200000 < n * (q + 1)) : stF q (k + 1) n = n * (q + 1) := by rw [stF, if_pos h]
theorem stF_next {q : Int} {k : Nat} {n : Int} (h : ¬ 200000 < n * (q + 1)) : stF q (k + 1) n = stF q k (n * (q + 1)) := by rw [stF, if_neg h]
set_option maxRecDepth 100000 in
set_option maxHeartbeats 2000000 in
theorem att_states (q : Int) (b : Nat) (w : World) (hq : 0 ≤ q ∧ q ≤ 1000000) (hb : b ≤ 1000) :
    Calls Tryz.prog 63 #[.int .i64 q, .int .i64 (b : Int)] w fun e w' => e = .returned (.int .i64 (statesS q b)) ∧ w = w' := by
  obtain ⟨Z, hZ⟩ : ∃ z, z = statesS q b := ⟨_, rfl⟩
  rw [← hZ]
  have HZ := Lib.hid (show Z = stF q (b - 0) ((b : Int) + 1) from hZ)
  have f0 : IntKind.i64.wrap ((b : Int) + 1) = (b : Int) + 1 := IntWalk.i64_in _ (by omega)
  have f1 : IntKind.i64.wrap (q + 1) = q + 1 := IntWalk.i64_in _ (by omega)
  clear hZ
  go_enter Tryz.func63, Tryz.ntmps63
  go_wp2
  go_loopw [5, 9] (fun n i wr => ∃ (k : Nat) (x : Int), k ≤ b ∧ i = .int .i64 k ∧ n = .int .i64 x ∧ 0 ≤ x ∧ x ≤ 200000 ∧ Hid (Z = stF q (b - k) x) ∧ w = wr) (fun _ i _ => b - (intOf i).toNat)
  case atStart => exact ⟨0, _, Nat.zero_le _, rfl, rfl, by omega, by omega, HZ, rfl⟩
  case round =>
    clear HZ
    obtain ⟨k, x, hk, rfl, rfl, hx0, hx1, hz, rfl⟩ := hrel
    by_cases hlt : k < b
    · obtain ⟨m, hm⟩ : ∃ m, b - k = m + 1 := ⟨b - k - 1, by omega⟩
      have hz2 := hz.out
      rw [hm] at hz2
      have gk : (k : Int) < (b : Int) := by omega
      obtain ⟨y, hy⟩ : ∃ y, y = x * (q + 1) := ⟨_, rfl⟩
      have hy0 : 0 ≤ y := by rw [hy]; exact Int.mul_nonneg hx0 (by omega)
      have hy1 : y ≤ 200000 * 1000001 := by
        rw [hy]
        exact Int.mul_le_mul hx1 (by omega) (by omega) (by omega)
      have f2 : IntKind.i64.wrap (x * (q + 1)) = y := by rw [← hy]; exact IntWalk.i64_in _ (by omega)
      clear hz
      by_cases hc : 200000 < y
      · rw [stF_err (by rw [← hy]; exact hc), ← hy] at hz2
        have HY := Lib.hid hz2
        clear hz2 hy hm
        go_wp2
        go_ret
        exact ⟨ret_iA HY.out.symm, rfl⟩
      · rw [stF_next (by rw [← hy]; exact hc), ← hy, show m = b - (k + 1) by omega] at hz2
        have HY := Lib.hid hz2
        clear hz2 hy hm
        go_wp2
        go_roundw
        case rel => exact ⟨k + 1, y, by omega, by go_num, rfl, hy0, by omega, HY, (by first | rfl | trivial)⟩
        case measure => simp [intOf]; omega
    · obtain rfl : k = b := by omega
      have hz2 := hz.out
      rw [Nat.sub_self, stF] at hz2
      have HY := Lib.hid hz2
      clear hz hz2
      go_wp2
      go_ret
      exact ⟨ret_iA HY.out.symm, rfl⟩
/-- Rows within the bounds of a state. -/
structure BowB (l : List Int) : Prop where
  n : l.length ≤ 6
  bd : ∀ x ∈ l, 0 ≤ x ∧ x ≤ 12
theorem BowB.at {l : List Int} (h : BowB l) (k : Nat) : 0 ≤ l.getD k 0 ∧ l.getD k 0 ≤ 12 := by
  by_cases hk : k < l.length
  · have := h.bd l[k] (List.getElem_mem hk)
    rw [show l.getD k 0 = l[k] by simp [List.getD_eq_getElem?_getD, hk]]
    exact this
  · rw [show l.getD k 0 = 0 by simp [List.getD_eq_getElem?_getD, List.getElem?_eq_none (show l.length ≤ k by omega)]]
    decide
theorem BowB.sum {l : List Int} (h : BowB l) (k : Nat) : 0 ≤ ovF (l.take k) ∧ ovF (l.take k) ≤ 72 := by
  have h2 : ∀ x ∈ l.take k, 0 ≤ x ∧ x ≤ 12 := fun x hx => h.bd x (List.mem_of_mem_take hx)
  have h3 := ovF_nonneg fun x hx => (h2 x hx).1
  have h4 := ovF_bd h2
  have h5 : (l.take k).length ≤ 6 := by rw [List.length_take]; have := h.n; omega
  omega
theorem OkA.bow {t : Att} (h : OkT46 t) {s : Ast} (ho : OkA t s) : BowB s.bow := ⟨by rw [ho.len]; exact h.b2, fun x hx => by have := ho.bd x hx; have := h.q2; omega⟩
set_option maxRecDepth 100000 in
set_option maxHeartbeats 2000000 in
theorem att_over (s : Ast) (sv : Value) (w : World) (h : Sl 1 elInt w (· < w.heap.size) sv s.bow) (hB : BowB s.bow) :
    Calls Tryz.prog 64 #[asV sv s] w fun e w' => e = .returned (.int .i64 (overS s)) ∧ Below w.heap.size w w' := by
  obtain ⟨A, c, rfl, hc, hc2⟩ := h.shape
  obtain ⟨l, last⟩ := s
  unfold asV overS
  dsimp only at *
  obtain ⟨Z, hZ⟩ : ∃ z, z = ovF l := ⟨_, rfl⟩
  rw [← hZ]
  have HB := Lib.hid hB
  have HL := Lib.hid h
  have HZ := Lib.hid (show Z = ovF (l.take l.length) by rw [List.take_length]; exact hZ)
  have HW := Lib.hid (low_allocA w (.cells #[.slice A l.length c, .int .i64 last] 91))
  have h0 : ovF (l.take 0) = 0 := rfl
  have H0 := Lib.hid h0
  clear hZ hB h h0
  go_enter Tryz.func64, Tryz.ntmps64
  go_wp2
  go_loopw [3, 9] (fun n i wr => ∃ (k : Nat) (x : Int), k ≤ l.length ∧ i = .int .i64 k ∧ n = .int .i64 x ∧ Hid (x = ovF (l.take k)) ∧ Hid (Below w.heap.size w wr)) (fun _ i _ => l.length - (intOf i).toNat)
  case atStart => exact ⟨0, 0, Nat.zero_le _, rfl, rfl, Lib.hid H0.out.symm, HW⟩
  case round =>
    clear HW
    obtain ⟨k, x, hk, rfl, rfl, hx, hb⟩ := hrel
    by_cases hlt : k < l.length
    · obtain ⟨b, o, rfl, hbl, t0⟩ := num_at HL.out hlt
      have x0 := (hb.out.cell (p := ⟨b, o + k, none⟩) hbl).trans t0
      have hs := ovF_take hlt
      have b1 := HB.out.at k
      have b2 := HB.out.sum k
      rw [← hx.out] at hs b2
      obtain ⟨y, hy⟩ : ∃ y, y = l.getD k 0 := ⟨_, rfl⟩
      rw [← hy] at hs b1 x0
      have HS := Lib.hid hs.symm
      have f0 : IntKind.i64.wrap (x + y) = x + y := IntWalk.i64_in _ (by omega)
      have gk : (k : Int) < (l.length : Int) := by omega
      clear hs hy t0 hx
      go_wp2
      go_roundw
      case rel => exact ⟨k + 1, x + y, by omega, by go_num, rfl, HS, hb⟩
      case measure => simp [intOf]; omega
    · obtain rfl : k = l.length := by omega
      have HX := Lib.hid (hx.out.trans HZ.out.symm)
      clear hx
      go_wp2
      go_ret
      exact ⟨ret_iA HX.out, hb.out⟩
end Go.Proofs.YtjchapoggmipbaaGreatDoor

namespace Go.Proofs.YtjchapoggmipbaaGreatDoor
open Go.RowKit

theorem ret_bA {x y : Bool} (h : x = y) : Ending.returned (.bool x) = .returned (.bool y) := by rw [h]
theorem blk_twoA {w : World} {g : Nat} {t : TypeId} {a b : Value} (h : Blk w g t #[a, b]) : w.cell? ⟨g, 0, none⟩ = some a ∧ w.cell? ⟨g, 1, none⟩ = some b := ⟨h.cell 0, h.cell 1⟩
theorem blk_threeA {w : World} {g : Nat} {t : TypeId} {a b c : Value} (h : Blk w g t #[a, b, c]) : w.cell? ⟨g, 0, none⟩ = some a ∧ w.cell? ⟨g, 1, none⟩ = some b ∧ w.cell? ⟨g, 2, none⟩ = some c := ⟨h.cell 0, h.cell 1, h.cell 2⟩
/-- Two boxes: a state, a task. -/
structure MB (w W : World) (g g2 : Nat) (sv : Value) (s : Ast) (cv : Value) (t : Att) : Prop where
  bel : Below w.heap.size w W
  st : Blk W g 91 #[sv, .int .i64 s.last]
  ta : Blk W g2 31 #[cv, .int .i64 t.quota, .int .i64 t.last]
theorem MB.cells {w W : World} {g g2 : Nat} {sv cv : Value} {s : Ast} {t : Att} (h : MB w W g g2 sv s cv t) : (W.cell? ⟨g, 0, none⟩ = some sv ∧ W.cell? ⟨g, 1, none⟩ = some (.int .i64 s.last)) ∧ (W.cell? ⟨g2, 0, none⟩ = some cv ∧ W.cell? ⟨g2, 1, none⟩ = some (.int .i64 t.quota) ∧ W.cell? ⟨g2, 2, none⟩ = some (.int .i64 t.last)) := ⟨blk_twoA h.st, blk_threeA h.ta⟩
theorem MB.step {w W W' : World} {g g2 : Nat} {sv cv : Value} {s : Ast} {t : Att} (h : MB w W g g2 sv s cv t) (hb : Below W.heap.size W W') : MB w W' g g2 sv s cv t := ⟨h.bel.trans (hb.mono h.bel.size), h.st.below hb h.st.lt, h.ta.below hb h.ta.lt⟩
theorem MB.sa (w : World) (sv : Value) (s : Ast) (cv : Value) (t : Att) : MB w ((w.alloc (.cells #[sv, .int .i64 s.last] 91)).alloc (.cells #[cv, .int .i64 t.quota, .int .i64 t.last] 31)) w.heap.size (w.heap.size + 1) sv s cv t :=
  ⟨(low_allocA w _).trans ((low_allocA _ _).mono (by simp)), (Blk.new w _ _).alloc _, by have h := Blk.new (w.alloc (.cells #[sv, .int .i64 s.last] 91)) 31 #[cv, .int .i64 t.quota, .int .i64 t.last]; simpa using h⟩
theorem MB.as (w : World) (sv : Value) (s : Ast) (cv : Value) (t : Att) : MB w ((w.alloc (.cells #[cv, .int .i64 t.quota, .int .i64 t.last] 31)).alloc (.cells #[sv, .int .i64 s.last] 91)) (w.heap.size + 1) w.heap.size sv s cv t :=
  ⟨(low_allocA w _).trans ((low_allocA _ _).mono (by simp)), by have h := Blk.new (w.alloc (.cells #[cv, .int .i64 t.quota, .int .i64 t.last] 31)) 91 #[sv, .int .i64 s.last]; simpa using h, (Blk.new w _ _).alloc _⟩
set_option maxRecDepth 100000 in
set_option maxHeartbeats 2000000 in
theorem att_may (t : Att) (cv : Value) (s : Ast) (sv : Value) (j : Nat) (w : World) (h : Sl 1 elInt w (· < w.heap.size) sv s.bow) (hj : j < s.bow.length) :
    Calls Tryz.prog 34 #[asV sv s, atV cv t, .int .i64 (j : Int)] w fun e w' => e = .returned (.bool (mayB t s j)) ∧ Below w.heap.size w w' := by
  obtain ⟨A, c, rfl, hc, hc2⟩ := h.shape
  obtain ⟨b, o, rfl, hbl, t0⟩ := num_at h hj
  have HM := MB.sa w (.slice (some ⟨b, o, none⟩) s.bow.length c) s cv t
  have x0 := (HM.bel.cell (p := ⟨b, o + j, none⟩) hbl).trans t0
  obtain ⟨⟨y0, y1⟩, z0, z1, z2⟩ := HM.cells
  have HB := Lib.hid HM.bel
  obtain ⟨l, last⟩ := s
  obtain ⟨L, q, tl⟩ := t
  unfold asV atV mayB
  dsimp only at *
  obtain ⟨x, hx⟩ : ∃ x, x = l.getD j 0 := ⟨_, rfl⟩
  rw [← hx] at x0 ⊢
  have gj : (j : Int) < (l.length : Int) := by omega
  obtain ⟨wx, hwx⟩ : ∃ wx, wx = (w.alloc (.cells #[.slice (some ⟨b, o, none⟩) l.length c, .int .i64 last] 91)).alloc (.cells #[cv, .int .i64 q, .int .i64 tl] 31) := ⟨_, rfl⟩
  rw [← hwx] at x0 y0 y1 z0 z1 z2 HB
  have HWX := Lib.hid hwx.symm
  have HX := Lib.hid x0
  have HY0 := Lib.hid y0
  have HY1 := Lib.hid y1
  have HZ1 := Lib.hid z1
  clear hx t0 hc hc2 h HM hwx x0 y0 y1 z0 z1 z2
  cases c1 : ((j : Int) == last)
  · go_enter Tryz.func34, Tryz.ntmps34
    go_upto_region 1 with fail
    rw [HWX.out]
    have y0 := HY0.out
    have y1 := HY1.out
    have z1 := HZ1.out
    have x0 := HX.out
    have c2 : ((j : Int) != last) = true := by rw [bne, c1]; rfl
    go_quiet (fail)
    go_wp2
    go_ret
    exact ⟨ret_bA (by simp), Below.drewN_ HB.out _⟩
  · go_enter Tryz.func34, Tryz.ntmps34
    go_upto_region 1 with fail
    rw [HWX.out]
    have y0 := HY0.out
    have y1 := HY1.out
    have c2 : ((j : Int) != last) = false := by rw [bne, c1]; rfl
    go_quiet (fail)
    go_wp2
    go_ret
    exact ⟨ret_bA (by simp), Below.drewN_ HB.out _⟩
end Go.Proofs.YtjchapoggmipbaaGreatDoor

namespace Go.Proofs.YtjchapoggmipbaaGreatDoor
open Go.RowKit

theorem beqF {a b : Int} (h : a ≠ b) : (a == b) = false := by rw [beq_eq_false_iff_ne]; exact h
theorem bneT {a b : Int} (h : a ≠ b) : (a != b) = true := by rw [bne_iff_ne]; exact h
theorem bneF {a b : Int} (h : a = b) : (a != b) = false := by rw [h]; simp
theorem rowsE_at {b : Nat} {L : List (List Int)} {k : Nat} (h : k < L.length) : rowsE b (L.drop k) = if rowE b (L.getD k []) ≠ 0 then rowE b (L.getD k []) else rowsE b (L.drop (k + 1)) := by
  rw [List.drop_eq_getElem_cons h, rowsE]
  simp [List.getD_eq_getElem?_getD, h]
theorem any_at {l : List Int} {j : Nat} (h : j < l.length) : (l.drop j).any badC = (badC (l.getD j 0) || (l.drop (j + 1)).any badC) := by
  rw [List.drop_eq_getElem_cons h, List.any_cons]
  simp [List.getD_eq_getElem?_getD, h]
theorem checkA_rows {t : Att} {Z : Int} (hZ : Z = checkA t) (h1 : ¬ t.costs.length = 0) (h2 : ¬ 12 < t.costs.length) (h3 : ¬ (nbA t < 1 ∨ 6 < nbA t)) : Z = if rowsE (nbA t) t.costs ≠ 0 then rowsE (nbA t) t.costs else if badQ t = true then 2 else if 200000 < statesS t.quota (nbA t) then 9 else 0 := by
  rw [hZ, checkA, if_neg h1, if_neg h2, if_neg h3]
structure BX (w W : World) (cv : Value) (t : Att) : Prop where
  bel : Below w.heap.size w W
  ta : Blk W w.heap.size 31 #[cv, .int .i64 t.quota, .int .i64 t.last]
theorem BX.new (w : World) (cv : Value) (t : Att) : BX w (w.alloc (.cells #[cv, .int .i64 t.quota, .int .i64 t.last] 31)) cv t := ⟨low_allocA w _, Blk.new w _ _⟩
theorem BX.step {w W W' : World} {cv : Value} {t : Att} (h : BX w W cv t) (hb : Below W.heap.size W W') : BX w W' cv t := ⟨h.bel.trans (hb.mono h.bel.size), h.ta.below hb h.ta.lt⟩
theorem BX.cells {w W : World} {cv : Value} {t : Att} (h : BX w W cv t) : W.cell? ⟨w.heap.size, 0, none⟩ = some cv ∧ W.cell? ⟨w.heap.size, 1, none⟩ = some (.int .i64 t.quota) ∧ W.cell? ⟨w.heap.size, 2, none⟩ = some (.int .i64 t.last) := blk_threeA h.ta
set_option maxRecDepth 100000 in
set_option maxHeartbeats 4000000 in
theorem att_Check (t : Att) (cv : Value) (w : World) (h : Sl 1 elRw w (· < w.heap.size) cv t.costs) :
    Calls Tryz.prog 36 #[atV cv t] w fun e w' => e = .returned (.int .i64 (checkA t)) ∧ Below w.heap.size w w' := by
  obtain ⟨A, c, rfl, hc, hc2⟩ := h.shape
  obtain ⟨Z, hZ⟩ : ∃ z, z = checkA t := ⟨_, rfl⟩
  rw [← hZ]
  have HX := Lib.hid (BX.new w (.slice A t.costs.length c) t)
  have HL := Lib.hid h
  unfold atV
  obtain ⟨y0, y1, y2⟩ := HX.out.cells
  clear y0 y1 y2 h
  by_cases n0 : t.costs.length = 0
  · have hz : Z = 6 := by rw [hZ, checkA, if_pos n0]
    have HZ := Lib.hid hz
    obtain ⟨n, hn⟩ : ∃ n, n = t.costs.length := ⟨_, rfl⟩
    rw [← hn] at HX n0 ⊢
    subst n0
    clear hz hZ hn HL hc
    go_enter Tryz.func36, Tryz.ntmps36
    go_wp2
    go_ret
    exact ⟨ret_iA HZ.out.symm, HX.out.bel⟩
  by_cases n12 : 12 < t.costs.length
  · have hz : Z = 9 := by rw [hZ, checkA, if_neg n0, if_pos n12]
    have HZ := Lib.hid hz
    have g1 : ((t.costs.length : Int) == 0) = false := beqF (by omega)
    have g2 : (12 : Int) < (t.costs.length : Int) := by omega
    clear hz hZ HL n0
    go_enter Tryz.func36, Tryz.ntmps36
    go_wp2
    go_ret
    exact ⟨ret_iA HZ.out.symm, HX.out.bel⟩
  obtain ⟨b9, o9, B9, cb9, rfl, hF9, t9, hsl9⟩ := rw_at HL.out (k := 0) (by omega)
  have x9 := (HX.out.bel.cell (p := ⟨b9, o9 + 0, none⟩) hF9).trans t9
  rw [Nat.add_zero] at x9
  have HLR := Lib.hid (show nbA t = (t.costs.getD 0 []).length from rfl)
  obtain ⟨b, hb⟩ : ∃ b, b = nbA t := ⟨_, rfl⟩
  rw [← HLR.out, ← hb] at x9
  have g1 : ((t.costs.length : Int) == 0) = false := beqF (by omega)
  have g2 : ¬ (12 : Int) < (t.costs.length : Int) := by omega
  have g3 : (0 : Int) < (t.costs.length : Int) := by omega
  clear t9 hsl9
  by_cases n3 : b < 1 ∨ 6 < b
  · have hz : Z = 9 := by rw [hZ, checkA, if_neg n0, if_neg n12, if_pos (by rw [← hb]; exact n3)]
    have HZ := Lib.hid hz
    clear hz hZ HL n0 n12 HLR hb
    by_cases n4 : b < 1
    · have g4 : (b : Int) < 1 := by omega
      clear n3 n4
      go_enter Tryz.func36, Tryz.ntmps36
      go_wp2
      go_ret
      exact ⟨ret_iA HZ.out.symm, HX.out.bel⟩
    · have g4 : ¬ (b : Int) < 1 := by omega
      have g5 : (6 : Int) < (b : Int) := by omega
      clear n3 n4
      go_enter Tryz.func36, Tryz.ntmps36
      go_wp2
      go_ret
      exact ⟨ret_iA HZ.out.symm, HX.out.bel⟩
  have hz := checkA_rows hZ n0 n12 (by rw [← hb]; exact n3)
  rw [← hb] at hz
  have g4 : ¬ (b : Int) < 1 := by omega
  have g5 : ¬ (6 : Int) < (b : Int) := by omega
  have hb6 : b ≤ 6 := by omega
  have hb1 : 1 ≤ b := by omega
  obtain ⟨RZ, hRZ⟩ : ∃ R, R = rowsE b t.costs := ⟨_, rfl⟩
  rw [← hRZ] at hz
  have HRZ := Lib.hid (show RZ = rowsE b (t.costs.drop 0) by rw [List.drop_zero]; exact hRZ)
  have HZ := Lib.hid hz
  have HBQ := Lib.hid (show badQ t = (decide (t.quota < 1) || decide (12 < t.quota) || decide (t.last < -1) || decide ((b : Int) ≤ t.last)) by rw [badQ, hb])
  have KST := Lib.hid (fun W (hq : 0 ≤ t.quota ∧ t.quota ≤ 1000000) => att_states t.quota b W hq (by omega))
  clear hZ hz hRZ hb HLR n0 n12 n3
  go_enter Tryz.func36, Tryz.ntmps36
  go_wp2
  go_loopw [32] (fun i wr => ∃ k : Nat, k ≤ t.costs.length ∧ i = .int .i64 k ∧ Hid (RZ = rowsE b (t.costs.drop k)) ∧ Hid (BX w wr (.slice (some ⟨b9, o9, none⟩) t.costs.length c) t)) (fun i _ => t.costs.length - (intOf i).toNat)
  case atStart => exact ⟨0, Nat.zero_le _, rfl, HRZ, HX⟩
  case round =>
    clear HRZ HX x9
    obtain ⟨k, hk, rfl, hrz, hx⟩ := hrel
    by_cases hlt : k < t.costs.length
    · obtain ⟨b8, o8, B8, cb8, hA8, hF8, t8, hsl8⟩ := rw_at HL.out hlt
      simp only [Option.some.injEq, Addr.mk.injEq, and_true] at hA8
      obtain ⟨rfl, rfl⟩ := hA8
      have x8 := (hx.out.bel.cell (p := ⟨b9, o9 + k, none⟩) hF8).trans t8
      have hr := rowsE_at (b := b) hlt
      rw [← hrz.out] at hr
      have gk : (k : Int) < (t.costs.length : Int) := by omega
      obtain ⟨l, hl⟩ : ∃ l, l = t.costs.getD k [] := ⟨_, rfl⟩
      rw [← hl] at hr x8 hsl8
      have HX2 := Lib.hid hx.out
      have HS8 := Lib.hid hsl8
      clear t8 hl hsl8 hrz hx
      by_cases he : l.length = b
      case neg =>
        have hr1 : rowE b l = 1 := by rw [rowE, if_pos he]
        rw [hr1, if_pos (by decide)] at hr
        have hz := HZ.out
        rw [if_pos (by rw [hr]; decide), hr] at hz
        have HZ1 := Lib.hid hz
        have g6 : ((l.length : Int) != (b : Int)) = true := bneT (by omega)
        clear hr hz he hr1
        go_wp2
        go_ret
        exact ⟨ret_iA HZ1.out.symm, HX2.out.bel⟩
      have g6 : ((l.length : Int) != (b : Int)) = false := bneF (by omega)
      have hr2 : RZ = if (l.drop 0).any badC = true then 2 else rowsE b (t.costs.drop (k + 1)) := by
        have hre : rowE b l = if l.any badC = true then 2 else 0 := by rw [rowE, if_neg (by omega)]
        rw [hr, hre, List.drop_zero]
        by_cases ha : l.any badC = true
        · simp only [if_pos ha]
          rw [if_pos (by decide)]
        · simp only [if_neg ha]
          rw [if_neg (by decide)]
      have HR2 := Lib.hid hr2
      have hl6 : l.length ≤ 6 := by omega
      clear hr hr2 he
      obtain ⟨wo, rfl⟩ : ∃ wo : World, wo = wr := ⟨_, rfl⟩
      go_wp2
      go_loopw [42] (fun i wr => ∃ j : Nat, j ≤ l.length ∧ i = .int .i64 j ∧ Hid (RZ = if (l.drop j).any badC = true then 2 else rowsE b (t.costs.drop (k + 1))) ∧ Hid (BX w wr (.slice (some ⟨b9, o9, none⟩) t.costs.length c) t)) (fun i _ => l.length - (intOf i).toNat)
      case atStart => exact ⟨0, Nat.zero_le _, rfl, HR2, HX2⟩
      case round =>
        obtain ⟨j, hj, rfl, hrj, hxj⟩ := hrel
        have HXB := Lib.hid HX2.out.bel
        clear HR2 HX2 x8
        by_cases hlj : j < l.length
        · obtain ⟨b7, o7, rfl, hF7, t7⟩ := num_at HS8.out hlj
          have x7 := (hxj.out.bel.cell (p := ⟨b7, o7 + j, none⟩) hF7).trans t7
          have hra := any_at hlj
          obtain ⟨x, hx⟩ : ∃ x, x = l.getD j 0 := ⟨_, rfl⟩
          rw [← hx] at hra x7
          have hrr := hrj.out
          rw [hra] at hrr
          have gj : (j : Int) < (l.length : Int) := by omega
          clear t7 hx hra hrj
          by_cases p1 : x < 0
          · rw [show badC x = true by simp [badC, p1], Bool.true_or, if_pos rfl] at hrr
            have hz := HZ.out
            rw [if_pos (by rw [hrr]; decide), hrr] at hz
            have HZ1 := Lib.hid hz
            clear hz hrr
            go_wp2
            go_ret
            exact ⟨ret_iA HZ1.out.symm, hxj.out.bel⟩
          by_cases p2 : 1048576 < x
          · rw [show badC x = true by simp [badC, p2], Bool.true_or, if_pos rfl] at hrr
            have hz := HZ.out
            rw [if_pos (by rw [hrr]; decide), hrr] at hz
            have HZ1 := Lib.hid hz
            clear hz hrr
            go_wp2
            go_ret
            exact ⟨ret_iA HZ1.out.symm, hxj.out.bel⟩
          rw [show badC x = false by (unfold badC; rw [decide_eq_false p1, decide_eq_false p2]; rfl), Bool.false_or] at hrr
          have HRR := Lib.hid hrr
          clear hrr
          go_wp2
          go_roundw
          case rel => exact ⟨j + 1, by omega, by go_num, HRR, hxj⟩
          case measure => simp [intOf]; omega
        · obtain rfl : j = l.length := by omega
          have hrr := hrj.out
          rw [List.drop_length, List.any_nil, if_neg (by decide)] at hrr
          have HRR := Lib.hid hrr
          clear hrr hrj
          go_wp2
          go_roundw
          case rel => exact ⟨k + 1, by omega, by go_num, HRR, hxj⟩
          case measure => simp [intOf]; omega
    · obtain rfl : k = t.costs.length := by omega
      have hrr := hrz.out
      rw [List.drop_length, rowsE] at hrr
      have hz := HZ.out
      rw [if_neg (by rw [hrr]; decide), HBQ.out] at hz
      obtain ⟨y0, y1, y2⟩ := hx.out.cells
      have HX2 := Lib.hid hx.out
      clear hrr hrz hx HBQ HZ
      obtain ⟨L, q, tl⟩ := t
      dsimp only at *
      by_cases a1 : q < 1
      · rw [decide_eq_true a1, Bool.true_or, Bool.true_or, Bool.true_or, if_pos rfl] at hz
        have HZ1 := Lib.hid hz
        clear hz
        go_wp2
        go_ret
        exact ⟨ret_iA HZ1.out.symm, HX2.out.bel⟩
      by_cases a2 : 12 < q
      · rw [decide_eq_true a2, Bool.or_true, Bool.true_or, Bool.true_or, if_pos rfl] at hz
        have HZ1 := Lib.hid hz
        clear hz
        go_wp2
        go_ret
        exact ⟨ret_iA HZ1.out.symm, HX2.out.bel⟩
      by_cases a3 : tl < -1
      · rw [decide_eq_true a3, Bool.or_true, Bool.true_or, if_pos rfl] at hz
        have HZ1 := Lib.hid hz
        clear hz
        go_wp2
        go_ret
        exact ⟨ret_iA HZ1.out.symm, HX2.out.bel⟩
      by_cases a4 : (b : Int) ≤ tl
      · rw [decide_eq_true a4, Bool.or_true, if_pos rfl] at hz
        have HZ1 := Lib.hid hz
        clear hz
        go_wp2
        go_ret
        exact ⟨ret_iA HZ1.out.symm, HX2.out.bel⟩
      rw [decide_eq_false a1, decide_eq_false a2, decide_eq_false a3, decide_eq_false a4, Bool.or_false, Bool.or_false, Bool.or_false, if_neg (by decide)] at hz
      have kst := fun W => KST.out W (by omega)
      obtain ⟨SS, hSS⟩ : ∃ x, x = statesS q b := ⟨_, rfl⟩
      rw [← hSS] at hz kst
      have KST2 := Lib.hid kst
      clear kst KST hSS
      by_cases a5 : 200000 < SS
      · rw [if_pos a5] at hz
        have HZ1 := Lib.hid hz
        clear hz
        go_wp2_with (go_at_call 63; refine (KST2.out _).mono ?_; rintro e w5 ⟨rfl, hb⟩; obtain rfl := hb)
        go_ret
        exact ⟨ret_iA HZ1.out.symm, HX2.out.bel⟩
      · rw [if_neg a5] at hz
        have HZ1 := Lib.hid hz
        clear hz
        go_wp2_with (go_at_call 63; refine (KST2.out _).mono ?_; rintro e w5 ⟨rfl, hb⟩; obtain rfl := hb)
        go_ret
        exact ⟨ret_iA HZ1.out.symm, HX2.out.bel⟩
end Go.Proofs.YtjchapoggmipbaaGreatDoor

namespace Go.Proofs.YtjchapoggmipbaaGreatDoor
open Go.RowKit

def dtV (t : Dct) (ov wv : Value) : Value := .agg #[.int .i64 t.ovs, .int .i64 t.lead, .int .i64 t.step, ov, wv]
/-- What a task reads. -/
structure DtAt (w : World) (F : Nat → Prop) (ov wv : Value) (t : Dct) : Prop where
  over : Sl 3 elOtc w F ov t.over
  win : Sl 1 elRw w F wv t.win
theorem DtAt.keep {w w' : World} {F G : Nat → Prop} {ov wv : Value} {t : Dct} (h : DtAt w F ov wv t) (hs : Same F w w') (hG : ∀ b, F b → G b) : DtAt w' G ov wv t := ⟨h.over.keep elOtc_good hs hG, h.win.keep elRw_good hs hG⟩
theorem DtAt.low {w w' : World} {ov wv : Value} {t : Dct} (h : DtAt w (· < w.heap.size) ov wv t) (hb : Below w.heap.size w w') : DtAt w' (· < w'.heap.size) ov wv t := h.keep (Same.of_below hb) fun _ h => Nat.lt_of_lt_of_le h hb.size
/-- The task's box. -/
structure DX (w W : World) (ov wv : Value) (t : Dct) : Prop where
  bel : Below w.heap.size w W
  bx : Blk W w.heap.size 34 #[.int .i64 t.ovs, .int .i64 t.lead, .int .i64 t.step, ov, wv]
theorem DX.new (w : World) (ov wv : Value) (t : Dct) : DX w (w.alloc (.cells #[.int .i64 t.ovs, .int .i64 t.lead, .int .i64 t.step, ov, wv] 34)) ov wv t := ⟨low_allocA w _, Blk.new w _ _⟩
theorem DX.step {w W W' : World} {ov wv : Value} {t : Dct} (h : DX w W ov wv t) (hb : Below W.heap.size W W') : DX w W' ov wv t := ⟨h.bel.trans (hb.mono h.bel.size), h.bx.below hb h.bx.lt⟩
theorem DX.cells {w W : World} {ov wv : Value} {t : Dct} (h : DX w W ov wv t) : W.cell? ⟨w.heap.size, 0, none⟩ = some (.int .i64 t.ovs) ∧ W.cell? ⟨w.heap.size, 1, none⟩ = some (.int .i64 t.lead) ∧ W.cell? ⟨w.heap.size, 2, none⟩ = some (.int .i64 t.step) ∧ W.cell? ⟨w.heap.size, 3, none⟩ = some ov ∧ W.cell? ⟨w.heap.size, 4, none⟩ = some wv := ⟨h.bx.cell 0, h.bx.cell 1, h.bx.cell 2, h.bx.cell 3, h.bx.cell 4⟩
theorem DX.at {w W : World} {ov wv : Value} {t : Dct} (h : DX w W ov wv t) (hd : DtAt w (· < w.heap.size) ov wv t) : DtAt W (· < W.heap.size) ov wv t := hd.low h.bel
theorem rowsE'_at {L : List (List Int)} {k : Nat} (h : k < L.length) : rowsE' (L.drop k) = if rowE' (L.getD k []) ≠ 0 then rowE' (L.getD k []) else rowsE' (L.drop (k + 1)) := by
  rw [List.drop_eq_getElem_cons h, rowsE']
  simp [List.getD_eq_getElem?_getD, h]
theorem winE'_at {l : List Int} {n k : Nat} (h : k < n) : winE' l (n - k) k = if l.getD k 0 < 0 ∨ 16 < l.getD k 0 then 2 else if 0 < k ∧ l.getD k 0 < l.getD (k - 1) 0 then 8 else winE' l (n - (k + 1)) (k + 1) := by
  rw [show n - k = (n - (k + 1)) + 1 by omega, winE']
set_option maxRecDepth 100000 in
set_option maxHeartbeats 4000000 in
theorem dec_Check (t : Dct) (ov wv : Value) (w : World) (h : DtAt w (· < w.heap.size) ov wv t) :
    Calls Tryz.prog 14 #[dtV t ov wv] w fun e w' => e = .returned (.int .i64 (checkT t)) ∧ Below w.heap.size w w' := by
  obtain ⟨A, c, rfl, hc, hc2⟩ := h.over.shape
  obtain ⟨A2, c2, rfl, hc3, hc4⟩ := h.win.shape
  obtain ⟨Z, hZ⟩ : ∃ z, z = checkT t := ⟨_, rfl⟩
  rw [← hZ]
  have HX := Lib.hid (DX.new w (.slice A t.over.length c) (.slice A2 t.win.length c2) t)
  have kc := fun W (hx : DX w W (.slice A t.over.length c) (.slice A2 t.win.length c2) t) => ch_Check t.over (.slice A t.over.length c) W (hx.at h).over
  obtain ⟨RC, hRC⟩ : ∃ r, r = checkD t.over := ⟨_, rfl⟩
  rw [← hRC] at kc
  have KC := Lib.hid kc
  have HW := Lib.hid h.win
  unfold dtV
  unfold checkT at hZ
  rw [← hRC] at hZ
  clear kc h hRC
  by_cases a1 : t.ovs < 0
  · have HZ := Lib.hid (show Z = 2 by rw [hZ, if_pos (by simp [badT, a1])])
    clear hZ
    obtain ⟨o, l, s, d, m⟩ := t
    dsimp only at *
    go_enter Tryz.func14, Tryz.ntmps14
    go_wp2
    go_ret
    exact ⟨ret_iA HZ.out.symm, HX.out.bel⟩
  by_cases a2 : 12 ≤ t.ovs
  · have HZ := Lib.hid (show Z = 2 by rw [hZ, if_pos (by simp [badT, a2])])
    clear hZ
    obtain ⟨o, l, s, d, m⟩ := t
    dsimp only at *
    go_enter Tryz.func14, Tryz.ntmps14
    go_wp2
    go_ret
    exact ⟨ret_iA HZ.out.symm, HX.out.bel⟩
  by_cases a3 : t.lead < -600
  · have HZ := Lib.hid (show Z = 2 by rw [hZ, if_pos (by simp [badT, a3])])
    clear hZ
    obtain ⟨o, l, s, d, m⟩ := t
    dsimp only at *
    go_enter Tryz.func14, Tryz.ntmps14
    go_wp2
    go_ret
    exact ⟨ret_iA HZ.out.symm, HX.out.bel⟩
  by_cases a4 : 600 < t.lead
  · have HZ := Lib.hid (show Z = 2 by rw [hZ, if_pos (by simp [badT, a4])])
    clear hZ
    obtain ⟨o, l, s, d, m⟩ := t
    dsimp only at *
    go_enter Tryz.func14, Tryz.ntmps14
    go_wp2
    go_ret
    exact ⟨ret_iA HZ.out.symm, HX.out.bel⟩
  by_cases a5 : t.step < 1
  · have HZ := Lib.hid (show Z = 2 by rw [hZ, if_pos (by simp [badT, a5])])
    clear hZ
    obtain ⟨o, l, s, d, m⟩ := t
    dsimp only at *
    go_enter Tryz.func14, Tryz.ntmps14
    go_wp2
    go_ret
    exact ⟨ret_iA HZ.out.symm, HX.out.bel⟩
  by_cases a6 : 600 < t.step
  · have HZ := Lib.hid (show Z = 2 by rw [hZ, if_pos (by simp [badT, a6])])
    clear hZ
    obtain ⟨o, l, s, d, m⟩ := t
    dsimp only at *
    go_enter Tryz.func14, Tryz.ntmps14
    go_wp2
    go_ret
    exact ⟨ret_iA HZ.out.symm, HX.out.bel⟩
  rw [if_neg (by simp only [badT, Bool.or_eq_true, decide_eq_true_eq]; omega)] at hZ
  obtain ⟨o, ld, s, d, m⟩ := t
  dsimp only at *
  by_cases b1 : RC = 0
  case neg =>
    rw [if_pos b1] at hZ
    have HZ := Lib.hid hZ
    have g1 := bneT b1
    clear hZ b1
    go_enter Tryz.func14, Tryz.ntmps14
    go_wp2_with (go_at_call 39; refine (KC.out _ HX.out).mono ?_; rintro e w1 ⟨rfl, hb⟩; have HX1 := Lib.hid (HX.out.step hb); clear hb)
    go_ret
    exact ⟨ret_iA HZ.out.symm, HX1.out.bel⟩
  subst b1
  rw [if_neg (by decide)] at hZ
  have f0 : IntKind.i64.wrap (o + 1) = o + 1 := IntWalk.i64_in _ (by omega)
  by_cases b2 : (m.length : Int) = o + 1
  case neg =>
    rw [if_pos b2] at hZ
    have HZ := Lib.hid hZ
    have g1 := bneT b2
    clear hZ b2
    go_enter Tryz.func14, Tryz.ntmps14
    go_wp2_with (go_at_call 39; refine (KC.out _ HX.out).mono ?_; rintro e w1 ⟨rfl, hb⟩; have hx1 := HX.out.step hb; obtain ⟨y0, y1, y2, y3, y4⟩ := hx1.cells; have HX1 := Lib.hid hx1; clear hb hx1)
    go_ret
    exact ⟨ret_iA HZ.out.symm, HX1.out.bel⟩
  rw [if_neg (by omega)] at hZ
  have g1 := bneF b2
  have HR0 := Lib.hid (show Z = rowsE' (m.drop 0) by rw [List.drop_zero]; exact hZ)
  have hm13 : m.length ≤ 13 := by omega
  clear hZ b2
  go_enter Tryz.func14, Tryz.ntmps14
  go_wp2_with (go_at_call 39; refine (KC.out _ HX.out).mono ?_; rintro e w1 ⟨rfl, hb⟩; have hx1 := HX.out.step hb; obtain ⟨y0, y1, y2, y3, y4⟩ := hx1.cells; have HX1 := Lib.hid hx1; clear hb hx1)
  go_loopw [52] (fun i wr => ∃ k : Nat, k ≤ m.length ∧ i = .int .i64 k ∧ Hid (Z = rowsE' (m.drop k)) ∧ Hid (Below w.heap.size w wr)) (fun i _ => m.length - (intOf i).toNat)
  case atStart => exact ⟨0, Nat.zero_le _, rfl, HR0, Lib.hid HX1.out.bel⟩
  case round =>
    clear HR0 HX1 y0 y1 y2 y3 y4
    obtain ⟨k, hk, rfl, hrz, hb⟩ := hrel
    by_cases hlt : k < m.length
    · obtain ⟨b8, o8, B8, cb8, rfl, hF8, t8, hsl8⟩ := rw_at HW.out hlt
      have x8 := (hb.out.cell (p := ⟨b8, o8 + k, none⟩) hF8).trans t8
      have hr := rowsE'_at hlt
      rw [← hrz.out] at hr
      have gk : (k : Int) < (m.length : Int) := by omega
      obtain ⟨l, hl⟩ : ∃ l, l = m.getD k [] := ⟨_, rfl⟩
      rw [← hl] at hr x8 hsl8
      have HS8 := Lib.hid hsl8
      clear t8 hl hsl8 hrz
      by_cases c1 : l.length = 0
      · have e1 : rowE' l = 6 := by rw [rowE', if_pos c1]
        rw [e1, if_pos (by decide)] at hr
        have HZ1 := Lib.hid hr
        have g6 : ((l.length : Int) == 0) = true := by rw [c1]; rfl
        clear hr e1 c1
        go_wp2
        go_ret
        exact ⟨ret_iA HZ1.out.symm, hb.out⟩
      have g6 : ((l.length : Int) == 0) = false := beqF (by omega)
      by_cases c3 : 100 < l.length
      · have e1 : rowE' l = 9 := by rw [rowE', if_neg c1, if_pos c3]
        rw [e1, if_pos (by decide)] at hr
        have HZ1 := Lib.hid hr
        have g7 : (100 : Int) < (l.length : Int) := by omega
        clear hr e1 c1
        go_wp2
        go_ret
        exact ⟨ret_iA HZ1.out.symm, hb.out⟩
      have g7 : ¬ (100 : Int) < (l.length : Int) := by omega
      have e1 : rowE' l = winE' l (l.length - 0) 0 := by rw [rowE', if_neg c1, if_neg c3]; rfl
      rw [e1] at hr
      have HR2 := Lib.hid hr
      have hl100 : l.length ≤ 100 := by omega
      have HB2 := Lib.hid hb.out
      clear hr e1 c1 c3 hb
      obtain ⟨wo, rfl⟩ : ∃ wo : World, wo = wr := ⟨_, rfl⟩
      go_wp2
      go_loopw [66] (fun i wr => ∃ j : Nat, j ≤ l.length ∧ i = .int .i64 j ∧ Hid (Z = if winE' l (l.length - j) j ≠ 0 then winE' l (l.length - j) j else rowsE' (m.drop (k + 1))) ∧ Hid (Below w.heap.size w wr)) (fun i _ => l.length - (intOf i).toNat)
      case atStart => exact ⟨0, Nat.zero_le _, rfl, HR2, HB2⟩
      case round =>
        clear HR2 x8 HB2
        obtain ⟨j, hj, rfl, hrj, hbj⟩ := hrel
        by_cases hlj : j < l.length
        · obtain ⟨b7, o7, rfl, hF7, t7⟩ := num_at HS8.out hlj
          have x7 := (hbj.out.cell (p := ⟨b7, o7 + j, none⟩) hF7).trans t7
          have hw := winE'_at (l := l) hlj
          have hrr := hrj.out
          obtain ⟨x, hx⟩ : ∃ x, x = l.getD j 0 := ⟨_, rfl⟩
          rw [← hx] at hw x7
          have gj : (j : Int) < (l.length : Int) := by omega
          clear t7 hx hrj
          by_cases p1 : x < 0
          · rw [if_pos (.inl p1)] at hw
            rw [hw, if_pos (by decide)] at hrr
            have HZ1 := Lib.hid hrr
            clear hrr hw
            go_wp2
            go_ret
            exact ⟨ret_iA HZ1.out.symm, hbj.out⟩
          by_cases p2 : 16 < x
          · rw [if_pos (.inr p2)] at hw
            rw [hw, if_pos (by decide)] at hrr
            have HZ1 := Lib.hid hrr
            clear hrr hw
            go_wp2
            go_ret
            exact ⟨ret_iA HZ1.out.symm, hbj.out⟩
          rw [if_neg (by omega)] at hw
          by_cases p3 : 0 < j
          case neg =>
            rw [if_neg (by omega)] at hw
            rw [hw] at hrr
            have HRR := Lib.hid hrr
            clear hrr hw
            have g8 : ¬ (0 : Int) < (j : Int) := by omega
            go_wp2
            go_roundw
            case rel => exact ⟨j + 1, by omega, by go_num, HRR, hbj⟩
            case measure => simp [intOf]; omega
          obtain ⟨b7', o7', hA, hF7', t7'⟩ := num_at HS8.out (k := j - 1) (by omega)
          simp only [Option.some.injEq, Addr.mk.injEq, and_true] at hA
          obtain ⟨rfl, rfl⟩ := hA
          have x6 := (hbj.out.cell (p := ⟨b7, o7 + (j - 1), none⟩) hF7).trans t7'
          obtain ⟨y, hy⟩ : ∃ y, y = l.getD (j - 1) 0 := ⟨_, rfl⟩
          rw [← hy] at hw x6
          have g8 : (0 : Int) < (j : Int) := by omega
          obtain ⟨j1, hj1⟩ : ∃ j1 : Nat, j1 = j - 1 := ⟨_, rfl⟩
          rw [← hj1] at x6
          have e9 : (j : Int) - 1 = (j1 : Int) := by omega
          have g9 : IntKind.i64.wrap ((j : Int) - 1) = (j1 : Int) := by rw [e9]; exact IntWalk.i64_in _ (by omega)
          have g10 : (j1 : Int) < (l.length : Int) := by omega
          clear hy t7' e9
          by_cases p4 : x < y
          · rw [if_pos ⟨p3, p4⟩] at hw
            rw [hw, if_pos (by decide)] at hrr
            have HZ1 := Lib.hid hrr
            clear hrr hw hj1
            go_wp2
            go_ret
            exact ⟨ret_iA HZ1.out.symm, hbj.out⟩
          rw [if_neg (by omega)] at hw
          rw [hw] at hrr
          have HRR := Lib.hid hrr
          clear hrr hw hj1
          go_wp2
          go_roundw
          case rel => exact ⟨j + 1, by omega, by go_num, HRR, hbj⟩
          case measure => simp [intOf]; omega
        · obtain rfl : j = l.length := by omega
          have hrr := hrj.out
          rw [Nat.sub_self, winE', if_neg (by decide)] at hrr
          have HRR := Lib.hid hrr
          clear hrr hrj
          go_wp2
          go_roundw
          case rel => exact ⟨k + 1, by omega, by go_num, HRR, hbj⟩
          case measure => simp [intOf]; omega
    · obtain rfl : k = m.length := by omega
      have hrr := hrz.out
      rw [List.drop_length, rowsE'] at hrr
      have HRR := Lib.hid hrr
      clear hrr hrz
      go_wp2
      go_ret
      exact ⟨ret_iA HRR.out.symm, hb.out⟩
end Go.Proofs.YtjchapoggmipbaaGreatDoor

namespace Go.Proofs.YtjchapoggmipbaaGreatDoor
open Go.RowKit

theorem pow4 (m : Nat) : (2 : Int) ^ (4 * m) = 16 ^ m := by rw [Int.pow_mul]; rfl
theorem pw16_le {m : Nat} (h : m ≤ 11) : (16 : Int) ^ m ≤ 17592186044416 := by
  have h2 : (16 : Nat) ^ m ≤ 16 ^ 11 := Nat.pow_le_pow_right (by omega) h
  have h3 : (16 : Nat) ^ 11 = 17592186044416 := by decide
  rw [h3] at h2
  have e : (16 : Int) ^ m = ((16 ^ m : Nat) : Int) := by rw [Int.natCast_pow]; rfl
  rw [e]
  generalize (16 : Nat) ^ m = p at h2
  omega
set_option maxRecDepth 100000 in
set_option maxHeartbeats 2000000 in
theorem dec_now (t : Dct) (ov wv : Value) (lead : Int) (m : Nat) (w : World) (ht : OkT47 t) (hm : (m : Int) ≤ t.ovs) (hl : -1000000 ≤ lead ∧ lead ≤ 1000000) (h : DtAt w (· < w.heap.size) ov wv t) :
    Calls Tryz.prog 66 #[dtV t ov wv, .int .i64 lead, .int .i64 (m : Int)] w fun e w' => e = .returned (.int .i64 (nowD t m lead)) ∧ Below w.heap.size w w' := by
  obtain ⟨A, c, rfl, hc, hc2⟩ := h.over.shape
  obtain ⟨A2, c2, rfl, hc3, hc4⟩ := h.win.shape
  have HX := Lib.hid (DX.new w (.slice A t.over.length c) (.slice A2 t.win.length c2) t)
  obtain ⟨Z, hZ⟩ : ∃ z, z = nowD t m lead := ⟨_, rfl⟩
  have hbd := nowD_bd ht hm lead
  rw [← hZ] at hbd ⊢
  unfold nowD at hZ
  by_cases hn : lead < 0
  · rw [if_pos hn] at hZ
    have HZ := Lib.hid hZ
    unfold dtV
    clear hZ hbd h ht
    obtain ⟨o, ld, s, d, mm⟩ := t
    dsimp only at *
    go_enter Tryz.func66, Tryz.ntmps66
    go_wp2
    go_ret
    exact ⟨ret_iA HZ.out.symm, HX.out.bel⟩
  rw [if_neg hn] at hZ
  obtain ⟨p1, p2⟩ := ht.place hm (lead := lead) (by omega)
  have hwl : m < t.win.length := by have := ht.wn; omega
  obtain ⟨b8, o8, B8, cb8, rfl, hF8, t8, hsl8⟩ := rw_at h.win hwl
  have x8 := (HX.out.bel.cell (p := ⟨b8, o8 + m, none⟩) hF8).trans t8
  have hrb := ht.rowB hm
  obtain ⟨l, hl'⟩ : ∃ l, l = rowD t m := ⟨_, rfl⟩
  have hle : t.win.getD m [] = l := hl'.symm
  rw [hle] at x8 hsl8
  rw [← hl'] at hZ p1 p2 hrb
  obtain ⟨k, hk⟩ : ∃ k : Nat, min (lead / t.step) ((l.length : Int) - 1) = (k : Int) := ⟨(min (lead / t.step) ((l.length : Int) - 1)).toNat, by omega⟩
  rw [hk, Int.toNat_natCast] at hZ p2
  obtain ⟨b7, o7, rfl, hF7, t7⟩ := num_at hsl8 p2
  have x7 := (HX.out.bel.cell (p := ⟨b7, o7 + k, none⟩) hF7).trans t7
  have hx16 := hrb.2.2 (l.getD k 0) (by rw [List.getD_eq_getElem?_getD, List.getElem?_eq_getElem p2]; exact List.getElem_mem p2)
  obtain ⟨x, hx⟩ : ∃ x, x = l.getD k 0 := ⟨_, rfl⟩
  rw [← hx] at x7 hZ hx16
  have s0 := ht.s0
  have s1 := ht.s1
  have o1 := ht.o1
  have hlen100 := hrb.2.1
  have hlen1 := hrb.1
  have e1 : Int.tdiv lead t.step = lead / t.step := Int.tdiv_eq_ediv_of_nonneg (by omega)
  obtain ⟨q, hq⟩ : ∃ q, q = lead / t.step := ⟨_, rfl⟩
  rw [← hq] at e1 hk
  have q0 : 0 ≤ q ∧ q ≤ 1000000 := by
    have h1 := Int.ediv_nonneg (show 0 ≤ lead by omega) (show 0 ≤ t.step by omega)
    have h2 : lead / t.step ≤ lead := Int.ediv_le_self _ (by omega)
    omega
  have f0 : IntKind.i64.wrap q = q := IntWalk.i64_in _ (by omega)
  have f2 : IntKind.i64.wrap (4 * (m : Int)) = 4 * (m : Int) := IntWalk.i64_in _ (by omega)
  have s2 : ¬ t.step = 0 := by omega
  have gm : (m : Int) < (t.win.length : Int) := by omega
  have HZ := Lib.hid hZ
  have HBD := Lib.hid hbd
  have gm11 : (m : Int) ≤ 11 := by omega
  have f9 : IntKind.i64.wrap (x * 2 ^ (4 * (m : Int)).toNat) = Z := by
    rw [show (4 * (m : Int)).toNat = 4 * m by omega, pow4, ← hZ]
    have h2 := pw16_le (m := m) (by omega)
    obtain ⟨pp, hpp⟩ : ∃ p : Int, p = 16 ^ m := ⟨_, rfl⟩
    rw [← hpp] at h2 hbd
    exact IntWalk.i64_in _ (by omega)
  obtain ⟨n, hn'⟩ : ∃ n, n = l.length := ⟨_, rfl⟩
  rw [← hn'] at x8 hk p2 hlen100 hlen1
  unfold dtV
  clear hZ hbd h ht t8 t7 hsl8 hrb hl' hle hx hq p1 hwl hm hn'
  obtain ⟨o, ld, s, d, mm⟩ := t
  dsimp only at *
  by_cases hmn : q ≤ (n : Int) - 1
  · obtain rfl : q = (k : Int) := by omega
    have f1 : IntKind.i64.wrap ((n : Int) - 1) = (n : Int) - 1 := IntWalk.i64_in _ (by omega)
    have gk : (k : Int) < (n : Int) := by omega
    have fm1 : min (k : Int) ((n : Int) - 1) = (k : Int) := by omega
    clear hk
    go_enter Tryz.func66, Tryz.ntmps66
    go_wp2
    go_ret
    exact ⟨rfl, HX.out.bel⟩
  · obtain rfl : n = k + 1 := by omega
    have f1 : IntKind.i64.wrap (((k + 1 : Nat) : Int) - 1) = (k : Int) := by rw [show ((k + 1 : Nat) : Int) - 1 = (k : Int) by omega]; exact IntWalk.i64_in _ (by omega)
    have gk : (k : Int) < ((k + 1 : Nat) : Int) := by omega
    have fm1 : min q (((k + 1 : Nat) : Int) - 1) = (k : Int) := by omega
    have fm2 : min q (k : Int) = (k : Int) := by omega
    have hmn2 : ¬ q ≤ (k : Int) := by omega
    clear hk
    go_enter Tryz.func66, Tryz.ntmps66
    go_wp2
    go_ret
    exact ⟨rfl, HX.out.bel⟩
def checkL (t : Dct) (lead m : Int) : Int := if checkT t ≠ 0 then checkT t else if m < 0 ∨ t.ovs < m ∨ lead < -1200 ∨ 1200 < lead then 2 else 0
set_option maxRecDepth 100000 in
set_option maxHeartbeats 2000000 in
theorem dec_check (t : Dct) (ov wv : Value) (lead m : Int) (w : World) (h : DtAt w (· < w.heap.size) ov wv t) :
    Calls Tryz.prog 42 #[dtV t ov wv, .int .i64 lead, .int .i64 m] w fun e w' => e = .returned (.int .i64 (checkL t lead m)) ∧ Below w.heap.size w w' := by
  obtain ⟨A, c, rfl, hc, hc2⟩ := h.over.shape
  obtain ⟨A2, c2, rfl, hc3, hc4⟩ := h.win.shape
  have HX := Lib.hid (DX.new w (.slice A t.over.length c) (.slice A2 t.win.length c2) t)
  have kc := fun W (hx : DX w W (.slice A t.over.length c) (.slice A2 t.win.length c2) t) => dec_Check t _ _ W (hx.at h)
  unfold dtV at kc ⊢
  obtain ⟨Z, hZ⟩ : ∃ z, z = checkL t lead m := ⟨_, rfl⟩
  rw [← hZ]
  unfold checkL at hZ
  obtain ⟨C, hC⟩ : ∃ C, C = checkT t := ⟨_, rfl⟩
  rw [← hC] at kc hZ
  have KC := Lib.hid kc
  clear kc hC h
  obtain ⟨o, ld, s, d, mm⟩ := t
  dsimp only at *
  by_cases b1 : C = 0
  case neg =>
    rw [if_pos b1] at hZ
    have HZ := Lib.hid hZ
    have g1 := bneT b1
    clear hZ b1
    go_enter Tryz.func42, Tryz.ntmps42
    go_wp2_with (go_at_call 14; refine (KC.out _ HX.out).mono ?_; rintro e w1 ⟨rfl, hb⟩; have HX1 := Lib.hid (HX.out.step hb); obtain ⟨y0, y1, y2, y3, y4⟩ := HX1.out.cells; clear hb)
    go_ret
    exact ⟨ret_iA HZ.out.symm, HX1.out.bel⟩
  subst b1
  rw [if_neg (by decide)] at hZ
  by_cases a1 : m < 0
  · rw [if_pos (.inl a1)] at hZ
    have HZ := Lib.hid hZ
    clear hZ
    go_enter Tryz.func42, Tryz.ntmps42
    go_wp2_with (go_at_call 14; refine (KC.out _ HX.out).mono ?_; rintro e w1 ⟨rfl, hb⟩; have HX1 := Lib.hid (HX.out.step hb); obtain ⟨y0, y1, y2, y3, y4⟩ := HX1.out.cells; clear hb)
    go_ret
    exact ⟨ret_iA HZ.out.symm, HX1.out.bel⟩
  by_cases a2 : o < m
  · rw [if_pos (.inr (.inl a2))] at hZ
    have HZ := Lib.hid hZ
    clear hZ
    go_enter Tryz.func42, Tryz.ntmps42
    go_wp2_with (go_at_call 14; refine (KC.out _ HX.out).mono ?_; rintro e w1 ⟨rfl, hb⟩; have HX1 := Lib.hid (HX.out.step hb); obtain ⟨y0, y1, y2, y3, y4⟩ := HX1.out.cells; clear hb)
    go_ret
    exact ⟨ret_iA HZ.out.symm, HX1.out.bel⟩
  by_cases a3 : lead < -1200
  · rw [if_pos (.inr (.inr (.inl a3)))] at hZ
    have HZ := Lib.hid hZ
    clear hZ
    go_enter Tryz.func42, Tryz.ntmps42
    go_wp2_with (go_at_call 14; refine (KC.out _ HX.out).mono ?_; rintro e w1 ⟨rfl, hb⟩; have HX1 := Lib.hid (HX.out.step hb); obtain ⟨y0, y1, y2, y3, y4⟩ := HX1.out.cells; clear hb)
    go_ret
    exact ⟨ret_iA HZ.out.symm, HX1.out.bel⟩
  by_cases a4 : 1200 < lead
  · rw [if_pos (.inr (.inr (.inr a4)))] at hZ
    have HZ := Lib.hid hZ
    clear hZ
    go_enter Tryz.func42, Tryz.ntmps42
    go_wp2_with (go_at_call 14; refine (KC.out _ HX.out).mono ?_; rintro e w1 ⟨rfl, hb⟩; have HX1 := Lib.hid (HX.out.step hb); obtain ⟨y0, y1, y2, y3, y4⟩ := HX1.out.cells; clear hb)
    go_ret
    exact ⟨ret_iA HZ.out.symm, HX1.out.bel⟩
  rw [if_neg (by omega)] at hZ
  have HZ := Lib.hid hZ
  clear hZ
  go_enter Tryz.func42, Tryz.ntmps42
  go_wp2_with (go_at_call 14; refine (KC.out _ HX.out).mono ?_; rintro e w1 ⟨rfl, hb⟩; have HX1 := Lib.hid (HX.out.step hb); obtain ⟨y0, y1, y2, y3, y4⟩ := HX1.out.cells; clear hb)
  go_ret
  exact ⟨ret_iA HZ.out.symm, HX1.out.bel⟩
theorem checkL_ok {t : Dct} {lead : Int} {m : Nat} (h : checkT t = 0) (hm : (m : Int) ≤ t.ovs) (hl : -1200 ≤ lead ∧ lead ≤ 1200) : checkL t lead (m : Int) = 0 := by
  rw [checkL, if_neg (by rw [h]; decide), if_neg (by omega)]
set_option maxRecDepth 100000 in
set_option maxHeartbeats 2000000 in
theorem dec_Now (t : Dct) (ov wv : Value) (lead : Int) (m : Nat) (w : World) (hk : checkT t = 0) (hm : (m : Int) ≤ t.ovs) (hl : -1200 ≤ lead ∧ lead ≤ 1200) (h : DtAt w (· < w.heap.size) ov wv t) :
    Calls Tryz.prog 41 #[dtV t ov wv, .int .i64 lead, .int .i64 (m : Int)] w fun e w' => e = .returned (.tuple #[.int .i64 (nowD t m lead), .int .i64 0]) ∧ Below w.heap.size w w' := by
  obtain ⟨A, c, rfl, hc, hc2⟩ := h.over.shape
  obtain ⟨A2, c2, rfl, hc3, hc4⟩ := h.win.shape
  have HX := Lib.hid (DX.new w (.slice A t.over.length c) (.slice A2 t.win.length c2) t)
  have kc := fun W (hx : DX w W (.slice A t.over.length c) (.slice A2 t.win.length c2) t) => dec_check t _ _ lead (m : Int) W (hx.at h)
  rw [checkL_ok hk hm hl] at kc
  have kn := fun W (hx : DX w W (.slice A t.over.length c) (.slice A2 t.win.length c2) t) => dec_now t _ _ lead m W (checkT_ok hk) hm (by omega) (hx.at h)
  unfold dtV at kc kn ⊢
  obtain ⟨Z, hZ⟩ : ∃ z, z = nowD t m lead := ⟨_, rfl⟩
  rw [← hZ] at kn ⊢
  have KC := Lib.hid kc
  have KN := Lib.hid kn
  clear kc kn hZ h hk hm
  obtain ⟨o, ld, s, d, mm⟩ := t
  dsimp only at *
  go_enter Tryz.func41, Tryz.ntmps41
  go_wp2_with (first
    | (go_at_call 42; refine (KC.out _ HX.out).mono ?_; rintro e w1 ⟨rfl, hb⟩; have HX1 := Lib.hid (HX.out.step hb); obtain ⟨y0, y1, y2, y3, y4⟩ := HX1.out.cells; clear hb)
    | (go_at_call 66; refine (KN.out _ HX1.out).mono ?_; rintro e w2 ⟨rfl, hb⟩; have HX2 := Lib.hid (HX1.out.step hb); clear hb))
  go_ret2
  exact ⟨rfl, HX2.out.bel⟩
end Go.Proofs.YtjchapoggmipbaaGreatDoor

namespace Go.Proofs.YtjchapoggmipbaaGreatDoor
open Go.RowKit

theorem drop_at {l : List Int} {k : Nat} (h : k < l.length) : l.drop k = l.getD k 0 :: l.drop (k + 1) := by
  rw [List.drop_eq_getElem_cons h]
  simp [List.getD_eq_getElem?_getD, h]
theorem idxF_drop {q : Int} {l : List Int} {k : Nat} (h : k < l.length) : idxF q (l.drop k) = idxF q (l.drop (k + 1)) * (q + 1) + l.getD k 0 := by
  rw [drop_at h, idxF]
theorem idxF_le {q : Int} (hq : 0 ≤ q) {l : List Int} (hb : ∀ x ∈ l, 0 ≤ x ∧ x ≤ q) : ∀ k, 0 ≤ idxF q (l.drop k) ∧ idxF q (l.drop k) ≤ idxF q l := by
  intro k
  induction k with
  | zero => exact ⟨(idx_bd hq hb).1, by simp⟩
  | succ k ih =>
    have hd : ∀ x ∈ l.drop (k + 1), 0 ≤ x ∧ x ≤ q := fun x hx => hb x (List.mem_of_mem_drop hx)
    refine ⟨(idx_bd hq hd).1, Int.le_trans ?_ ih.2⟩
    rcases Nat.lt_or_ge k l.length with h | h
    · rw [idxF_drop h]
      have h1 := (idx_bd hq hd).1
      have h2 := Int.mul_nonneg h1 hq
      have h3 : 0 ≤ l.getD k 0 := by
        have := hb l[k] (List.getElem_mem h)
        rw [show l.getD k 0 = l[k] by simp [List.getD_eq_getElem?_getD, h]]
        exact this.1
      rw [Int.mul_add, Int.mul_one]
      omega
    · rw [List.drop_eq_nil_of_le (by omega), List.drop_eq_nil_of_le h]
      exact Int.le_refl _
theorem pw_le {t : Att} (h : OkT46 t) : 1 ≤ pwQ t.quota (nbA t) ∧ pwQ t.quota (nbA t) ≤ 200000 := by
  have h1 := pwQ_pos (show 0 ≤ t.quota by have := h.q1; omega) (nbA t)
  have h2 := h.cnt
  unfold cntA at h2
  have h3 : pwQ t.quota (nbA t) * 1 ≤ ((nbA t : Int) + 1) * pwQ t.quota (nbA t) := by
    rw [Int.mul_comm ((nbA t : Int) + 1)]
    exact Int.mul_le_mul_of_nonneg_left (by omega) (by omega)
  omega
theorem idxF_bd {t : Att} (h : OkT46 t) {s : Ast} (ho : OkA t s) (k : Nat) : 0 ≤ idxF t.quota (s.bow.drop k) ∧ idxF t.quota (s.bow.drop k) ≤ 200000 := by
  have hq : 0 ≤ t.quota := by have := h.q1; omega
  have h1 := idxF_le hq ho.bd k
  have h2 := (idx_bd hq ho.bd).2
  rw [ho.len] at h2
  have h3 := pw_le h
  omega
set_option maxRecDepth 100000 in
set_option maxHeartbeats 2000000 in
theorem att_index (t : Att) (cv : Value) (s : Ast) (sv : Value) (w : World) (ht : OkT46 t) (h : Sl 1 elInt w (· < w.heap.size) sv s.bow) (ho : OkA t s) :
    Calls Tryz.prog 33 #[atV cv t, asV sv s] w fun e w' => e = .returned (.int .i64 (idxS t s)) ∧ Below w.heap.size w w' := by
  obtain ⟨A, c, rfl, hc, hc2⟩ := h.shape
  have HM := Lib.hid (MB.as w (.slice A s.bow.length c) s cv t)
  have hbd := fun k => idxF_bd ht ho k
  have hB := (OkA.bow ht ho).at
  have hn := (OkA.bow ht ho).n
  have q1 := ht.q1
  have q2 := ht.q2
  have l1 := ho.lo
  have l2 : s.last ≤ 6 := by have := ho.hi; have := ht.b2; omega
  obtain ⟨l, last⟩ := s
  obtain ⟨L, q, tl⟩ := t
  unfold asV atV idxS
  dsimp only at *
  obtain ⟨Z, hZ⟩ : ∃ z, z = idxF q l := ⟨_, rfl⟩
  rw [← hZ]
  have hz1 := hbd 0
  rw [List.drop_zero, ← hZ] at hz1
  have HZ := Lib.hid (show Z = idxF q (l.drop 0) by rw [List.drop_zero]; exact hZ)
  have HBD := Lib.hid hbd
  have HBB := Lib.hid hB
  have HL := Lib.hid h
  have h0 : idxF q (l.drop l.length) = 0 := by rw [List.drop_length]; rfl
  have H0 := Lib.hid h0
  have f0 : IntKind.i64.wrap ((l.length : Int) - 1) = (l.length : Int) - 1 := IntWalk.i64_in _ (by omega)
  have f1 : IntKind.i64.wrap (q + 1) = q + 1 := IntWalk.i64_in _ (by omega)
  have f2 : IntKind.i64.wrap ((l.length : Int) + 1) = (l.length : Int) + 1 := IntWalk.i64_in _ (by omega)
  obtain ⟨M, hM⟩ : ∃ M, M = Z * ((l.length : Int) + 1) := ⟨_, rfl⟩
  have hM2 : 0 ≤ M ∧ M ≤ 200000 * 7 := by
    rw [hM]
    exact ⟨Int.mul_nonneg hz1.1 (by omega), Int.mul_le_mul hz1.2 (by omega) (by omega) (by omega)⟩
  have f3 : IntKind.i64.wrap (Z * ((l.length : Int) + 1)) = M := by rw [← hM]; exact IntWalk.i64_in _ (by omega)
  have f4 : IntKind.i64.wrap (M + last) = M + last := IntWalk.i64_in _ (by omega)
  have f5 : IntKind.i64.wrap (M + last + 1) = M + last + 1 := IntWalk.i64_in _ (by omega)
  rw [← hM]
  clear hZ hbd hB h h0 ht ho hz1 hM
  go_enter Tryz.func33, Tryz.ntmps33
  go_wp2
  go_loopw [5, 6] (fun n i wr => ∃ (k : Nat) (x : Int), k ≤ l.length ∧ i = .int .i64 ((k : Int) - 1) ∧ n = .int .i64 x ∧ Hid (x = idxF q (l.drop k)) ∧ Hid (MB w wr (w.heap.size + 1) w.heap.size (.slice A l.length c) ⟨l, last⟩ cv ⟨L, q, tl⟩)) (fun _ i _ => (intOf i + 1).toNat)
  case atStart => exact ⟨l.length, 0, Nat.le_refl _, rfl, rfl, Lib.hid H0.out.symm, HM⟩
  case round =>
    clear HM
    obtain ⟨k, x, hk, rfl, rfl, hx, hm⟩ := hrel
    obtain ⟨⟨y0, y1⟩, z0, z1, z2⟩ := hm.out.cells
    dsimp only at y0 y1 z0 z1 z2
    by_cases hlt : 0 < k
    · obtain ⟨j, rfl⟩ : ∃ j, k = j + 1 := ⟨k - 1, by omega⟩
      have hjl : j < l.length := by omega
      obtain ⟨b, o, rfl, hbl, t0⟩ := num_at HL.out hjl
      have x0 := (hm.out.bel.cell (p := ⟨b, o + j, none⟩) hbl).trans t0
      have hs := idxF_drop (q := q) hjl
      have b1 := HBB.out j
      have b2 := HBD.out (j + 1)
      have b3 := HBD.out j
      rw [hs] at b3
      rw [← hx.out] at hs b2 b3
      obtain ⟨y, hy⟩ : ∃ y, y = l.getD j 0 := ⟨_, rfl⟩
      rw [← hy] at hs b1 b3 x0
      have HS := Lib.hid hs.symm
      obtain ⟨m, hm2⟩ : ∃ m, m = x * (q + 1) := ⟨_, rfl⟩
      have hm3 : 0 ≤ m := by rw [hm2]; exact Int.mul_nonneg b2.1 (by omega)
      rw [← hm2] at b3
      have g0 : IntKind.i64.wrap (x * (q + 1)) = m := by rw [← hm2]; exact IntWalk.i64_in _ (by omega)
      have g1 : IntKind.i64.wrap (m + y) = m + y := IntWalk.i64_in _ (by omega)
      have gk : ((j : Int) + 1 - 1) < (l.length : Int) := by omega
      have gk2 : (0 : Int) ≤ (j : Int) + 1 - 1 := by omega
      have e1 : ((j + 1 : Nat) : Int) - 1 = (j : Int) := by omega
      rw [e1]
      have HM2 := Lib.hid hm2.symm
      have HMN := Lib.hid (fun nq => hm.out.step (Below.drewN_ (Below.refl _ _) nq))
      clear hs hy t0 hx hm hm2
      have g2 : IntKind.i64.wrap ((j : Int) - 1) = (j : Int) - 1 := IntWalk.i64_in _ (by omega)
      have gj : (0 : Int) ≤ (j : Int) := by omega
      have gj2 : (j : Int) < (l.length : Int) := by omega
      go_wp2
      go_quiet (fail)
      go_wp2
      go_roundw
      case rel => exact ⟨j, m + y, by omega, rfl, rfl, Lib.hid (by rw [← HM2.out]; exact HS.out), Lib.hid (HMN.out _)⟩
      case measure => (simp [intOf])
    · obtain rfl : k = 0 := by omega
      obtain rfl : x = Z := hx.out.trans HZ.out.symm
      have HMX := Lib.hid hm.out
      clear hx hm
      go_wp2
      go_ret
      exact ⟨rfl, HMX.out.bel⟩
end Go.Proofs.YtjchapoggmipbaaGreatDoor

namespace Go.Proofs.YtjchapoggmipbaaGreatDoor
open Go.RowKit

def intsA (m : List Int) : Array Value := (m.map (Value.int .i64)).toArray
theorem intsA_get {m : List Int} {k : Nat} (h : k < m.length) : (intsA m)[k]? = some (.int .i64 (m.getD k 0)) := by
  simp [intsA, h, List.getD_eq_getElem?_getD]
theorem intsA_set (m : List Int) (k : Nat) (b : Int) : (intsA m).setIfInBounds k (.int .i64 b) = intsA (m.set k b) := by
  unfold intsA
  simp
theorem intsA_made (n : Nat) : madeCells #[.int .i64 0] n = intsA (List.replicate n 0) := by
  unfold intsA madeCells
  apply Array.ext_getElem?
  intro i
  by_cases h : i < n
  · simp [h, Nat.mod_one]
  · simp [h]
theorem mk_ints (n : Nat) (hn : n ≤ 100000) (W : World) : (Instr.makeSlice 26 (.int .i64 (n : Int)) (.int .i64 (n : Int))).run Tryz.prog W = .ok (.slice (some ⟨W.heap.size, 0, none⟩) n n) (W.alloc (.cells (madeCells #[.int .i64 0] n) 3)) :=
  run_make_row' (P := Tryz.prog) 26 3 (.int .i64 0) 8 Tryz.underlying26 (by kernel_rfl) rfl .i64 .i64 n (by omega) (by omega) W
/-- A block of numbers as a slice. -/
theorem ints_sl {W : World} {g : Nat} {t : TypeId} {l : List Int} {n : Nat} (h : Blk W g t (intsA l)) (hn : n = l.length) (hm : l.length ≤ 1000000) : Sl 1 elInt W (fun b => b = g) (.slice (some ⟨g, 0, none⟩) n n) l := by
  subst hn
  refine ⟨_, l.length, rfl, Nat.le_refl _, by unfold maxLen; omega, fun _ => ⟨g, 0, rfl, rfl, fun i a hi => ?_⟩⟩
  have hil := (List.getElem?_eq_some_iff.1 hi).1
  refine ⟨[.int .i64 a], rfl, fun j u hj => ?_, rfl⟩
  cases j with
  | succ j => simp at hj
  | zero =>
    simp at hj; subst hj
    rw [Nat.add_zero, Nat.mul_one, Nat.zero_add, h.cell, intsA_get hil]
    rw [List.getElem?_eq_getElem hil] at hi
    simp [List.getD_eq_getElem?_getD, hil, Option.some.inj hi]
theorem blk_ne {W : World} {g g' : Nat} {t t' : TypeId} {cs cs' : Array Value} (h : Blk W g t cs) (h' : Blk W g' t' cs') (hne : t ≠ t') : g ≠ g' := by
  rintro rfl
  unfold Blk at h h'
  rw [h] at h'
  injection h' with h'
  injection h' with _ h'
  exact hne h'
/-- A state that is being decoded. -/
structure DS (w W : World) (gs gb : Nat) (cv : Value) (t : Att) (last : Int) (n : Nat) (m : List Int) : Prop where
  bel : Below w.heap.size w W
  ta : Blk W w.heap.size 31 #[cv, .int .i64 t.quota, .int .i64 t.last]
  rs : Blk W (w.heap.size + 1) 91 #[.slice none 0 0, .int .i64 0]
  st : Blk W gs 91 #[.slice (some ⟨gb, 0, none⟩) n n, .int .i64 last]
  row : Blk W gb 3 (intsA m)
  hs : w.heap.size + 1 < gs
  hb : w.heap.size + 1 < gb
theorem DS.put {w W : World} {gs gb : Nat} {cv : Value} {t : Att} {last : Int} {n : Nat} {m : List Int} (h : DS w W gs gb cv t last n m) (k : Nat) (x : Int) : DS w (W.setCell ⟨gb, k, none⟩ (.int .i64 x)) gs gb cv t last n (m.set k x) :=
  ⟨h.bel.setCell (by have := h.hb; show w.heap.size ≤ gb; omega) _, h.ta.far (by have := h.hb; show w.heap.size ≠ gb; omega) _, h.rs.far (by have := h.hb; show w.heap.size + 1 ≠ gb; omega) _, h.st.far (blk_ne h.st h.row (by decide)) _, by rw [← intsA_set]; exact h.row.set_ k _, h.hs, h.hb⟩
theorem DS.drew {w W : World} {gs gb : Nat} {cv : Value} {t : Att} {last : Int} {n : Nat} {m : List Int} (h : DS w W gs gb cv t last n m) : DS w W.drew gs gb cv t last n m :=
  ⟨Below.drew h.bel, h.ta, h.rs, h.st, h.row, h.hs, h.hb⟩
theorem DS.cells {w W : World} {gs gb : Nat} {cv : Value} {t : Att} {last : Int} {n : Nat} {m : List Int} (h : DS w W gs gb cv t last n m) :
    (W.cell? ⟨w.heap.size, 1, none⟩ = some (.int .i64 t.quota)) ∧ (W.cell? ⟨gs, 0, none⟩ = some (.slice (some ⟨gb, 0, none⟩) n n) ∧ W.cell? ⟨gs, 1, none⟩ = some (.int .i64 last)) ∧ (W.cell? ⟨w.heap.size + 1, 0, none⟩ = some (.slice none 0 0) ∧ W.cell? ⟨w.heap.size + 1, 1, none⟩ = some (.int .i64 0) ∧ W.frozen? ⟨w.heap.size + 1, 0, none⟩ = false ∧ W.frozen? ⟨w.heap.size + 1, 1, none⟩ = false) :=
  ⟨h.ta.cell 1, ⟨h.st.cell 0, h.st.cell 1⟩, h.rs.cell 0, h.rs.cell 1, h.rs.frozen 0, h.rs.frozen 1⟩
theorem DS.new1 {w W : World} {cv : Value} {t : Att} {last : Int} {n : Nat} (hb : Below w.heap.size w W) (ht : Blk W w.heap.size 31 #[cv, .int .i64 t.quota, .int .i64 t.last]) (hr : Blk W (w.heap.size + 1) 91 #[.slice none 0 0, .int .i64 0]) (hs : W.heap.size = w.heap.size + 2) :
    DS w ((W.alloc (.cells (madeCells #[.int .i64 0] n) 3)).alloc (.cells #[.slice (some ⟨W.heap.size, 0, none⟩) n n, .int .i64 last] 91)).drew (W.heap.size + 1) W.heap.size cv t last n (List.replicate n 0) := by
  refine DS.drew ⟨?_, (ht.alloc _).alloc _, (hr.alloc _).alloc _, ?_, ?_, by omega, by omega⟩
  · exact (hb.alloc hb.size _).alloc (by have := hb.size; simp; omega) _
  · have h := Blk.new (W.alloc (.cells (madeCells #[.int .i64 0] n) 3)) 91 #[.slice (some ⟨W.heap.size, 0, none⟩) n n, .int .i64 last]
    simpa using h
  · rw [← intsA_made]
    exact (Blk.new W _ _).alloc _
theorem DS.new2 {w W : World} {cv : Value} {t : Att} {last : Int} {n : Nat} (hb : Below w.heap.size w W) (ht : Blk W w.heap.size 31 #[cv, .int .i64 t.quota, .int .i64 t.last]) (hr : Blk W (w.heap.size + 1) 91 #[.slice none 0 0, .int .i64 0]) (hs : W.heap.size = w.heap.size + 2) :
    DS w ((W.alloc (.cells #[.slice (some ⟨W.heap.size + 1, 0, none⟩) n n, .int .i64 last] 91)).alloc (.cells (madeCells #[.int .i64 0] n) 3)).drew W.heap.size (W.heap.size + 1) cv t last n (List.replicate n 0) := by
  refine DS.drew ⟨?_, (ht.alloc _).alloc _, (hr.alloc _).alloc _, ?_, ?_, by omega, by omega⟩
  · exact (hb.alloc hb.size _).alloc (by have := hb.size; simp; omega) _
  · exact (Blk.new W _ _).alloc _
  · rw [← intsA_made]
    have h := Blk.new (W.alloc (.cells #[.slice (some ⟨W.heap.size + 1, 0, none⟩) n n, .int .i64 last] 91)) 3 (madeCells #[.int .i64 0] n)
    simpa using h
theorem DS.stored {w W : World} {gs gb : Nat} {cv : Value} {t : Att} {last : Int} {n : Nat} {m : List Int} (h : DS w W gs gb cv t last n m) {x y : Value} : Blk ((W.setCell ⟨w.heap.size + 1, 0, none⟩ x).setCell ⟨w.heap.size + 1, 1, none⟩ y) (w.heap.size + 1) 91 #[x, y] ∧ Below w.heap.size w ((W.setCell ⟨w.heap.size + 1, 0, none⟩ x).setCell ⟨w.heap.size + 1, 1, none⟩ y) ∧ Blk ((W.setCell ⟨w.heap.size + 1, 0, none⟩ x).setCell ⟨w.heap.size + 1, 1, none⟩ y) gb 3 (intsA m) :=
  ⟨(h.rs.set_ 0 x).set_ 1 y, (h.bel.setCell (by show w.heap.size ≤ w.heap.size + 1; omega) _).setCell (by show w.heap.size ≤ w.heap.size + 1; omega) _, (h.row.far (by have := h.hb; show gb ≠ w.heap.size + 1; omega) _).far (by have := h.hb; show gb ≠ w.heap.size + 1; omega) _⟩
theorem dec_next {q : Int} {D : List Int} {k b : Nat} {x : Int} (h : D.drop k = decF q (b - k) x) (hk : k < b) (hD : D.length = b) : D.getD k 0 = x % (q + 1) ∧ D.drop (k + 1) = decF q (b - (k + 1)) (x / (q + 1)) := by
  obtain ⟨m, hm⟩ : ∃ m, b - k = m + 1 := ⟨b - k - 1, by omega⟩
  rw [hm, decF, drop_at (by omega)] at h
  injection h with h1 h2
  rw [show b - (k + 1) = m by omega]
  exact ⟨h1, h2⟩
theorem dec_set {D : List Int} {k b : Nat} (hD : D.length = b) (hk : k < b) : (D.take k ++ List.replicate (b - k) 0).set k (D.getD k 0) = D.take (k + 1) ++ List.replicate (b - (k + 1)) 0 := by
  obtain ⟨m, hm⟩ : ∃ m, b - k = m + 1 := ⟨b - k - 1, by omega⟩
  rw [hm, show b - (k + 1) = m by omega, List.replicate_succ, List.set_append_right _ _ (by rw [List.length_take]; omega), List.length_take, show k - min k D.length = 0 by omega, List.set_cons_zero, List.take_succ_eq_append_getElem (by omega), List.append_assoc, List.singleton_append]
  rw [show D.getD k 0 = D[k] by simp [List.getD_eq_getElem?_getD, hD, hk]]
theorem att_dec_ret {R' : Ending → World → Prop} {a : Act} {w : World} {x0 x1 : Value} {g : Nat} (h2 : a.tmps[4]? = some (.pointer (some ⟨g, 0, none⟩))) (hb : Blk w g 91 #[x0, x1])
    (hd : a.defers = []) (hR : R' (.returned (.agg #[x0, x1])) w) : bodyPost Tryz.prog Tryz.f32 R' .ret a w := by
  obtain ⟨r0, r1⟩ := blk_twoA hb
  refine bodyPost_ret (v := .agg #[x0, x1]) (by simp [results, Tryz.results32, go_sem, h2, r0, r1]) hd hR
@[go_sem] theorem build_ast (A : Option Addr) (n c : Nat) (x : Int) (w : World) : (Instr.build 91 #[(0, .slice A n c), (1, .int .i64 x)]).run Tryz.prog w = .ok (.agg #[.slice A n c, .int .i64 x]) w := run_build w 91 _ _ (by kernel_rfl)
/-- What decoded and after hand on. -/
def AstPost (w : World) (s : Ast) (e : Ending) (w' : World) : Prop := ∃ A c, e = .returned (.agg #[.slice A s.bow.length c, .int .i64 s.last]) ∧ Sl 1 elInt w' (fun b => w.heap.size ≤ b ∧ b < w'.heap.size) (.slice A s.bow.length c) s.bow ∧ Below w.heap.size w w'
set_option maxRecDepth 100000 in
set_option maxHeartbeats 2000000 in
theorem att_decoded (t : Att) (cv : Value) (m : Int) (w : World) (ht : OkT46 t) (h : Sl 1 elRw w (· < w.heap.size) cv t.costs) (hm : 0 ≤ m ∧ m ≤ 1000000) :
    Calls Tryz.prog 32 #[atV cv t, .int .i64 m] w (AstPost w (decS t m)) := by
  obtain ⟨A, c, rfl, hc, hc2⟩ := h.shape
  have hr0 := rw_at h (k := 0) (by have := ht.n1; omega)
  have q1 := ht.q1
  have q2 := ht.q2
  have b1 := ht.b1
  have b2 := ht.b2
  have hn1 := ht.n1
  obtain ⟨L, q, tl⟩ := t
  unfold nbA at b1 b2
  obtain ⟨Ac, oc, B, cb, hA, hbl, t0, _⟩ := hr0
  subst hA
  have HP := Lib.hid (show decS ⟨L, q, tl⟩ m = ⟨decF q (L.getD 0 []).length (m / (((L.getD 0 []).length : Int) + 1)), m % (((L.getD 0 []).length : Int) + 1) - 1⟩ from rfl)
  unfold atV
  dsimp only at *
  obtain ⟨Z, hZ⟩ : ∃ z, z = decS ⟨L, q, tl⟩ m := ⟨_, rfl⟩
  rw [← hZ]
  replace HP := Lib.hid (hZ.trans HP.out)
  clear hZ ht h
  obtain ⟨b, hb⟩ : ∃ b, b = (L.getD 0 []).length := ⟨_, rfl⟩
  rw [← hb] at b1 b2 t0 HP
  clear hb
  have b3 : 0 < (b : Int) + 1 := by omega
  obtain ⟨r, hr⟩ : ∃ r, r = m % ((b : Int) + 1) := ⟨_, rfl⟩
  obtain ⟨d, hd⟩ : ∃ d, d = m / ((b : Int) + 1) := ⟨_, rfl⟩
  rw [← hr, ← hd] at HP
  have r1 : 0 ≤ r ∧ r ≤ 7 := by
    have h1 := Int.emod_nonneg m (show (b : Int) + 1 ≠ 0 by omega)
    have h2 := Int.emod_lt_of_pos m b3
    omega
  have d1 : 0 ≤ d ∧ d ≤ 1000000 := by
    have h1 := Int.ediv_nonneg hm.1 (show 0 ≤ (b : Int) + 1 by omega)
    have h2 : m / ((b : Int) + 1) ≤ m := Int.ediv_le_self _ hm.1
    omega
  have e1 : Int.tmod m ((b : Int) + 1) = r := by rw [hr]; exact Int.tmod_eq_emod_of_nonneg hm.1
  have e2 : Int.tdiv m ((b : Int) + 1) = d := by rw [hd]; exact Int.tdiv_eq_ediv_of_nonneg hm.1
  have f0 : IntKind.i64.wrap ((b : Int) + 1) = (b : Int) + 1 := IntWalk.i64_in _ (by omega)
  have f1 : IntKind.i64.wrap (q + 1) = q + 1 := IntWalk.i64_in _ (by omega)
  have f2 : IntKind.i64.wrap (r - 1) = r - 1 := IntWalk.i64_in _ (by omega)
  have f3 : IntKind.i64.wrap r = r := IntWalk.i64_in _ (by omega)
  have f4 : IntKind.i64.wrap d = d := IntWalk.i64_in _ (by omega)
  have b4 : ¬ (b : Int) + 1 = 0 := by omega
  have q4 : ¬ q + 1 = 0 := by omega
  have hmk := fun W => mk_ints b (by omega) W
  have x0 : ((w.alloc (.cells #[.slice (some ⟨Ac, oc, none⟩) L.length c, .int .i64 q, .int .i64 tl] 31)).alloc (.cells #[.slice none 0 0, .int .i64 0] 91)).cell? ⟨Ac, oc, none⟩ = some (.slice B b cb) := by
    have hb2 := (low_allocA w (.cells #[.slice (some ⟨Ac, oc, none⟩) L.length c, .int .i64 q, .int .i64 tl] 31)).trans ((low_allocA _ (.cells #[.slice none 0 0, .int .i64 0] 91)).mono (by simp))
    have := (hb2.cell (p := ⟨Ac, oc, none⟩) hbl).trans (by simpa using t0)
    exact this
  have gL : (0 : Int) < (L.length : Int) := by omega
  clear hr hd t0
  obtain ⟨D, hD⟩ : ∃ D, D = decF q b d := ⟨_, rfl⟩
  rw [← hD] at HP
  have HDL := Lib.hid (show D.length = b by rw [hD]; exact decF_len _ _ _)
  have HD0 := Lib.hid (show D.drop 0 = decF q (b - 0) d by rw [List.drop_zero]; exact hD)
  clear hD
  have HB0 := Lib.hid ((low_allocA w (.cells #[.slice (some ⟨Ac, oc, none⟩) L.length c, .int .i64 q, .int .i64 tl] 31)).trans ((low_allocA _ (.cells #[.slice none 0 0, .int .i64 0] 91)).mono (by simp)))
  have HT0 := Lib.hid ((Blk.new w 31 #[.slice (some ⟨Ac, oc, none⟩) L.length c, .int .i64 q, .int .i64 tl]).alloc (.cells #[.slice none 0 0, .int .i64 0] 91))
  have HR0 := Lib.hid (show Blk ((w.alloc (.cells #[.slice (some ⟨Ac, oc, none⟩) L.length c, .int .i64 q, .int .i64 tl] 31)).alloc (.cells #[.slice none 0 0, .int .i64 0] 91)) (w.heap.size + 1) 91 #[.slice none 0 0, .int .i64 0] by
    have h := Blk.new (w.alloc (.cells #[.slice (some ⟨Ac, oc, none⟩) L.length c, .int .i64 q, .int .i64 tl] 31)) 91 #[.slice none 0 0, .int .i64 0]
    simpa using h)
  have HS0 := Lib.hid (show ((w.alloc (.cells #[.slice (some ⟨Ac, oc, none⟩) L.length c, .int .i64 q, .int .i64 tl] 31)).alloc (.cells #[.slice none 0 0, .int .i64 0] 91)).heap.size = w.heap.size + 2 by simp)
  go_enter Tryz.func32, Tryz.ntmps32
  go_upto_region 2 with fail
  clear x0
  obtain ⟨w1, hw1⟩ : ∃ w1, w1 = (w.alloc (.cells #[.slice (some ⟨Ac, oc, none⟩) L.length c, .int .i64 q, .int .i64 tl] 31)).alloc (.cells #[.slice none 0 0, .int .i64 0] 91) := ⟨_, rfl⟩
  rw [← hw1]
  rw [← hw1] at HB0 HT0 HR0 HS0
  clear hw1
  go_cut [6] (fun s6 wx => ∃ gs gb, s6 = .pointer (some ⟨gs, 0, none⟩) ∧ DS w wx gs gb (.slice (some ⟨Ac, oc, none⟩) L.length c) ⟨L, q, tl⟩ (r - 1) b (List.replicate b 0))
  case first =>
    go_region
    all_goals (go_wp2_with fail)
    · go_meet
      exact ⟨_, _, rfl, DS.new1 HB0.out HT0.out HR0.out HS0.out⟩
    · go_meet
      exact ⟨_, _, rfl, DS.new2 HB0.out HT0.out HR0.out HS0.out⟩
  case rest =>
    clear HB0 HT0 HR0 HS0
    obtain ⟨gs, gb, rfl, hds⟩ := hcut
    obtain ⟨y1, ⟨z0, z1⟩, _⟩ := hds.cells
    dsimp only at y1
    have HDS := Lib.hid (show DS w wc gs gb (.slice (some ⟨Ac, oc, none⟩) L.length c) ⟨L, q, tl⟩ (r - 1) b (D.take 0 ++ List.replicate (b - 0) 0) from hds)
    clear hds
    go_wp2
    go_loopw [1, 28] (fun n i wr => ∃ (k : Nat) (x : Int), k ≤ b ∧ i = .int .i64 k ∧ n = .int .i64 x ∧ 0 ≤ x ∧ x ≤ 1000000 ∧ Hid (D.drop k = decF q (b - k) x) ∧ Hid (DS w wr gs gb (.slice (some ⟨Ac, oc, none⟩) L.length c) ⟨L, q, tl⟩ (r - 1) b (D.take k ++ List.replicate (b - k) 0))) (fun _ i _ => b - (intOf i).toNat)
    case atStart => exact ⟨0, d, Nat.zero_le _, rfl, rfl, by omega, by omega, HD0, HDS⟩
    case round =>
      clear HD0 HDS y1 z0 z1
      obtain ⟨k, x, hk, rfl, rfl, hx0, hx1, hdr, hds⟩ := hrel
      obtain ⟨y1, ⟨z0, z1⟩, u0, u1, u2, u3⟩ := hds.out.cells
      dsimp only at y1
      by_cases hlt : k < b
      · obtain ⟨g1, g2⟩ := dec_next hdr.out hlt HDL.out
        obtain ⟨y, hy⟩ : ∃ y, y = x % (q + 1) := ⟨_, rfl⟩
        obtain ⟨x2, hx2⟩ : ∃ y, y = x / (q + 1) := ⟨_, rfl⟩
        have y5 : 0 ≤ y ∧ y ≤ 12 := by
          have h1 := Int.emod_nonneg x (show q + 1 ≠ 0 by omega)
          have h2 := Int.emod_lt_of_pos x (show 0 < q + 1 by omega)
          omega
        have x5 : 0 ≤ x2 ∧ x2 ≤ 1000000 := by
          have h1 := Int.ediv_nonneg hx0 (show 0 ≤ q + 1 by omega)
          have h2 : x / (q + 1) ≤ x := Int.ediv_le_self _ hx0
          omega
        have k1 : Int.tmod x (q + 1) = y := by rw [hy]; exact Int.tmod_eq_emod_of_nonneg hx0
        have k2 : Int.tdiv x (q + 1) = x2 := by rw [hx2]; exact Int.tdiv_eq_ediv_of_nonneg hx0
        have k3 : IntKind.i64.wrap y = y := IntWalk.i64_in _ (by omega)
        have k4 : IntKind.i64.wrap x2 = x2 := IntWalk.i64_in _ (by omega)
        rw [← hx2] at g2
        rw [← hy] at g1
        have hput := (hds.out.put k y).drew
        have hset := dec_set (k := k) HDL.out hlt
        rw [g1] at hset
        rw [hset] at hput
        have hc0 := hds.out.row.cell k
        have hf0 := hds.out.row.frozen k
        have hin : k < (D.take k ++ List.replicate (b - k) 0).length := by rw [List.length_append, List.length_take, List.length_replicate, HDL.out]; omega
        rw [intsA_get hin] at hc0
        obtain ⟨o9, ho9⟩ : ∃ o9, o9 = (D.take k ++ List.replicate (b - k) 0).getD k 0 := ⟨_, rfl⟩
        rw [← ho9] at hc0
        have HPUT := Lib.hid hput
        have HG2 := Lib.hid g2
        have gk : (k : Int) < (b : Int) := by omega
        clear hput hset g1 g2 hy hx2 hin hdr hds u0 u1 u2 u3 ho9
        go_upto_region 7 with fail
        go_region
        have y1' : (wr.setCell ⟨gb, k, none⟩ (.int .i64 y)).cell? ⟨w.heap.size, 1, none⟩ = some (.int .i64 q) := HPUT.out.cells.1
        go_wp2
        go_roundw
        case rel => exact ⟨k + 1, x2, by omega, by go_num, rfl, x5.1, x5.2, HG2, HPUT⟩
        case measure => simp [intOf]; omega
      · obtain rfl : k = b := by omega
        have hrow := hds.out
        rw [Nat.sub_self, List.replicate_zero, List.append_nil, List.take_of_length_le (by rw [HDL.out]; exact Nat.le_refl _)] at hrow
        have HR := Lib.hid hrow
        clear hrow hds hdr
        go_wp2
        obtain ⟨k1, k2, k3⟩ := HR.out.stored (x := .slice (some ⟨gb, 0, none⟩) k k) (y := .int .i64 (r - 1))
        refine att_dec_ret rfl k1 rfl ⟨_, _, by rw [HP.out]; dsimp only; rw [HDL.out], by rw [HP.out]; dsimp only; rw [HDL.out]; exact (ints_sl k3 HDL.out.symm (by rw [HDL.out]; omega)).keep elInt_good (Same.refl _ _) fun b' hb' => by subst hb'; exact ⟨by have := HR.out.hb; omega, k3.lt⟩, k2⟩
end Go.Proofs.YtjchapoggmipbaaGreatDoor

namespace Go.Proofs.YtjchapoggmipbaaGreatDoor
open Go.RowKit

theorem onD_part {t : Dct} (h : OkT47 t) {f : Int → Int} {B : Int} (hf : ∀ x, 0 ≤ f x ∧ f x ≤ B) (lead : Int) (k : Nat) : 0 ≤ sumI ((t.over.take k).map fun o => o.wt * f (lead + o.runs)) ∧ sumI ((t.over.take k).map fun o => o.wt * f (lead + o.runs)) ≤ 16 * B := by
  have h1 := onD_bd h hf lead
  unfold onD at h1
  have h2 := sumI_take_le (l := t.over.map fun o => o.wt * f (lead + o.runs)) (fun x hx => by
    obtain ⟨o, ho, rfl⟩ := List.mem_map.1 hx
    exact Int.mul_nonneg (by have := (h.ov.each o ho).w1; omega) (hf _).1) k
  rw [← List.map_take] at h2
  omega
/-- Where the later values lie. -/
def LaterA (t : Dct) (f : Int → Int) (L : List Int) (lead k : Int) : Prop := ∀ o ∈ t.over, ∃ i : Nat, k + o.runs = (i : Int) ∧ i < L.length ∧ L.getD i 0 = f (lead + o.runs)
set_option maxRecDepth 100000 in
set_option maxHeartbeats 2000000 in
theorem dec_on (t : Dct) (ov wv lv : Value) (f : Int → Int) (B : Int) (L : List Int) (lead : Int) (k : Nat) (w : World) (ht : OkT47 t) (hf : ∀ x, 0 ≤ f x ∧ f x ≤ B) (hB : B ≤ 100000000000000) (hk : k ≤ 100000) (hL : LaterA t f L lead (k : Int)) (h : DtAt w (· < w.heap.size) ov wv t) (hl : Sl 1 elInt w (· < w.heap.size) lv L) :
    Calls Tryz.prog 67 #[dtV t ov wv, lv, .int .i64 (k : Int)] w fun e w' => e = .returned (.int .i64 (onD t f lead)) ∧ Below w.heap.size w w' := by
  obtain ⟨A, c, rfl, hc, hc2⟩ := h.over.shape
  obtain ⟨A2, c2, rfl, hc3, hc4⟩ := h.win.shape
  obtain ⟨A3, c3, rfl, hc5, hc6⟩ := hl.shape
  have HX := Lib.hid (DX.new w (.slice A t.over.length c) (.slice A2 t.win.length c2) t)
  obtain ⟨Z, hZ⟩ : ∃ z, z = onD t f lead := ⟨_, rfl⟩
  rw [← hZ]
  have HZ := Lib.hid (show Z = sumI ((t.over.take t.over.length).map fun o => o.wt * f (lead + o.runs)) by rw [List.take_length]; exact hZ)
  have hpart := fun j => onD_part ht hf lead j
  have hstep := fun (j : Nat) (hj : j < t.over.length) => onD_take (t := t) (f := f) (lead := lead) hj
  have heach := fun (j : Nat) (hj : j < t.over.length) => ht.ov.each t.over[j] (List.getElem_mem hj)
  have hLt := fun (j : Nat) (hj : j < t.over.length) => hL t.over[j] (List.getElem_mem hj)
  have HP := Lib.hid hpart
  have HST := Lib.hid hstep
  have HE := Lib.hid heach
  have HLT := Lib.hid hLt
  have HF := Lib.hid hf
  have HO := Lib.hid h.over
  have HLL := Lib.hid hl
  have hl16 := ht.ov.len.2
  have H0 := Lib.hid (show (0 : Int) = sumI ((t.over.take 0).map fun o => o.wt * f (lead + o.runs)) from rfl)
  unfold dtV
  clear hZ hpart hstep heach hLt hf hL h hl ht
  obtain ⟨o, ld, s, d, mm⟩ := t
  dsimp only at *
  go_enter Tryz.func67, Tryz.ntmps67
  go_wp2
  go_loopw [7, 13] (fun su i wr => ∃ (j : Nat) (x : Int), j ≤ d.length ∧ i = .int .i64 j ∧ su = .int .i64 x ∧ Hid (x = sumI ((d.take j).map fun o => o.wt * f (lead + o.runs))) ∧ Hid (Below w.heap.size w wr)) (fun _ i _ => d.length - (intOf i).toNat)
  case atStart => exact ⟨0, 0, Nat.zero_le _, rfl, rfl, H0, Lib.hid HX.out.bel⟩
  case round =>
    clear HX H0
    obtain ⟨j, x, hj, rfl, rfl, hx, hb⟩ := hrel
    by_cases hlt : j < d.length
    · obtain ⟨b8, o8, rfl, hF8, t0, t1, t2⟩ := otc_at HO.out hlt
      have x0 := (hb.out.cell (p := ⟨b8, o8 + j * 3, none⟩) hF8).trans t0
      have x1 := (hb.out.cell (p := ⟨b8, o8 + j * 3 + 1, none⟩) hF8).trans t1
      have x2 := (hb.out.cell (p := ⟨b8, o8 + j * 3 + 2, none⟩) hF8).trans t2
      have hs := HST.out j hlt
      have hp := HP.out j
      have hp2 := HP.out (j + 1)
      have he := HE.out j hlt
      obtain ⟨i, hi1, hi2, hi3⟩ := HLT.out j hlt
      have hr0 := he.r0
      have hr7 := he.r7
      have hw1 := he.w1
      have hw16 := he.w16
      obtain ⟨ot, hot⟩ : ∃ ot, ot = d[j] := ⟨_, rfl⟩
      rw [← hot] at x0 x1 x2 hs hi1 hi3 hr0 hr7 hw1 hw16
      obtain ⟨ru, wk, wt⟩ := ot
      dsimp only at x0 x1 x2 hs hi1 hi3 hr0 hr7 hw1 hw16
      have hff := HF.out (lead + ru)
      obtain ⟨y, hy⟩ : ∃ y, y = f (lead + ru) := ⟨_, rfl⟩
      rw [← hy] at hs hi3 hff
      rw [← hx.out] at hs hp
      rw [hs] at hp2
      obtain ⟨b7, o7, rfl, hF7, t7⟩ := num_at HLL.out hi2
      rw [hi3] at t7
      have x7 := (hb.out.cell (p := ⟨b7, o7 + i, none⟩) hF7).trans t7
      obtain ⟨z, hz⟩ : ∃ z, z = wt * y := ⟨_, rfl⟩
      rw [← hz] at hs hp2
      have hz0 : 0 ≤ z := by rw [hz]; exact Int.mul_nonneg (by omega) hff.1
      have f0 : IntKind.i64.wrap ((k : Int) + ru) = (i : Int) := by rw [hi1]; exact IntWalk.i64_in _ (by omega)
      have f1 : IntKind.i64.wrap (wt * y) = z := by rw [← hz]; exact IntWalk.i64_in _ (by omega)
      have f2 : IntKind.i64.wrap (x + z) = x + z := IntWalk.i64_in _ (by omega)
      have gi : (i : Int) < (L.length : Int) := by omega
      have gj : (j : Int) < (d.length : Int) := by omega
      have hglt : b7 < wr.heap.size := Nat.lt_of_lt_of_le hF7 hb.out.size
      have HB2 := Lib.hid (fun nq => Below.drewN_ (hb.out.alloc hb.out.size (.cells #[.int .i64 ru, .bool wk, .int .i64 wt] 82)) nq)
      have HS2 := Lib.hid hs.symm
      have c7 : (wr.alloc (.cells #[.int .i64 ru, .bool wk, .int .i64 wt] 82)).cell? ⟨b7, o7 + i, none⟩ = some (.int .i64 y) := ((low_allocA wr _).cell (p := ⟨b7, o7 + i, none⟩) hglt).trans x7
      have HC7 := Lib.hid c7
      have HK := Lib.hid (Blk.new wr 82 #[.int .i64 ru, .bool wk, .int .i64 wt])
      clear t0 t1 t2 t7 hs hp hp2 he hi1 hi2 hi3 hot hy hz hx hb hF8 hF7 c7
      go_upto_region 5 with fail
      obtain ⟨k0, k1, k2⟩ := blk_threeA HK.out
      have k7 := HC7.out
      go_quiet (fail)
      go_wp2
      go_roundw
      case rel => exact ⟨j + 1, x + z, by omega, by go_num, rfl, HS2, Lib.hid (HB2.out _)⟩
      case measure => simp [intOf]; omega
    · obtain rfl : j = d.length := by omega
      have HE2 := Lib.hid (hx.out.trans HZ.out.symm)
      clear hx
      go_wp2
      go_ret
      exact ⟨ret_iA HE2.out, hb.out⟩
end Go.Proofs.YtjchapoggmipbaaGreatDoor

namespace Go.Proofs.YtjchapoggmipbaaGreatDoor
open Go.RowKit

theorem mk_i64d (n : Nat) (hn : n ≤ 1000000) (W : World) : (Instr.makeSlice 52 (.int .i64 (n : Int)) (.int .i64 (n : Int))).run Tryz.prog W = .ok (.slice (some ⟨W.heap.size, 0, none⟩) n n) (W.alloc (.cells (madeCells #[.int .i64 0] n) 2)) :=
  run_make_row' (P := Tryz.prog) 52 2 (.int .i64 0) 8 Tryz.underlying52 (by kernel_rfl) rfl .i64 .i64 n (by omega) (by omega) W
def RowPost (w : World) (L : List Int) (n : Nat) (e : Ending) (w' : World) : Prop := ∃ g, e = .returned (.slice (some ⟨g, 0, none⟩) n n) ∧ Blk w' g 2 (intsA L) ∧ w.heap.size ≤ g ∧ Below w.heap.size w w'
def rowL (f : Int → Int) (lead : Int) (n : Nat) : List Int := (List.range n).map fun k : Nat => f (lead + (k : Int))
theorem rowL_len (f : Int → Int) (lead : Int) (n : Nat) : (rowL f lead n).length = n := by simp [rowL]
theorem rowL_at {f : Int → Int} {lead : Int} {n k : Nat} (h : k < n) : (rowL f lead n).getD k 0 = f (lead + (k : Int)) := by
  simp [rowL, List.getD_eq_getElem?_getD, h]
/-- The row that is filled. -/
def fillL (L : List Int) (k : Nat) : List Int := L.take k ++ List.replicate (L.length - k) 0
theorem fillL_len {L : List Int} {k : Nat} (h : k ≤ L.length) : (fillL L k).length = L.length := by simp [fillL]; omega
theorem fillL_set {L : List Int} {k : Nat} (h : k < L.length) : (fillL L k).set k (L.getD k 0) = fillL L (k + 1) := by
  unfold fillL
  exact dec_set rfl h
theorem fillL_zero (L : List Int) : fillL L 0 = List.replicate L.length 0 := by simp [fillL]
theorem fillL_all (L : List Int) : fillL L L.length = L := by simp [fillL]
/-- The task's box, the row. -/
structure VS (w W : World) (g : Nat) (ov wv : Value) (t : Dct) (m : List Int) : Prop where
  dx : DX w W ov wv t
  row : Blk W g 2 (intsA m)
  lo : w.heap.size < g
section
variable {w W W' : World} {g gl : Nat} {ov wv : Value} {t : Dct} {m L : List Int}
theorem VS.step (h : VS w W g ov wv t m) (hb : Below W.heap.size W W') : VS w W' g ov wv t m := ⟨h.dx.step hb, h.row.below hb h.row.lt, h.lo⟩
theorem VS.put (h : VS w W g ov wv t m) (k : Nat) (x : Int) : VS w (W.setCell ⟨g, k, none⟩ (.int .i64 x)) g ov wv t (m.set k x) :=
  have hl := h.lo
  ⟨⟨h.dx.bel.setCell (by show w.heap.size ≤ g; omega) _, h.dx.bx.far (by show w.heap.size ≠ g; omega) _⟩, by rw [← intsA_set]; exact h.row.set_ k _, h.lo⟩
theorem VS.made (h : DX w W ov wv t) (n : Nat) : VS w (W.alloc (.cells (madeCells #[.int .i64 0] n) 2)) W.heap.size ov wv t (List.replicate n 0) :=
  ⟨h.step (low_allocA _ _), by rw [← intsA_made]; exact Blk.new _ _ _, h.bx.lt⟩
end
def ValA (f : FuncId) (t : Dct) (F : Nat → Int → Int) (m : Nat) : Prop := ∀ (lead : Int) (n : Nat) (ov wv : Value) (w : World), 1 ≤ n → n + 7 * m ≤ 1000 → -2000 ≤ lead ∧ lead ≤ 2000 → DtAt w (· < w.heap.size) ov wv t →
  Calls Tryz.prog f #[dtV t ov wv, .int .i64 lead, .int .i64 (m : Int), .int .i64 (n : Int)] w (RowPost w (rowL (F m) lead n) n)
set_option maxRecDepth 100000 in
set_option maxHeartbeats 4000000 in
theorem dec_values0 (t : Dct) (ht : OkT47 t) : ValA 43 t (valD t) 0 := by
  intro lead n ov wv w hn hn2 hl h
  obtain ⟨A, c, rfl, hc, hc2⟩ := h.over.shape
  obtain ⟨A2, c2, rfl, hc3, hc4⟩ := h.win.shape
  have HX := Lib.hid (DX.new w (.slice A t.over.length c) (.slice A2 t.win.length c2) t)
  have kn := fun W (hx : DX w W (.slice A t.over.length c) (.slice A2 t.win.length c2) t) ld (hld : -1000000 ≤ ld ∧ ld ≤ 1000000) => dec_now t _ _ ld 0 W ht (by have := ht.o0; omega) hld (hx.at h)
  have hmk := fun W => mk_i64d n (by omega) W
  obtain ⟨L, hL⟩ : ∃ L, L = rowL (valD t 0) lead n := ⟨_, rfl⟩
  rw [← hL]
  have HLL := Lib.hid (show L.length = n by rw [hL, rowL_len])
  have HAT := Lib.hid (fun k (hk : k < n) => (show L.getD k 0 = nowD t 0 (lead + (k : Int)) by rw [hL, rowL_at hk]; rfl))
  unfold dtV at kn ⊢
  rw [show ((0 : Nat) : Int) = 0 from rfl] at kn ⊢
  have KN := Lib.hid kn
  clear kn hL h ht
  obtain ⟨y0, y1, y2, y3, y4⟩ := HX.out.cells
  have HFZ := Lib.hid (show fillL L 0 = List.replicate n 0 by rw [fillL_zero, HLL.out])
  obtain ⟨o, ld, s, d, mm⟩ := t
  dsimp only at *
  have HV0 := Lib.hid (show VS w ((w.alloc (.cells #[.int .i64 o, .int .i64 ld, .int .i64 s, .slice A d.length c, .slice A2 mm.length c2] 34)).alloc (.cells (madeCells #[.int .i64 0] n) 2)) (w.heap.size + 1) (.slice A d.length c) (.slice A2 mm.length c2) ⟨o, ld, s, d, mm⟩ (fillL L 0) by
    have hm := VS.made HX.out n
    rw [HFZ.out]
    simpa using hm)
  clear HX HFZ y0 y1 y2 y3 y4
  go_enter Tryz.func43, Tryz.ntmps43
  go_wp2
  go_loopw [34] (fun i wr => ∃ k : Nat, k ≤ n ∧ i = .int .i64 k ∧ Hid (VS w wr (w.heap.size + 1) (.slice A d.length c) (.slice A2 mm.length c2) ⟨o, ld, s, d, mm⟩ (fillL L k))) (fun i _ => n - (intOf i).toNat)
  case atStart => exact ⟨0, Nat.zero_le _, rfl, HV0⟩
  case round =>
    clear HV0
    obtain ⟨k, hk, rfl, hv⟩ := hrel
    obtain ⟨y0, y1, y2, y3, y4⟩ := hv.out.dx.cells
    by_cases hlt : k < n
    · have gk : (k : Int) < (n : Int) := by omega
      have f0 : IntKind.i64.wrap (lead + (k : Int)) = lead + (k : Int) := IntWalk.i64_in _ (by omega)
      have hset := fillL_set (L := L) (k := k) (by rw [HLL.out]; exact hlt)
      rw [HAT.out k hlt] at hset
      have kn2 := fun W hx => KN.out W hx (lead + (k : Int)) (by omega)
      obtain ⟨x, hx⟩ : ∃ x, x = nowD ⟨o, ld, s, d, mm⟩ 0 (lead + (k : Int)) := ⟨_, rfl⟩
      rw [← hx] at hset kn2
      have KN2 := Lib.hid kn2
      have HSET := Lib.hid hset
      have hin : k < (fillL L k).length := by rw [fillL_len (by rw [HLL.out]; omega), HLL.out]; exact hlt
      have HIN := Lib.hid hin
      clear hset kn2 hx hin
      go_wp2_with (go_at_call 66; refine (KN2.out _ hv.out.dx).mono ?_; rintro e w3 ⟨rfl, hb⟩; clear y0 y1 y2 y3 y4; have h3 := hv.out.step hb; have c0 := h3.row.cell k; have f9 := h3.row.frozen k; rw [intsA_get HIN.out] at c0; have hp := h3.put k x; rw [HSET.out] at hp; have HP := Lib.hid hp; clear hb h3 hp)
      go_roundw
      case rel => exact ⟨k + 1, by omega, by go_num, HP⟩
      case measure => simp [intOf]; omega
    · obtain rfl : k = n := by omega
      have hv2 := hv.out
      rw [show fillL L k = L by rw [← HLL.out, fillL_all]] at hv2
      have HV2 := Lib.hid hv2
      clear hv hv2
      go_wp2
      go_ret
      exact ⟨_, rfl, HV2.out.row, by omega, HV2.out.dx.bel⟩
end Go.Proofs.YtjchapoggmipbaaGreatDoor

namespace Go.Proofs.YtjchapoggmipbaaGreatDoor
open Go.RowKit

/-- The row of the later values besides. -/
structure VL (w W : World) (g gl : Nat) (ov wv : Value) (t : Dct) (m L : List Int) : Prop where
  vs : VS w W g ov wv t m
  la : Blk W gl 2 (intsA L)
  ne : gl ≠ g
  lo : w.heap.size ≤ gl
section
variable {w W W' : World} {g gl : Nat} {ov wv : Value} {t : Dct} {m L : List Int}
theorem VL.step (h : VL w W g gl ov wv t m L) (hb : Below W.heap.size W W') : VL w W' g gl ov wv t m L := ⟨h.vs.step hb, h.la.below hb h.la.lt, h.ne, h.lo⟩
theorem VL.put (h : VL w W g gl ov wv t m L) (k : Nat) (x : Int) : VL w (W.setCell ⟨g, k, none⟩ (.int .i64 x)) g gl ov wv t (m.set k x) L := ⟨h.vs.put k x, h.la.far h.ne _, h.ne, h.lo⟩
theorem VL.made (h : DX w W ov wv t) (hl : Blk W gl 2 (intsA L)) (hlo : w.heap.size ≤ gl) (n : Nat) : VL w (W.alloc (.cells (madeCells #[.int .i64 0] n) 2)) W.heap.size gl ov wv t (List.replicate n 0) L :=
  ⟨VS.made h n, hl.alloc _, Nat.ne_of_lt hl.lt, hlo⟩
end
theorem getD_setD {K : List Int} {k : Nat} {x : Int} (hk : k < K.length) : (K.set k x).getD k 0 = x := by simp [List.getD_eq_getElem?_getD, hk]
theorem later_of {t : Dct} (ht : OkT47 t) {f : Int → Int} {lead : Int} {n k lr : Nat} (hk : k < n) (hlr : ∀ o ∈ t.over, o.runs ≤ (lr : Int)) : LaterA t f (rowL f lead (n + lr)) (lead + (k : Int)) (k : Int) := fun o ho => by
  have h1 := hlr o ho
  have h0 := (ht.ov.each o ho).r0
  refine ⟨k + o.runs.toNat, by omega, by rw [rowL_len]; omega, ?_⟩
  rw [rowL_at (by omega)]
  congr 1
  omega
set_option maxRecDepth 100000 in
set_option maxHeartbeats 4000000 in
theorem dec_values_next (t : Dct) (ht : OkT47 t) (m : Nat) (hm : ((m + 1 : Nat) : Int) ≤ t.ovs) (ih : ValA 43 t (valD t) m) : ValA 43 t (valD t) (m + 1) := by
  intro lead n ov wv w hn hn2 hl h
  obtain ⟨A, c, rfl, hc, hc2⟩ := h.over.shape
  obtain ⟨A2, c2, rfl, hc3, hc4⟩ := h.win.shape
  have HX := Lib.hid (DX.new w (.slice A t.over.length c) (.slice A2 t.win.length c2) t)
  have o1 := ht.o1
  -- the runs of the last outcome
  obtain ⟨lo, hlm, _, hla, hlx⟩ := ht.ov.lastR
  have hl0 := (ht.ov.each lo hlm).r0
  have hl7 := (ht.ov.each lo hlm).r7
  obtain ⟨lr, hlr⟩ : ∃ lr : Nat, lo.runs = (lr : Int) := ⟨lo.runs.toNat, by omega⟩
  have hlen := ht.ov.len
  obtain ⟨n1, hn1⟩ : ∃ n1, t.over.length = n1 + 1 := ⟨t.over.length - 1, by omega⟩
  obtain ⟨bo, oo, hA, hFo, q0, q1, q2⟩ := otc_at h.over (k := n1) (by omega)
  subst hA
  have hel : t.over[n1]'(by omega) = lo := by
    have := hla
    rw [hn1, Nat.add_sub_cancel, List.getElem?_eq_getElem (by omega)] at this
    exact Option.some.inj this
  rw [hel, hlr] at q0
  have kn := fun W (hx : DX w W (.slice (some ⟨bo, oo, none⟩) t.over.length c) (.slice A2 t.win.length c2) t) ld (hld : -1000000 ≤ ld ∧ ld ≤ 1000000) => dec_now t _ _ ld (m + 1) W ht hm hld (hx.at h)
  have hmk := fun W => mk_i64d n (by omega) W
  have kv := fun W (hx : DX w W (.slice (some ⟨bo, oo, none⟩) t.over.length c) (.slice A2 t.win.length c2) t) => ih lead (n + lr) _ _ W (by omega) (by omega) hl (hx.at h)
  obtain ⟨LL, hLL⟩ : ∃ LL, LL = rowL (valD t m) lead (n + lr) := ⟨_, rfl⟩
  rw [← hLL] at kv
  have hLLn : LL.length = n + lr := by rw [hLL, rowL_len]
  have hvb := fun x => valD_bd ht m (by omega) x
  have hB : 16 * (16 : Int) ^ m ≤ 100000000000000 := by
    have h2 : (16 : Int) ^ m ≤ 1099511627776 := by
      have h3 : (16 : Nat) ^ m ≤ 16 ^ 10 := Nat.pow_le_pow_right (by omega) (by omega)
      have h4 : (16 : Nat) ^ 10 = 1099511627776 := by decide
      rw [h4] at h3
      have e : (16 : Int) ^ m = ((16 ^ m : Nat) : Int) := by rw [Int.natCast_pow]; rfl
      rw [e]
      generalize (16 : Nat) ^ m = p at h3
      omega
    omega
  have kon := fun W gl g (M : List Int) k (hk : k < n) (hx : VL w W g gl (.slice (some ⟨bo, oo, none⟩) t.over.length c) (.slice A2 t.win.length c2) t M LL) => dec_on t _ _ (.slice (some ⟨gl, 0, none⟩) (n + lr) (n + lr)) (valD t m) _ LL (lead + (k : Int)) k W ht hvb hB (by omega) (by rw [hLL]; exact later_of ht hk (fun o ho => by have := hlx o ho; omega)) (hx.vs.dx.at h) ((ints_sl hx.la hLLn.symm (by omega)).keep elInt_good (Same.refl _ _) fun b hb => by rw [show b = gl from hb]; exact hx.la.lt)
  obtain ⟨L, hL⟩ : ∃ L, L = rowL (valD t (m + 1)) lead n := ⟨_, rfl⟩
  rw [← hL]
  have HLL := Lib.hid (show L.length = n by rw [hL, rowL_len])
  have HAT := Lib.hid (fun k (hk : k < n) => (show L.getD k 0 = max (nowD t (m + 1) (lead + (k : Int))) (onD t (valD t m) (lead + (k : Int))) by rw [hL, rowL_at hk]; rfl))
  unfold dtV at kn kv kon ⊢
  rw [hn1] at HX kn kv kon ⊢
  have e1 : ((n + lr : Nat) : Int) = (n : Int) + (lr : Int) := by push_cast; rfl
  have e2 : ((m + 1 : Nat) : Int) = (m : Int) + 1 := by push_cast; rfl
  rw [e1] at kv
  rw [e2] at kn ⊢
  have KN := Lib.hid kn
  have KV := Lib.hid kv
  have KON := Lib.hid kon
  have Q0 := Lib.hid q0
  have f1 : IntKind.i64.wrap ((m : Int) + 1 - 1) = (m : Int) := by rw [show (m : Int) + 1 - 1 = (m : Int) by omega]; exact IntWalk.i64_in _ (by omega)
  have f2 : IntKind.i64.wrap (((n1 + 1 : Nat) : Int) - 1) = (n1 : Int) := by rw [show ((n1 + 1 : Nat) : Int) - 1 = (n1 : Int) by omega]; exact IntWalk.i64_in _ (by omega)
  have f3 : IntKind.i64.wrap ((n : Int) + (lr : Int)) = (n : Int) + (lr : Int) := IntWalk.i64_in _ (by omega)
  have gm0 : (0 : Int) < (m : Int) + 1 := by omega
  have gn1 : (n1 : Int) < ((n1 + 1 : Nat) : Int) := by omega
  have f1b : IntKind.i64.wrap (m : Int) = (m : Int) := IntWalk.i64_in _ (by omega)
  have f2b : IntKind.i64.wrap (n1 : Int) = (n1 : Int) := IntWalk.i64_in _ (by omega)
  have f2c : IntKind.i64.wrap ((n1 : Int) + 1 - 1) = (n1 : Int) := by rw [show (n1 : Int) + 1 - 1 = (n1 : Int) by omega]; exact f2b
  have gn1b : (n1 : Int) < (n1 : Int) + 1 := by omega
  have gn1c : (0 : Int) ≤ (n1 : Int) := by omega
  have gn1d : n1 < n1 + 1 := by omega
  have hFo' : bo < w.heap.size := hFo
  have HLLN := Lib.hid hLLn
  have hm11 : m ≤ 10 := by omega
  clear kn kv kon hL hLL h ih ht hlx hla hlm hel q0 q1 q2 hvb hB hLLn e1 e2 hm hFo
  obtain ⟨o, ld, s, d, mm⟩ := t
  dsimp only at *
  have HXD := Lib.hid (HX.out.step (Below.drew (Below.refl _ _)))
  obtain ⟨w0, hw0⟩ : ∃ w0, w0 = w.alloc (.cells #[.int .i64 o, .int .i64 ld, .int .i64 s, .slice (some ⟨bo, oo, none⟩) (n1 + 1) c, .slice A2 mm.length c2] 34) := ⟨_, rfl⟩
  have HW0 := Lib.hid hw0.symm
  rw [← hw0] at HX HXD
  clear hw0 hlen hn1
  go_enter Tryz.func43, Tryz.ntmps43
  go_upto_region 3 with fail
  rw [HW0.out]
  obtain ⟨y0, y1, y2, y3, y4⟩ := HX.out.cells
  dsimp only at y0 y1 y2
  have x0 := (HX.out.bel.cell (p := ⟨bo, oo + n1 * 3, none⟩) hFo').trans Q0.out
  go_region_held3 (fun w' => w'.cell? ⟨w.heap.size, 0, none⟩ = some (.int .i64 o) ∧ w'.cell? ⟨w.heap.size, 1, none⟩ = some (.int .i64 ld) ∧ w'.cell? ⟨w.heap.size, 2, none⟩ = some (.int .i64 s) ∧ w'.cell? ⟨w.heap.size, 3, none⟩ = some (.slice (some ⟨bo, oo, none⟩) (n1 + 1) c) ∧ w'.cell? ⟨w.heap.size, 4, none⟩ = some (.slice A2 mm.length c2) ∧ w'.cell? ⟨bo, oo + n1 * 3, none⟩ = some (.int .i64 (lr : Int))) (first | exact ⟨y0, y1, y2, y3, y4, x0⟩ | go_keep) ((go_at_call 43; refine (KV.out _ HXD.out).mono ?_; rintro e w2 ⟨gl, rfl, hkl, hglo, hb⟩; clear y0 y1 y2 y3 y4 x0; have HX2 := Lib.hid (HXD.out.step hb); have HLA := Lib.hid hkl; have HGL := Lib.hid (show w.heap.size ≤ gl from Nat.le_trans HXD.out.bel.size hglo); obtain ⟨y0, y1, y2, y3, y4⟩ := HX2.out.cells; have x0 := (HX2.out.bel.cell (p := ⟨bo, oo + n1 * 3, none⟩) hFo').trans Q0.out; clear hkl hb hglo))
  have hvl := VL.made HX2.out HLA.out HGL.out n
  have hfz : fillL L 0 = List.replicate n 0 := by rw [fillL_zero, HLL.out]
  rw [← hfz] at hvl
  have HV0 := Lib.hid hvl
  clear hvl hfz HX HXD HX2 HLA HGL KV y0 y1 y2 y3 y4 x0
  go_wp2
  go_loopw [34] (fun i wr => ∃ k : Nat, k ≤ n ∧ i = .int .i64 k ∧ Hid (VL w wr w2.heap.size gl (.slice (some ⟨bo, oo, none⟩) (n1 + 1) c) (.slice A2 mm.length c2) ⟨o, ld, s, d, mm⟩ (fillL L k) LL)) (fun i _ => n - (intOf i).toNat)
  case atStart => exact ⟨0, Nat.zero_le _, rfl, HV0⟩
  case round =>
    clear HV0
    obtain ⟨k, hk, rfl, hv⟩ := hrel
    obtain ⟨y0, y1, y2, y3, y4⟩ := hv.out.vs.dx.cells
    dsimp only at y0 y1 y2
    by_cases hlt : k < n
    · have gk : (k : Int) < (n : Int) := by omega
      have f0 : IntKind.i64.wrap (lead + (k : Int)) = lead + (k : Int) := IntWalk.i64_in _ (by omega)
      have hset := fillL_set (L := L) (k := k) (by rw [HLL.out]; exact hlt)
      rw [HAT.out k hlt] at hset
      have kn2 := fun W hx => KN.out W hx (lead + (k : Int)) (by omega)
      have kon2 := fun W M hx => KON.out W gl w2.heap.size M k hlt hx
      obtain ⟨x, hx⟩ : ∃ x, x = nowD ⟨o, ld, s, d, mm⟩ (m + 1) (lead + (k : Int)) := ⟨_, rfl⟩
      rw [← hx] at hset kn2
      obtain ⟨y, hy⟩ : ∃ y, y = onD ⟨o, ld, s, d, mm⟩ (valD ⟨o, ld, s, d, mm⟩ m) (lead + (k : Int)) := ⟨_, rfl⟩
      rw [← hy] at hset kon2
      have KN2 := Lib.hid kn2
      have KO2 := Lib.hid kon2
      have HSET := Lib.hid hset
      have hin : k < (fillL L k).length := by rw [fillL_len (by rw [HLL.out]; omega), HLL.out]; exact hlt
      have HIN := Lib.hid hin
      have hset2 := fun z => (show ((fillL L k).set k x).set k z = (fillL L k).set k z by rw [List.set_set])
      have HS2 := Lib.hid hset2
      clear hset kn2 kon2 hx hy hin hset2
      go_upto_region 10 with (go_at_call 66; refine (KN2.out _ hv.out.vs.dx).mono ?_; rintro e w3 ⟨rfl, hb⟩; clear y0 y1 y2 y3 y4; have h3 := hv.out.step hb; have c0 := h3.vs.row.cell k; have f9 := h3.vs.row.frozen k; rw [intsA_get HIN.out] at c0; have HP := Lib.hid (h3.put k x); clear hb h3)
      obtain ⟨w4, hw4⟩ : ∃ w4, w4 = w3.setCell ⟨w2.heap.size, k, none⟩ (.int .i64 x) := ⟨_, rfl⟩
      rw [← hw4] at HP ⊢
      clear hw4 c0 f9
      obtain ⟨y0, y1, y2, y3, y4⟩ := HP.out.vs.dx.cells
      dsimp only at y0 y1 y2
      have c0 := HP.out.vs.row.cell k
      have f9 := HP.out.vs.row.frozen k
      rw [intsA_get (by rw [List.length_set]; exact HIN.out), getD_setD HIN.out] at c0
      have HPD := Lib.hid (HP.out.step (Below.drew (Below.refl _ _)))
      have hz : max x y = if x < y then y else x := by split <;> omega
      rw [hz] at HSET
      go_region_law (first
        | (go_simp; go_at_call 67; refine (KO2.out _ _ HPD.out).mono ?_; rintro e w5 ⟨rfl, hb⟩; clear y0 y1 y2 y3 y4 c0 f9; have h5 := HPD.out.step hb; have c0 := h5.vs.row.cell k; have f9 := h5.vs.row.frozen k; rw [intsA_get (by rw [List.length_set]; exact HIN.out), getD_setD HIN.out] at c0; have h6 := h5.put k (if x < y then y else x); rw [HS2.out _, HSET.out] at h6; have H6 := Lib.hid h6; clear hb h5 h6))
      all_goals
        go_wp2
        go_roundw
        case rel => exact ⟨k + 1, by omega, by go_num, H6⟩
        case measure => simp [intOf]; omega
    · obtain rfl : k = n := by omega
      have hv2 := hv.out
      rw [show fillL L k = L by rw [← HLL.out, fillL_all]] at hv2
      have HV2 := Lib.hid hv2
      clear hv hv2
      go_wp2
      go_ret
      exact ⟨_, rfl, HV2.out.vs.row, by have := HV2.out.vs.lo; omega, HV2.out.vs.dx.bel⟩
end Go.Proofs.YtjchapoggmipbaaGreatDoor

namespace Go.Proofs.YtjchapoggmipbaaGreatDoor
open Go.RowKit

theorem dec_values (t : Dct) (ht : OkT47 t) : ∀ m : Nat, (m : Int) ≤ t.ovs → ValA 43 t (valD t) m
  | 0, _ => dec_values0 t ht
  | m + 1, h => dec_values_next t ht m h (dec_values t ht m (by omega))
set_option maxRecDepth 100000 in
set_option maxHeartbeats 2000000 in
theorem dec_Value (t : Dct) (ov wv : Value) (lead : Int) (m : Nat) (w : World) (hk : checkT t = 0) (hm : (m : Int) ≤ t.ovs) (hl : -1200 ≤ lead ∧ lead ≤ 1200) (h : DtAt w (· < w.heap.size) ov wv t) :
    Calls Tryz.prog 16 #[dtV t ov wv, .int .i64 lead, .int .i64 (m : Int)] w fun e w' => e = .returned (.tuple #[.int .i64 (valD t m lead), .int .i64 0]) ∧ Below w.heap.size w w' := by
  obtain ⟨A, c, rfl, hc, hc2⟩ := h.over.shape
  obtain ⟨A2, c2, rfl, hc3, hc4⟩ := h.win.shape
  have ht := checkT_ok hk
  have HX := Lib.hid (DX.new w (.slice A t.over.length c) (.slice A2 t.win.length c2) t)
  have kc := fun W (hx : DX w W (.slice A t.over.length c) (.slice A2 t.win.length c2) t) => dec_check t _ _ lead (m : Int) W (hx.at h)
  rw [checkL_ok hk hm hl] at kc
  have kn := fun W (hx : DX w W (.slice A t.over.length c) (.slice A2 t.win.length c2) t) => dec_values t ht m hm lead 1 _ _ W (by omega) (by have := ht.o1; omega) (by omega) (hx.at h)
  unfold dtV at kc kn ⊢
  obtain ⟨Z, hZ⟩ : ∃ z, z = valD t m lead := ⟨_, rfl⟩
  rw [show rowL (valD t m) lead 1 = [Z] by rw [hZ]; simp [rowL]] at kn
  rw [← hZ]
  rw [show ((1 : Nat) : Int) = 1 from rfl] at kn
  have KC := Lib.hid kc
  have KN := Lib.hid kn
  clear kc kn hZ h hk hm ht
  obtain ⟨o, ld, s, d, mm⟩ := t
  dsimp only at *
  go_enter Tryz.func16, Tryz.ntmps16
  go_wp2_with (first
    | (go_at_call 42; refine (KC.out _ HX.out).mono ?_; rintro e w1 ⟨rfl, hb⟩; have HX1 := Lib.hid (HX.out.step hb); obtain ⟨y0, y1, y2, y3, y4⟩ := HX1.out.cells; clear hb)
    | (go_at_call 43; refine (KN.out _ HX1.out).mono ?_; rintro e w2 ⟨g, rfl, hbk, _, hb⟩; have c0 := hbk.cell 0; rw [intsA_get (Nat.lt_succ_self 0)] at c0; have c0 : w2.cell? ⟨g, 0, none⟩ = some (.int .i64 Z) := c0; have HX2 := Lib.hid (HX1.out.step hb); clear hb hbk))
  go_ret2
  exact ⟨rfl, HX2.out.bel⟩
set_option maxRecDepth 100000 in
set_option maxHeartbeats 2000000 in
theorem dec_Stop (t : Dct) (ov wv : Value) (lead : Int) (m : Nat) (w : World) (hk : checkT t = 0) (hm : (m : Int) ≤ t.ovs) (hl : -1200 ≤ lead ∧ lead ≤ 1200) (h : DtAt w (· < w.heap.size) ov wv t) :
    Calls Tryz.prog 40 #[dtV t ov wv, .int .i64 lead, .int .i64 (m : Int)] w fun e w' => e = .returned (.tuple #[.bool (valD t m lead == nowD t m lead), .int .i64 0]) ∧ Below w.heap.size w w' := by
  obtain ⟨A, c, rfl, hc, hc2⟩ := h.over.shape
  obtain ⟨A2, c2, rfl, hc3, hc4⟩ := h.win.shape
  have ht := checkT_ok hk
  have HX := Lib.hid (DX.new w (.slice A t.over.length c) (.slice A2 t.win.length c2) t)
  have kv := fun W (hx : DX w W (.slice A t.over.length c) (.slice A2 t.win.length c2) t) => dec_Value t _ _ lead m W hk hm hl (hx.at h)
  have kn := fun W (hx : DX w W (.slice A t.over.length c) (.slice A2 t.win.length c2) t) => dec_now t _ _ lead m W ht hm (by omega) (hx.at h)
  unfold dtV at kv kn ⊢
  obtain ⟨V, hV⟩ : ∃ z, z = valD t m lead := ⟨_, rfl⟩
  obtain ⟨N, hN⟩ : ∃ z, z = nowD t m lead := ⟨_, rfl⟩
  rw [← hV] at kv
  rw [← hN] at kn
  rw [← hV, ← hN]
  have KV := Lib.hid kv
  have KN := Lib.hid kn
  clear kv kn hV hN h hk hm ht
  obtain ⟨o, ld, s, d, mm⟩ := t
  dsimp only at *
  go_enter Tryz.func40, Tryz.ntmps40
  go_wp2_with (first
    | (go_at_call 16; refine (KV.out _ HX.out).mono ?_; rintro e w1 ⟨rfl, hb⟩; have HX1 := Lib.hid (HX.out.step hb); obtain ⟨y0, y1, y2, y3, y4⟩ := HX1.out.cells; clear hb)
    | (go_at_call 66; refine (KN.out _ HX1.out).mono ?_; rintro e w2 ⟨rfl, hb⟩; have HX2 := Lib.hid (HX1.out.step hb); clear hb))
  go_ret2
  exact ⟨rfl, HX2.out.bel⟩
end Go.Proofs.YtjchapoggmipbaaGreatDoor

namespace Go.Proofs.YtjchapoggmipbaaGreatDoor
open Go.RowKit

def RulA (t : Dct) (ls : List Int) (m : Nat) : Prop := ∀ (lead : Int) (n : Nat) (ov wv lv : Value) (w : World), 1 ≤ n → n + 7 * m ≤ 1000 → -2000 ≤ lead ∧ lead ≤ 2000 → DtAt w (· < w.heap.size) ov wv t → Sl 1 elInt w (· < w.heap.size) lv ls →
  Calls Tryz.prog 44 #[dtV t ov wv, lv, .int .i64 lead, .int .i64 (m : Int), .int .i64 (n : Int)] w (RowPost w (rowL (rulD t ls m) lead n) n)
set_option maxRecDepth 100000 in
set_option maxHeartbeats 4000000 in
theorem dec_ruled0 (t : Dct) (ls : List Int) (ht : OkT47 t) : RulA t ls 0 := by
  intro lead n ov wv lv w hn hn2 hl h hls0
  obtain ⟨A, c, rfl, hc, hc2⟩ := h.over.shape
  obtain ⟨A2, c2, rfl, hc3, hc4⟩ := h.win.shape
  obtain ⟨A7, c7, rfl, _, _⟩ := hls0.shape
  have HX := Lib.hid (DX.new w (.slice A t.over.length c) (.slice A2 t.win.length c2) t)
  have kn := fun W (hx : DX w W (.slice A t.over.length c) (.slice A2 t.win.length c2) t) ld (hld : -1000000 ≤ ld ∧ ld ≤ 1000000) => dec_now t _ _ ld 0 W ht (by have := ht.o0; omega) hld (hx.at h)
  have hmk := fun W => mk_i64d n (by omega) W
  obtain ⟨L, hL⟩ : ∃ L, L = rowL (rulD t ls 0) lead n := ⟨_, rfl⟩
  rw [← hL]
  have HLL := Lib.hid (show L.length = n by rw [hL, rowL_len])
  have HAT := Lib.hid (fun k (hk : k < n) => (show L.getD k 0 = nowD t 0 (lead + (k : Int)) by rw [hL, rowL_at hk]; rfl))
  unfold dtV at kn ⊢
  rw [show ((0 : Nat) : Int) = 0 from rfl] at kn ⊢
  have KN := Lib.hid kn
  clear kn hL h ht hls0
  obtain ⟨y0, y1, y2, y3, y4⟩ := HX.out.cells
  have HFZ := Lib.hid (show fillL L 0 = List.replicate n 0 by rw [fillL_zero, HLL.out])
  obtain ⟨o, ld, s, d, mm⟩ := t
  dsimp only at *
  have HV0 := Lib.hid (show VS w ((w.alloc (.cells #[.int .i64 o, .int .i64 ld, .int .i64 s, .slice A d.length c, .slice A2 mm.length c2] 34)).alloc (.cells (madeCells #[.int .i64 0] n) 2)) (w.heap.size + 1) (.slice A d.length c) (.slice A2 mm.length c2) ⟨o, ld, s, d, mm⟩ (fillL L 0) by
    have hm := VS.made HX.out n
    rw [HFZ.out]
    simpa using hm)
  clear HX HFZ y0 y1 y2 y3 y4
  go_enter Tryz.func44, Tryz.ntmps44
  go_wp2
  go_loopw [37] (fun i wr => ∃ k : Nat, k ≤ n ∧ i = .int .i64 k ∧ Hid (VS w wr (w.heap.size + 1) (.slice A d.length c) (.slice A2 mm.length c2) ⟨o, ld, s, d, mm⟩ (fillL L k))) (fun i _ => n - (intOf i).toNat)
  case atStart => exact ⟨0, Nat.zero_le _, rfl, HV0⟩
  case round =>
    clear HV0
    obtain ⟨k, hk, rfl, hv⟩ := hrel
    obtain ⟨y0, y1, y2, y3, y4⟩ := hv.out.dx.cells
    by_cases hlt : k < n
    · have gk : (k : Int) < (n : Int) := by omega
      have f0 : IntKind.i64.wrap (lead + (k : Int)) = lead + (k : Int) := IntWalk.i64_in _ (by omega)
      have hset := fillL_set (L := L) (k := k) (by rw [HLL.out]; exact hlt)
      rw [HAT.out k hlt] at hset
      have kn2 := fun W hx => KN.out W hx (lead + (k : Int)) (by omega)
      obtain ⟨x, hx⟩ : ∃ x, x = nowD ⟨o, ld, s, d, mm⟩ 0 (lead + (k : Int)) := ⟨_, rfl⟩
      rw [← hx] at hset kn2
      have KN2 := Lib.hid kn2
      have HSET := Lib.hid hset
      have hin : k < (fillL L k).length := by rw [fillL_len (by rw [HLL.out]; omega), HLL.out]; exact hlt
      have HIN := Lib.hid hin
      clear hset kn2 hx hin
      go_wp2_with (go_at_call 66; refine (KN2.out _ hv.out.dx).mono ?_; rintro e w3 ⟨rfl, hb⟩; clear y0 y1 y2 y3 y4; have h3 := hv.out.step hb; have c0 := h3.row.cell k; have f9 := h3.row.frozen k; rw [intsA_get HIN.out] at c0; have hp := h3.put k x; rw [HSET.out] at hp; have HP := Lib.hid hp; clear hb h3 hp)
      go_roundw
      case rel => exact ⟨k + 1, by omega, by go_num, HP⟩
      case measure => simp [intOf]; omega
    · obtain rfl : k = n := by omega
      have hv2 := hv.out
      rw [show fillL L k = L by rw [← HLL.out, fillL_all]] at hv2
      have HV2 := Lib.hid hv2
      clear hv hv2
      go_wp2
      go_ret
      exact ⟨_, rfl, HV2.out.row, by omega, HV2.out.dx.bel⟩
set_option maxRecDepth 100000 in
set_option maxHeartbeats 4000000 in
theorem dec_ruled_next (t : Dct) (ls : List Int) (ht : OkT47 t) (m : Nat) (hm : ((m + 1 : Nat) : Int) ≤ t.ovs) (hml : m + 1 < ls.length) (ih : RulA t ls m) : RulA t ls (m + 1) := by
  intro lead n ov wv lv w hn hn2 hl h hls0
  obtain ⟨A, c, rfl, hc, hc2⟩ := h.over.shape
  obtain ⟨A2, c2, rfl, hc3, hc4⟩ := h.win.shape
  obtain ⟨A7, c7, rfl, hc71, hc72⟩ := hls0.shape
  obtain ⟨b7, o7, rfl, hF7, t7⟩ := num_at hls0 hml
  obtain ⟨th, hth⟩ : ∃ x, x = ls.getD (m + 1) 0 := ⟨_, rfl⟩
  rw [← hth] at t7
  have T7 := Lib.hid t7
  have HX := Lib.hid (DX.new w (.slice A t.over.length c) (.slice A2 t.win.length c2) t)
  have o1 := ht.o1
  -- the runs of the last outcome
  obtain ⟨lo, hlm, _, hla, hlx⟩ := ht.ov.lastR
  have hl0 := (ht.ov.each lo hlm).r0
  have hl7 := (ht.ov.each lo hlm).r7
  obtain ⟨lr, hlr⟩ : ∃ lr : Nat, lo.runs = (lr : Int) := ⟨lo.runs.toNat, by omega⟩
  have hlen := ht.ov.len
  obtain ⟨n1, hn1⟩ : ∃ n1, t.over.length = n1 + 1 := ⟨t.over.length - 1, by omega⟩
  obtain ⟨bo, oo, hA, hFo, q0, q1, q2⟩ := otc_at h.over (k := n1) (by omega)
  subst hA
  have hel : t.over[n1]'(by omega) = lo := by
    have := hla
    rw [hn1, Nat.add_sub_cancel, List.getElem?_eq_getElem (by omega)] at this
    exact Option.some.inj this
  rw [hel, hlr] at q0
  have kn := fun W (hx : DX w W (.slice (some ⟨bo, oo, none⟩) t.over.length c) (.slice A2 t.win.length c2) t) ld (hld : -1000000 ≤ ld ∧ ld ≤ 1000000) => dec_now t _ _ ld (m + 1) W ht hm hld (hx.at h)
  have hmk := fun W => mk_i64d n (by omega) W
  have kv := fun W (hx : DX w W (.slice (some ⟨bo, oo, none⟩) t.over.length c) (.slice A2 t.win.length c2) t) => ih lead (n + lr) _ _ _ W (by omega) (by omega) hl (hx.at h) (sl_lowA elInt_good hls0 hx.bel)
  obtain ⟨LL, hLL⟩ : ∃ LL, LL = rowL (rulD t ls m) lead (n + lr) := ⟨_, rfl⟩
  rw [← hLL] at kv
  have hLLn : LL.length = n + lr := by rw [hLL, rowL_len]
  have hvb := fun x => rulD_bd ht ls m (by omega) x
  have hB : 16 * (16 : Int) ^ m ≤ 100000000000000 := by
    have h2 : (16 : Int) ^ m ≤ 1099511627776 := by
      have h3 : (16 : Nat) ^ m ≤ 16 ^ 10 := Nat.pow_le_pow_right (by omega) (by omega)
      have h4 : (16 : Nat) ^ 10 = 1099511627776 := by decide
      rw [h4] at h3
      have e : (16 : Int) ^ m = ((16 ^ m : Nat) : Int) := by rw [Int.natCast_pow]; rfl
      rw [e]
      generalize (16 : Nat) ^ m = p at h3
      omega
    omega
  have kon := fun W gl g (M : List Int) k (hk : k < n) (hx : VL w W g gl (.slice (some ⟨bo, oo, none⟩) t.over.length c) (.slice A2 t.win.length c2) t M LL) => dec_on t _ _ (.slice (some ⟨gl, 0, none⟩) (n + lr) (n + lr)) (rulD t ls m) _ LL (lead + (k : Int)) k W ht hvb hB (by omega) (by rw [hLL]; exact later_of ht hk (fun o ho => by have := hlx o ho; omega)) (hx.vs.dx.at h) ((ints_sl hx.la hLLn.symm (by omega)).keep elInt_good (Same.refl _ _) fun b hb => by rw [show b = gl from hb]; exact hx.la.lt)
  obtain ⟨L, hL⟩ : ∃ L, L = rowL (rulD t ls (m + 1)) lead n := ⟨_, rfl⟩
  rw [← hL]
  have HLL := Lib.hid (show L.length = n by rw [hL, rowL_len])
  have HAT := Lib.hid (fun k (hk : k < n) => (show L.getD k 0 = if th ≤ lead + (k : Int) then nowD t (m + 1) (lead + (k : Int)) else onD t (rulD t ls m) (lead + (k : Int)) by rw [hL, rowL_at hk, hth]; rfl))
  unfold dtV at kn kv kon ⊢
  rw [hn1] at HX kn kv kon ⊢
  have e1 : ((n + lr : Nat) : Int) = (n : Int) + (lr : Int) := by push_cast; rfl
  have e2 : ((m + 1 : Nat) : Int) = (m : Int) + 1 := by push_cast; rfl
  rw [e1] at kv
  rw [e2] at kn ⊢
  have KN := Lib.hid kn
  have KV := Lib.hid kv
  have KON := Lib.hid kon
  have Q0 := Lib.hid q0
  have f1 : IntKind.i64.wrap ((m : Int) + 1 - 1) = (m : Int) := by rw [show (m : Int) + 1 - 1 = (m : Int) by omega]; exact IntWalk.i64_in _ (by omega)
  have f2 : IntKind.i64.wrap (((n1 + 1 : Nat) : Int) - 1) = (n1 : Int) := by rw [show ((n1 + 1 : Nat) : Int) - 1 = (n1 : Int) by omega]; exact IntWalk.i64_in _ (by omega)
  have f3 : IntKind.i64.wrap ((n : Int) + (lr : Int)) = (n : Int) + (lr : Int) := IntWalk.i64_in _ (by omega)
  have gm0 : (0 : Int) < (m : Int) + 1 := by omega
  have gm9 : ((m : Int) + 1 == 0) = false := beqF (by omega)
  have gm8 : (m : Int) + 1 < (ls.length : Int) := by omega
  have hF7' : b7 < w.heap.size := hF7
  have gn1 : (n1 : Int) < ((n1 + 1 : Nat) : Int) := by omega
  have f1b : IntKind.i64.wrap (m : Int) = (m : Int) := IntWalk.i64_in _ (by omega)
  have f2b : IntKind.i64.wrap (n1 : Int) = (n1 : Int) := IntWalk.i64_in _ (by omega)
  have f2c : IntKind.i64.wrap ((n1 : Int) + 1 - 1) = (n1 : Int) := by rw [show (n1 : Int) + 1 - 1 = (n1 : Int) by omega]; exact f2b
  have gn1b : (n1 : Int) < (n1 : Int) + 1 := by omega
  have gn1c : (0 : Int) ≤ (n1 : Int) := by omega
  have gn1d : n1 < n1 + 1 := by omega
  have hFo' : bo < w.heap.size := hFo
  have HLLN := Lib.hid hLLn
  have hm11 : m ≤ 10 := by omega
  clear hth t7 hls0 kn kv kon hL hLL h ih ht hlx hla hlm hel q0 q1 q2 hvb hB hLLn e1 e2 hm hFo
  obtain ⟨o, ld, s, d, mm⟩ := t
  dsimp only at *
  have HXD := Lib.hid (HX.out.step (Below.drew (Below.refl _ _)))
  obtain ⟨w0, hw0⟩ : ∃ w0, w0 = w.alloc (.cells #[.int .i64 o, .int .i64 ld, .int .i64 s, .slice (some ⟨bo, oo, none⟩) (n1 + 1) c, .slice A2 mm.length c2] 34) := ⟨_, rfl⟩
  have HW0 := Lib.hid hw0.symm
  rw [← hw0] at HX HXD
  clear hw0 hlen hn1
  go_enter Tryz.func44, Tryz.ntmps44
  go_upto_region 3 with fail
  rw [HW0.out]
  obtain ⟨y0, y1, y2, y3, y4⟩ := HX.out.cells
  dsimp only at y0 y1 y2
  have x0 := (HX.out.bel.cell (p := ⟨bo, oo + n1 * 3, none⟩) hFo').trans Q0.out
  go_region_held3 (fun w' => w'.cell? ⟨w.heap.size, 0, none⟩ = some (.int .i64 o) ∧ w'.cell? ⟨w.heap.size, 1, none⟩ = some (.int .i64 ld) ∧ w'.cell? ⟨w.heap.size, 2, none⟩ = some (.int .i64 s) ∧ w'.cell? ⟨w.heap.size, 3, none⟩ = some (.slice (some ⟨bo, oo, none⟩) (n1 + 1) c) ∧ w'.cell? ⟨w.heap.size, 4, none⟩ = some (.slice A2 mm.length c2) ∧ w'.cell? ⟨bo, oo + n1 * 3, none⟩ = some (.int .i64 (lr : Int))) (first | exact ⟨y0, y1, y2, y3, y4, x0⟩ | go_keep) ((go_at_call 44; refine (KV.out _ HXD.out).mono ?_; rintro e w2 ⟨gl, rfl, hkl, hglo, hb⟩; clear y0 y1 y2 y3 y4 x0; have HX2 := Lib.hid (HXD.out.step hb); have HLA := Lib.hid hkl; have HGL := Lib.hid (show w.heap.size ≤ gl from Nat.le_trans HXD.out.bel.size hglo); obtain ⟨y0, y1, y2, y3, y4⟩ := HX2.out.cells; have x0 := (HX2.out.bel.cell (p := ⟨bo, oo + n1 * 3, none⟩) hFo').trans Q0.out; clear hkl hb hglo))
  have hvl := VL.made HX2.out HLA.out HGL.out n
  have hfz : fillL L 0 = List.replicate n 0 := by rw [fillL_zero, HLL.out]
  rw [← hfz] at hvl
  have HV0 := Lib.hid hvl
  clear hvl hfz HX HXD HX2 HLA HGL KV y0 y1 y2 y3 y4 x0
  go_wp2
  go_loopw [37] (fun i wr => ∃ k : Nat, k ≤ n ∧ i = .int .i64 k ∧ Hid (VL w wr w2.heap.size gl (.slice (some ⟨bo, oo, none⟩) (n1 + 1) c) (.slice A2 mm.length c2) ⟨o, ld, s, d, mm⟩ (fillL L k) LL)) (fun i _ => n - (intOf i).toNat)
  case atStart => exact ⟨0, Nat.zero_le _, rfl, HV0⟩
  case round =>
    clear HV0
    obtain ⟨k, hk, rfl, hv⟩ := hrel
    obtain ⟨y0, y1, y2, y3, y4⟩ := hv.out.vs.dx.cells
    dsimp only at y0 y1 y2
    by_cases hlt : k < n
    · have gk : (k : Int) < (n : Int) := by omega
      have f0 : IntKind.i64.wrap (lead + (k : Int)) = lead + (k : Int) := IntWalk.i64_in _ (by omega)
      have hset := fillL_set (L := L) (k := k) (by rw [HLL.out]; exact hlt)
      rw [HAT.out k hlt] at hset
      have kn2 := fun W hx => KN.out W hx (lead + (k : Int)) (by omega)
      have kon2 := fun W M hx => KON.out W gl w2.heap.size M k hlt hx
      obtain ⟨x, hx⟩ : ∃ x, x = nowD ⟨o, ld, s, d, mm⟩ (m + 1) (lead + (k : Int)) := ⟨_, rfl⟩
      rw [← hx] at hset kn2
      obtain ⟨y, hy⟩ : ∃ y, y = onD ⟨o, ld, s, d, mm⟩ (rulD ⟨o, ld, s, d, mm⟩ ls m) (lead + (k : Int)) := ⟨_, rfl⟩
      rw [← hy] at hset kon2
      have KN2 := Lib.hid kn2
      have KO2 := Lib.hid kon2
      have HSET := Lib.hid hset
      have hin : k < (fillL L k).length := by rw [fillL_len (by rw [HLL.out]; omega), HLL.out]; exact hlt
      have HIN := Lib.hid hin
      have x7 := (hv.out.vs.dx.bel.cell (p := ⟨b7, o7 + (m + 1), none⟩) hF7').trans T7.out
      clear hset kn2 kon2 hx hy hin
      by_cases hge : th ≤ lead + (k : Int)
      · have HSET2 := Lib.hid (HSET.out.symm.trans (by rw [if_pos hge]))
        go_wp2_with (go_at_call 66; refine (KN2.out _ hv.out.vs.dx).mono ?_; rintro e w3 ⟨rfl, hb⟩; clear y0 y1 y2 y3 y4 x7; have h3 := hv.out.step hb; have c0 := h3.vs.row.cell k; have f9 := h3.vs.row.frozen k; rw [intsA_get HIN.out] at c0; have hp := h3.put k x; rw [← HSET2.out] at hp; have HP := Lib.hid hp; clear hb h3 hp)
        go_roundw
        case rel => exact ⟨k + 1, by omega, by go_num, HP⟩
        case measure => simp [intOf]; omega
      · have HSET2 := Lib.hid (HSET.out.symm.trans (by rw [if_neg hge]))
        go_wp2_with (go_at_call 67; refine (KO2.out _ _ hv.out).mono ?_; rintro e w3 ⟨rfl, hb⟩; clear y0 y1 y2 y3 y4 x7; have h3 := hv.out.step hb; have c0 := h3.vs.row.cell k; have f9 := h3.vs.row.frozen k; rw [intsA_get HIN.out] at c0; have hp := h3.put k y; rw [← HSET2.out] at hp; have HP := Lib.hid hp; clear hb h3 hp)
        go_roundw
        case rel => exact ⟨k + 1, by omega, by go_num, HP⟩
        case measure => simp [intOf]; omega
    · obtain rfl : k = n := by omega
      have hv2 := hv.out
      rw [show fillL L k = L by rw [← HLL.out, fillL_all]] at hv2
      have HV2 := Lib.hid hv2
      clear hv hv2
      go_wp2
      go_ret
      exact ⟨_, rfl, HV2.out.vs.row, by have := HV2.out.vs.lo; omega, HV2.out.vs.dx.bel⟩
end Go.Proofs.YtjchapoggmipbaaGreatDoor

namespace Go.Proofs.YtjchapoggmipbaaGreatDoor
open Go.RowKit

theorem dec_ruled (t : Dct) (ls : List Int) (ht : OkT47 t) (hls : (ls.length : Int) = t.ovs + 1) : ∀ m : Nat, (m : Int) ≤ t.ovs → RulA t ls m
  | 0, _ => dec_ruled0 t ls ht
  | m + 1, h => dec_ruled_next t ls ht m h (by omega) (dec_ruled t ls ht hls m (by omega))
set_option maxRecDepth 100000 in
set_option maxHeartbeats 2000000 in
theorem dec_Rule_bad (t : Dct) (ls : List Int) (ov wv lv : Value) (w : World) (hk : checkT t = 0) (hls : (ls.length : Int) ≠ t.ovs + 1) (h : DtAt w (· < w.heap.size) ov wv t) (hl : Sl 1 elInt w (· < w.heap.size) lv ls) :
    Calls Tryz.prog 17 #[dtV t ov wv, lv] w fun e w' => e = .returned (.tuple #[.int .i64 0, .int .i64 1]) ∧ Below w.heap.size w w' := by
  obtain ⟨A, c, rfl, hc, hc2⟩ := h.over.shape
  obtain ⟨A2, c2, rfl, hc3, hc4⟩ := h.win.shape
  obtain ⟨A7, c7, rfl, hc71, hc72⟩ := hl.shape
  have HX := Lib.hid (DX.new w (.slice A t.over.length c) (.slice A2 t.win.length c2) t)
  have kc := fun W (hx : DX w W (.slice A t.over.length c) (.slice A2 t.win.length c2) t) => dec_Check t _ _ W (hx.at h)
  rw [hk] at kc
  have o1 := (checkT_ok hk).o1
  have o0 := (checkT_ok hk).o0
  unfold dtV at kc ⊢
  have KC := Lib.hid kc
  have gne : ((ls.length : Int) != t.ovs + 1) = true := bneT hls
  have f0 : IntKind.i64.wrap (t.ovs + 1) = t.ovs + 1 := IntWalk.i64_in _ (by omega)
  clear kc h hk hls hl
  obtain ⟨o, ld, s, d, mm⟩ := t
  dsimp only at *
  go_enter Tryz.func17, Tryz.ntmps17
  go_wp2_with (go_at_call 14; refine (KC.out _ HX.out).mono ?_; rintro e w1 ⟨rfl, hb⟩; have HX1 := Lib.hid (HX.out.step hb); obtain ⟨y0, y1, y2, y3, y4⟩ := HX1.out.cells; clear hb)
  go_ret2
  exact ⟨rfl, HX1.out.bel⟩
set_option maxRecDepth 100000 in
set_option maxHeartbeats 2000000 in
theorem dec_Rule_ok (t : Dct) (ls : List Int) (ov wv lv : Value) (m : Nat) (w : World) (hk : checkT t = 0) (hm : t.ovs = (m : Int)) (hls : (ls.length : Int) = t.ovs + 1) (h : DtAt w (· < w.heap.size) ov wv t) (hl : Sl 1 elInt w (· < w.heap.size) lv ls) :
    Calls Tryz.prog 17 #[dtV t ov wv, lv] w fun e w' => e = .returned (.tuple #[.int .i64 (rulD t ls m t.lead), .int .i64 0]) ∧ Below w.heap.size w w' := by
  obtain ⟨A, c, rfl, hc, hc2⟩ := h.over.shape
  obtain ⟨A2, c2, rfl, hc3, hc4⟩ := h.win.shape
  obtain ⟨A7, c7, rfl, hc71, hc72⟩ := hl.shape
  have ht := checkT_ok hk
  have HX := Lib.hid (DX.new w (.slice A t.over.length c) (.slice A2 t.win.length c2) t)
  have kc := fun W (hx : DX w W (.slice A t.over.length c) (.slice A2 t.win.length c2) t) => dec_Check t _ _ W (hx.at h)
  rw [hk] at kc
  have kn := fun W (hx : DX w W (.slice A t.over.length c) (.slice A2 t.win.length c2) t) => dec_ruled t ls ht hls m (by omega) t.lead 1 _ _ _ W (by omega) (by have := ht.o1; omega) (by have := ht.l0; have := ht.l1; omega) (hx.at h) (sl_lowA elInt_good hl hx.bel)
  have o1 := ht.o1
  have o0 := ht.o0
  unfold dtV at kc kn ⊢
  obtain ⟨Z, hZ⟩ : ∃ z, z = rulD t ls m t.lead := ⟨_, rfl⟩
  rw [show rowL (rulD t ls m) t.lead 1 = [Z] by rw [hZ]; simp [rowL]] at kn
  rw [← hZ]
  rw [show ((1 : Nat) : Int) = 1 from rfl, ← hm] at kn
  have KC := Lib.hid kc
  have KN := Lib.hid kn
  have gne : ((ls.length : Int) != t.ovs + 1) = false := bneF hls
  have f0 : IntKind.i64.wrap (t.ovs + 1) = t.ovs + 1 := IntWalk.i64_in _ (by omega)
  clear kc kn hZ h hk hm ht hls hl
  obtain ⟨o, ld, s, d, mm⟩ := t
  dsimp only at *
  go_enter Tryz.func17, Tryz.ntmps17
  go_wp2_with (first
    | (go_at_call 14; refine (KC.out _ HX.out).mono ?_; rintro e w1 ⟨rfl, hb⟩; have HX1 := Lib.hid (HX.out.step hb); obtain ⟨y0, y1, y2, y3, y4⟩ := HX1.out.cells; clear hb)
    | (go_at_call 44; refine (KN.out _ HX1.out).mono ?_; rintro e w2 ⟨g, rfl, hbk, _, hb⟩; have c0 := hbk.cell 0; rw [intsA_get (Nat.lt_succ_self 0)] at c0; have c0 : w2.cell? ⟨g, 0, none⟩ = some (.int .i64 Z) := c0; have HX2 := Lib.hid (HX1.out.step hb); clear hb hbk))
  go_ret2
  exact ⟨rfl, HX2.out.bel⟩
end Go.Proofs.YtjchapoggmipbaaGreatDoor

namespace Go.Proofs.YtjchapoggmipbaaGreatDoor
open Go.RowKit

theorem ret_ibA {a x : Int} {b y : Bool} (h : a = x) (h2 : b = y) : Ending.returned (.tuple #[.int .i64 a, .bool b]) = .returned (.tuple #[.int .i64 x, .bool y]) := by rw [h, h2]
def DwA (t : Dct) (m : Nat) : Prop := ∀ (lead : Int) (ov wv : Value) (w : World), -1200 ≤ lead ∧ lead + 7 * m ≤ 1200 → DtAt w (· < w.heap.size) ov wv t →
  Calls Tryz.prog 15 #[dtV t ov wv, .int .i64 lead, .int .i64 (m : Int)] w fun e w' => e = .returned (.tuple #[.int .i64 (valD t m lead), .bool true]) ∧ Below w.heap.size w w'
set_option maxRecDepth 100000 in
set_option maxHeartbeats 4000000 in
theorem top_declareWins_stop (t : Dct) (hk : checkT t = 0) (m : Nat) (hm : (m : Int) ≤ t.ovs) (lead : Int) (ov wv : Value) (w : World) (hl : -1200 ≤ lead ∧ lead + 7 * m ≤ 1200) (h : DtAt w (· < w.heap.size) ov wv t) (he : (valD t m lead == nowD t m lead) = true) :
    Calls Tryz.prog 15 #[dtV t ov wv, .int .i64 lead, .int .i64 (m : Int)] w fun e w' => e = .returned (.tuple #[.int .i64 (valD t m lead), .bool true]) ∧ Below w.heap.size w w' := by
  obtain ⟨A, c, rfl, hc, hc2⟩ := h.over.shape
  obtain ⟨A2, c2, rfl, hc3, hc4⟩ := h.win.shape
  have HX := Lib.hid (DX.new w (.slice A t.over.length c) (.slice A2 t.win.length c2) t)
  have ks := fun W (hx : DX w W (.slice A t.over.length c) (.slice A2 t.win.length c2) t) => dec_Stop t _ _ lead m W hk hm (by omega) (hx.at h)
  have kn := fun W (hx : DX w W (.slice A t.over.length c) (.slice A2 t.win.length c2) t) => dec_Now t _ _ lead m W hk hm (by omega) (hx.at h)
  rw [he] at ks
  rw [← eq_of_beq he] at kn
  unfold dtV at ks kn ⊢
  obtain ⟨Z, hZ⟩ : ∃ z, z = valD t m lead := ⟨_, rfl⟩
  rw [← hZ] at kn ⊢
  have KS := Lib.hid ks
  have KN := Lib.hid kn
  clear ks kn hZ h hk hm he
  obtain ⟨o, ld, s, d, mm⟩ := t
  dsimp only at *
  go_enter Tryz.func15, Tryz.ntmps15
  go_wp2_with (first
    | (go_at_call 40; refine (KS.out _ HX.out).mono ?_; rintro e w1 ⟨rfl, hb⟩; have HX1 := Lib.hid (HX.out.step hb); obtain ⟨y0, y1, y2, y3, y4⟩ := HX1.out.cells; clear hb)
    | (go_at_call 41; refine (KN.out _ HX1.out).mono ?_; rintro e w2 ⟨rfl, hb⟩; have HX2 := Lib.hid (HX1.out.step hb); clear hb))
  go_ret2
  exact ⟨rfl, HX2.out.bel⟩
set_option maxRecDepth 100000 in
set_option maxHeartbeats 4000000 in
theorem top_declareWins_on (t : Dct) (hk : checkT t = 0) (m : Nat) (hm : ((m + 1 : Nat) : Int) ≤ t.ovs) (ih : DwA t m) (lead : Int) (ov wv : Value) (w : World) (hl : -1200 ≤ lead ∧ lead + 7 * ((m + 1 : Nat) : Int) ≤ 1200) (h : DtAt w (· < w.heap.size) ov wv t) (he : (valD t (m + 1) lead == nowD t (m + 1) lead) = false) :
    Calls Tryz.prog 15 #[dtV t ov wv, .int .i64 lead, .int .i64 ((m + 1 : Nat) : Int)] w fun e w' => e = .returned (.tuple #[.int .i64 (valD t (m + 1) lead), .bool true]) ∧ Below w.heap.size w w' := by
  obtain ⟨A, c, rfl, hc, hc2⟩ := h.over.shape
  obtain ⟨A2, c2, rfl, hc3, hc4⟩ := h.win.shape
  have ht := checkT_ok hk
  have HX := Lib.hid (DX.new w (.slice A t.over.length c) (.slice A2 t.win.length c2) t)
  have ks := fun W (hx : DX w W (.slice A t.over.length c) (.slice A2 t.win.length c2) t) => dec_Stop t _ _ lead (m + 1) W hk hm (by omega) (hx.at h)
  rw [he] at ks
  have kr := fun W (hx : DX w W (.slice A t.over.length c) (.slice A2 t.win.length c2) t) (ru : Int) (hr : 0 ≤ ru ∧ ru ≤ 7) => ih (lead + ru) _ _ W (by push_cast at hl; omega) (hx.at h)
  have hon := valD_on (t := t) (m := m) (lead := lead) (by intro e; rw [e] at he; simp at he)
  have o1 := ht.o1
  have hB : 16 * (16 : Int) ^ m ≤ 100000000000000 := by
    have h2 : (16 : Int) ^ m ≤ 1099511627776 := by
      have h3 : (16 : Nat) ^ m ≤ 16 ^ 10 := Nat.pow_le_pow_right (by omega) (by omega)
      have h4 : (16 : Nat) ^ 10 = 1099511627776 := by decide
      rw [h4] at h3
      have e : (16 : Int) ^ m = ((16 ^ m : Nat) : Int) := by rw [Int.natCast_pow]; rfl
      rw [e]
      generalize (16 : Nat) ^ m = p at h3
      omega
    omega
  have hvb := fun x => valD_bd ht m (by omega) x
  have hpart := fun j => onD_part ht hvb lead j
  have hstep := fun (j : Nat) (hj : j < t.over.length) => onD_take (t := t) (f := valD t m) (lead := lead) hj
  have heach := fun (j : Nat) (hj : j < t.over.length) => ht.ov.each t.over[j] (List.getElem_mem hj)
  have hl16 := ht.ov.len.2
  have HO := Lib.hid h.over
  obtain ⟨Z, hZ⟩ : ∃ z, z = valD t (m + 1) lead := ⟨_, rfl⟩
  rw [← hZ] at hon ⊢
  have HZ := Lib.hid (show Z = sumI ((t.over.take t.over.length).map fun o => o.wt * valD t m (lead + o.runs)) by rw [List.take_length]; exact hon)
  have H0 := Lib.hid (show (0 : Int) = sumI ((t.over.take 0).map fun o => o.wt * valD t m (lead + o.runs)) from rfl)
  have e2 : ((m + 1 : Nat) : Int) = (m : Int) + 1 := by push_cast; rfl
  unfold dtV at ks kr ⊢
  rw [e2] at ks ⊢
  have KS := Lib.hid ks
  have KR := Lib.hid kr
  have HP := Lib.hid hpart
  have HST := Lib.hid hstep
  have HE := Lib.hid heach
  have HVB := Lib.hid hvb
  have HBB := Lib.hid hB
  have gm0 : (0 : Int) < (m : Int) + 1 := by omega
  have gm1 : ¬ (m : Int) + 1 ≤ 0 := by omega
  have f1 : IntKind.i64.wrap ((m : Int) + 1 - 1) = (m : Int) := by rw [show (m : Int) + 1 - 1 = (m : Int) by omega]; exact IntWalk.i64_in _ (by omega)
  have f1b : IntKind.i64.wrap (m : Int) = (m : Int) := IntWalk.i64_in _ (by omega)
  clear ks kr hon hpart hstep heach hvb hZ h hk he ht ih e2 hB hm
  obtain ⟨o, ld, s, d, mm⟩ := t
  dsimp only at *
  go_enter Tryz.func15, Tryz.ntmps15
  go_wp2_with (go_at_call 40; refine (KS.out _ HX.out).mono ?_; rintro e w1 ⟨rfl, hb⟩; have HX1 := Lib.hid (HX.out.step hb); obtain ⟨y0, y1, y2, y3, y4⟩ := HX1.out.cells; clear hb)
  go_loopw [12, 48] (fun su i wr => ∃ (j : Nat) (x : Int), j ≤ d.length ∧ i = .int .i64 j ∧ su = .int .i64 x ∧ Hid (x = sumI ((d.take j).map fun p => p.wt * valD ⟨o, ld, s, d, mm⟩ m (lead + p.runs))) ∧ Hid (DX w wr (.slice A d.length c) (.slice A2 mm.length c2) ⟨o, ld, s, d, mm⟩)) (fun _ i _ => d.length - (intOf i).toNat)
  case atStart => exact ⟨0, 0, Nat.zero_le _, rfl, rfl, H0, HX1⟩
  case round =>
    clear HX HX1 H0 y0 y1 y2 y3 y4
    obtain ⟨j, x, hj, rfl, rfl, hx, hd⟩ := hrel
    by_cases hlt : j < d.length
    · obtain ⟨b8, o8, rfl, hF8, t0, t1, t2⟩ := otc_at HO.out hlt
      have x0 := (hd.out.bel.cell (p := ⟨b8, o8 + j * 3, none⟩) hF8).trans t0
      have x1 := (hd.out.bel.cell (p := ⟨b8, o8 + j * 3 + 1, none⟩) hF8).trans t1
      have x2 := (hd.out.bel.cell (p := ⟨b8, o8 + j * 3 + 2, none⟩) hF8).trans t2
      obtain ⟨y0, y1, y2, y3, y4⟩ := hd.out.cells
      dsimp only at y0 y1 y2
      have hs := HST.out j hlt
      have hp := HP.out j
      have hp2 := HP.out (j + 1)
      have he := HE.out j hlt
      have hr0 := he.r0
      have hr7 := he.r7
      have hw1 := he.w1
      have hw16 := he.w16
      obtain ⟨ot, hot⟩ : ∃ ot, ot = d[j] := ⟨_, rfl⟩
      rw [← hot] at x0 x1 x2 hs hr0 hr7 hw1 hw16
      obtain ⟨ru, wk, wt⟩ := ot
      dsimp only at x0 x1 x2 hs hr0 hr7 hw1 hw16
      have hff := HVB.out (lead + ru)
      have hbb := HBB.out
      have kr2 := fun W hx => KR.out W hx ru ⟨hr0, hr7⟩
      obtain ⟨y, hy⟩ : ∃ y, y = valD ⟨o, ld, s, d, mm⟩ m (lead + ru) := ⟨_, rfl⟩
      rw [← hy] at hs hff kr2
      have KR2 := Lib.hid kr2
      rw [← hx.out] at hs hp
      rw [hs] at hp2
      obtain ⟨z, hz⟩ : ∃ z, z = wt * y := ⟨_, rfl⟩
      rw [← hz] at hs hp2
      have hz0 : 0 ≤ z := by rw [hz]; exact Int.mul_nonneg (by omega) hff.1
      have f0 : IntKind.i64.wrap (lead + ru) = lead + ru := IntWalk.i64_in _ (by push_cast at hl; omega)
      have f3 : IntKind.i64.wrap (wt * y) = z := by rw [← hz]; exact IntWalk.i64_in _ (by omega)
      have f2 : IntKind.i64.wrap (x + z) = x + z := IntWalk.i64_in _ (by omega)
      have gj : (j : Int) < (d.length : Int) := by omega
      have glt := hd.out.bx.lt
      have HXA := Lib.hid (hd.out.step (low_allocA wr (.cells #[.int .i64 ru, .bool wk, .int .i64 wt] 82)))
      have HK := Lib.hid (Blk.new wr 82 #[.int .i64 ru, .bool wk, .int .i64 wt])
      have HS2 := Lib.hid hs.symm
      clear t0 t1 t2 hs hp hp2 he hot hy hz hx hd hF8 kr2 hff hbb
      go_wp2_with (go_at_call 15; refine (KR2.out _ HXA.out).mono ?_; rintro e w3 ⟨rfl, hb⟩; clear y0 y1 y2 y3 y4; have HX3 := Lib.hid (HXA.out.step hb); have hk3 := HK.out.below hb HK.out.lt; obtain ⟨k0, k1, k2⟩ := blk_threeA hk3; clear hb hk3)
      go_roundw
      case rel => exact ⟨j + 1, x + z, by omega, by go_num, rfl, HS2, HX3⟩
      case measure => simp [intOf]; omega
    · obtain rfl : j = d.length := by omega
      have HE2 := Lib.hid (hx.out.trans HZ.out.symm)
      have HDD := Lib.hid hd.out
      clear hx hd
      go_wp2
      go_ret2
      exact ⟨ret_ibA HE2.out rfl, HDD.out.bel⟩
theorem top_declareWins (t : Dct) (hk : checkT t = 0) : ∀ m : Nat, (m : Int) ≤ t.ovs → DwA t m
  | 0, hm => fun lead ov wv w hl h => top_declareWins_stop t hk 0 hm lead ov wv w hl h (by simp [valD])
  | m + 1, hm => fun lead ov wv w hl h => by
    cases he : (valD t (m + 1) lead == nowD t (m + 1) lead) with
    | true => exact top_declareWins_stop t hk (m + 1) hm lead ov wv w hl h he
    | false => exact top_declareWins_on t hk m hm (top_declareWins t hk m (by omega)) lead ov wv w hl h he
end Go.Proofs.YtjchapoggmipbaaGreatDoor

namespace Go.Proofs.YtjchapoggmipbaaGreatDoor
open Go.RowKit

def rowsS (m : Int) (L : List (List Int)) : Bool := L.all (fun l => decide ((l.length : Int) ≤ m))
theorem rowsS_no {m : Int} {L : List (List Int)} {k : Nat} (h : k < L.length) (hm : m < ((L.getD k []).length : Int)) : rowsS m (L.drop k) = false := by
  unfold rowsS
  rw [List.drop_eq_getElem_cons h, List.all_cons]
  have : L.getD k [] = L[k] := by simp [List.getD_eq_getElem?_getD, h]
  rw [← this, decide_eq_false (by omega), Bool.false_and]
theorem rowsS_yes {m : Int} {L : List (List Int)} {k : Nat} (h : k < L.length) (hm : ¬ m < ((L.getD k []).length : Int)) : rowsS m (L.drop k) = rowsS m (L.drop (k + 1)) := by
  unfold rowsS
  rw [List.drop_eq_getElem_cons h, List.all_cons]
  have : L.getD k [] = L[k] := by simp [List.getD_eq_getElem?_getD, h]
  rw [← this, decide_eq_true (by omega), Bool.true_and]
def small46 (t : Att) : Bool := !(decide (6 < (t.costs.length : Int)) || decide (4 < t.quota)) && rowsS 4 t.costs
def small47 (t : Dct) : Bool := !(decide (100 < (t.win.length : Int)) || decide (100 < (t.over.length : Int))) && rowsS 200 t.win
theorem ret_bI {z a : Bool} (h : z = a) : Ending.returned (.bool a) = Ending.returned (.bool z) := by rw [h]
set_option maxRecDepth 100000 in
set_option maxHeartbeats 4000000 in
theorem law46_Small (t : Att) (cv : Value) (w : World) (h : Sl 1 elRw w (· < w.heap.size) cv t.costs) :
    Calls Tryz.prog 6 #[atV cv t] w fun e w' => e = .returned (.bool (small46 t)) ∧ Below w.heap.size w w' := by
  obtain ⟨A, c, rfl, hc, hc2⟩ := h.shape
  obtain ⟨Z, hZ⟩ : ∃ z, z = small46 t := ⟨_, rfl⟩
  rw [← hZ]
  have HX := Lib.hid (BX.new w (.slice A t.costs.length c) t)
  have HL := Lib.hid h
  unfold atV
  clear h
  by_cases n0 : 6 < (t.costs.length : Int)
  · have HZ := Lib.hid (show Z = false by rw [hZ, small46, decide_eq_true n0]; rfl)
    clear hZ HL hc
    go_enter Tryz.func6, Tryz.ntmps6
    go_wp2
    go_ret
    exact ⟨ret_bI HZ.out, HX.out.bel⟩
  by_cases n1 : 4 < t.quota
  · have HZ := Lib.hid (show Z = false by rw [hZ, small46, decide_eq_true n1, Bool.or_true]; rfl)
    clear hZ HL hc
    go_enter Tryz.func6, Tryz.ntmps6
    go_wp2
    go_ret
    exact ⟨ret_bI HZ.out, HX.out.bel⟩
  have HZ := Lib.hid (show Z = rowsS 4 (t.costs.drop 0) by rw [hZ, small46, decide_eq_false n0, decide_eq_false n1, List.drop_zero]; rfl)
  clear hZ
  go_enter Tryz.func6, Tryz.ntmps6
  go_wp2
  go_loopw [17] (fun i wr => ∃ k : Nat, k ≤ t.costs.length ∧ i = .int .i64 k ∧ Hid (Z = rowsS 4 (t.costs.drop k)) ∧ Hid (Below w.heap.size w wr)) (fun i _ => t.costs.length - (intOf i).toNat)
  case atStart => exact ⟨0, Nat.zero_le _, rfl, HZ, Lib.hid HX.out.bel⟩
  case round =>
    clear HZ HX
    obtain ⟨k, hk, rfl, hz, hb⟩ := hrel
    by_cases hlt : k < t.costs.length
    · obtain ⟨b8, o8, B8, cb8, rfl, hF8, t8, hsl8⟩ := rw_at HL.out hlt
      have x8 := (hb.out.cell (p := ⟨b8, o8 + k, none⟩) hF8).trans t8
      have gk : (k : Int) < (t.costs.length : Int) := by omega
      obtain ⟨n, hn⟩ : ∃ n, n = (t.costs.getD k []).length := ⟨_, rfl⟩
      rw [← hn] at x8
      by_cases g : 4 < (n : Int)
      · have HZ1 := Lib.hid (show Z = false by rw [hz.out]; exact rowsS_no hlt (by rw [← hn]; exact g))
        have HB := hb
        clear t8 hsl8 hz hb hn
        go_wp2
        go_ret
        exact ⟨ret_bI HZ1.out, HB.out⟩
      · have HZ1 := Lib.hid (show Z = rowsS 4 (t.costs.drop (k + 1)) by rw [hz.out]; exact rowsS_yes hlt (by rw [← hn]; exact g))
        have HB := hb
        clear t8 hsl8 hz hb hn
        go_wp2
        go_roundw
        case rel => exact ⟨k + 1, by omega, by go_num, HZ1, HB⟩
        case measure => simp [intOf]; omega
    · obtain rfl : k = t.costs.length := by omega
      have HZ1 := Lib.hid (show Z = true by rw [hz.out, List.drop_of_length_le (Nat.le_refl _)]; rfl)
      have HB := hb
      clear hz hb
      go_wp2
      go_ret
      exact ⟨ret_bI HZ1.out, HB.out⟩
set_option maxRecDepth 100000 in
set_option maxHeartbeats 4000000 in
theorem law47_Small (t : Dct) (ov wv : Value) (w : World) (h : DtAt w (· < w.heap.size) ov wv t) :
    Calls Tryz.prog 7 #[dtV t ov wv] w fun e w' => e = .returned (.bool (small47 t)) ∧ Below w.heap.size w w' := by
  obtain ⟨A, c, rfl, hc, hc2⟩ := h.over.shape
  obtain ⟨A2, c2, rfl, hc3, hc4⟩ := h.win.shape
  obtain ⟨Z, hZ⟩ : ∃ z, z = small47 t := ⟨_, rfl⟩
  rw [← hZ]
  have HX := Lib.hid (DX.new w (.slice A t.over.length c) (.slice A2 t.win.length c2) t)
  have HL := Lib.hid h.win
  unfold dtV
  clear h
  by_cases n0 : 100 < (t.win.length : Int)
  · have HZ := Lib.hid (show Z = false by rw [hZ, small47, decide_eq_true n0]; rfl)
    clear hZ HL hc
    go_enter Tryz.func7, Tryz.ntmps7
    go_wp2
    go_ret
    exact ⟨ret_bI HZ.out, HX.out.bel⟩
  by_cases n1 : 100 < (t.over.length : Int)
  · have HZ := Lib.hid (show Z = false by rw [hZ, small47, decide_eq_true n1, Bool.or_true]; rfl)
    clear hZ HL hc
    go_enter Tryz.func7, Tryz.ntmps7
    go_wp2
    go_ret
    exact ⟨ret_bI HZ.out, HX.out.bel⟩
  have HZ := Lib.hid (show Z = rowsS 200 (t.win.drop 0) by rw [hZ, small47, decide_eq_false n0, decide_eq_false n1, List.drop_zero]; rfl)
  clear hZ
  go_enter Tryz.func7, Tryz.ntmps7
  go_wp2
  go_loopw [18] (fun i wr => ∃ k : Nat, k ≤ t.win.length ∧ i = .int .i64 k ∧ Hid (Z = rowsS 200 (t.win.drop k)) ∧ Hid (Below w.heap.size w wr)) (fun i _ => t.win.length - (intOf i).toNat)
  case atStart => exact ⟨0, Nat.zero_le _, rfl, HZ, Lib.hid HX.out.bel⟩
  case round =>
    clear HZ HX
    obtain ⟨k, hk, rfl, hz, hb⟩ := hrel
    by_cases hlt : k < t.win.length
    · obtain ⟨b8, o8, B8, cb8, rfl, hF8, t8, hsl8⟩ := rw_at HL.out hlt
      have x8 := (hb.out.cell (p := ⟨b8, o8 + k, none⟩) hF8).trans t8
      have gk : (k : Int) < (t.win.length : Int) := by omega
      obtain ⟨n, hn⟩ : ∃ n, n = (t.win.getD k []).length := ⟨_, rfl⟩
      rw [← hn] at x8
      by_cases g : 200 < (n : Int)
      · have HZ1 := Lib.hid (show Z = false by rw [hz.out]; exact rowsS_no hlt (by rw [← hn]; exact g))
        have HB := hb
        clear t8 hsl8 hz hb hn
        go_wp2
        go_ret
        exact ⟨ret_bI HZ1.out, HB.out⟩
      · have HZ1 := Lib.hid (show Z = rowsS 200 (t.win.drop (k + 1)) by rw [hz.out]; exact rowsS_yes hlt (by rw [← hn]; exact g))
        have HB := hb
        clear t8 hsl8 hz hb hn
        go_wp2
        go_roundw
        case rel => exact ⟨k + 1, by omega, by go_num, HZ1, HB⟩
        case measure => simp [intOf]; omega
    · obtain rfl : k = t.win.length := by omega
      have HZ1 := Lib.hid (show Z = true by rw [hz.out, List.drop_of_length_le (Nat.le_refl _)]; rfl)
      have HB := hb
      clear hz hb
      go_wp2
      go_ret
      exact ⟨ret_bI HZ1.out, HB.out⟩
end Go.Proofs.YtjchapoggmipbaaGreatDoor

namespace Go.Proofs.YtjchapoggmipbaaGreatDoor
open Go.RowKit

theorem E_intA : ElemOf Tryz.prog 26 3 1 8 := ElemOf.mk (z := .int .i64 0) Tryz.underlying26 (by kernel_rfl) rfl (by decide)
theorem elInt_FA : ∀ w (G G' : Nat → Prop) cs x, elInt w G cs x → elInt w G' cs x := fun _ _ _ _ _ h => h
theorem elInt_oneA : ∀ w (F : Nat → Prop) cs x, elInt w F cs x → ∀ u ∈ cs, u.oneCell' = true := by
  intro w F cs x h u hu
  rw [show cs = _ from h] at hu
  simp only [List.mem_cons, List.not_mem_nil, or_false] at hu
  subst hu; rfl
theorem own_madeA (W : World) : OwnG 1 elInt 3 W.heap.size (W.alloc (.cells #[] 3)) (.slice (some ⟨W.heap.size, 0, none⟩) 0 0) NoG [] :=
  ⟨[], rfl, World.ownsRow_made (base := W.heap.size) (e := 3) (size := 1) W #[] 0 (Nat.le_refl _) (by decide) rfl, by simp, by simp⟩
theorem own_someA {W : World} {B n c : Nat} {A : Option Addr} {out : List Int} (h : OwnSl 1 elInt 3 B W (.slice A n c) out) (h0 : 0 < out.length) : ∃ g, A = some ⟨g, 0, none⟩ ∧ B ≤ g ∧ g < W.heap.size := by
  have hb := OwnSl.block h
  obtain ⟨css, h1, h2, h3, h4⟩ := h
  rcases h2.2 with ⟨hv, hn⟩ | ⟨g', cap', cur, hv, _⟩
  · omega
  · injection hv with e1 _ _
    subst e1
    exact ⟨g', rfl, hb g' rfl⟩
theorem own_atA {W : World} {g n c B k : Nat} {out : List Int} (h : OwnSl 1 elInt 3 B W (.slice (some ⟨g, 0, none⟩) n c) out) (hk : k < out.length) : W.cell? ⟨g, k, none⟩ = some (.int .i64 (out.getD k 0)) ∧ W.frozen? ⟨g, k, none⟩ = false := by
  obtain ⟨b, o, e, hF, y0⟩ := num_at (h.sl elInt_good) hk
  simp only [Option.some.injEq, Addr.mk.injEq, and_true] at e
  obtain ⟨rfl, rfl⟩ := e
  rw [Nat.zero_add] at y0
  obtain ⟨A', c', hv, _⟩ := (h.sl elInt_good).shape
  injection hv with e1 e2 e3
  subst e2
  obtain ⟨css, h1, h2, h3, h4⟩ := h
  exact ⟨y0, h2.frozenAt _⟩
theorem own_putA {W : World} {g n c B k : Nat} {out : List Int} (h : OwnSl 1 elInt 3 B W (.slice (some ⟨g, 0, none⟩) n c) out) (hk : k < out.length) (x : Int) : OwnSl 1 elInt 3 B (W.setCell ⟨g, k, none⟩ (.int .i64 x)) (.slice (some ⟨g, 0, none⟩) n c) (out.set k x) := by
  have := OwnG.put h (fun _ _ _ h => h) hk (show 0 < 1 by decide) (.int .i64 x) x fun c9 w9 h9 => by rw [show c9 = _ from h9]; rfl
  rwa [Nat.mul_one, Nat.add_zero] at this
theorem att_aft_ret {R' : Ending → World → Prop} {a : Act} {w : World} {x0 x1 : Value} {g : Nat} (h2 : a.tmps[4]? = some (.pointer (some ⟨g, 0, none⟩))) (hb : Blk w g 91 #[x0, x1])
    (hd : a.defers = []) (hR : R' (.returned (.agg #[x0, x1])) w) : bodyPost Tryz.prog Tryz.f35 R' .ret a w := by
  obtain ⟨r0, r1⟩ := blk_twoA hb
  refine bodyPost_ret (v := .agg #[x0, x1]) (by simp [results, Tryz.results35, go_sem, h2, r0, r1]) hd hR
/-- A state that is made. -/
structure AF (w W : World) (g : Nat) (n c : Nat) (j : Int) (m : List Int) : Prop where
  bel : Below w.heap.size w W
  rs : Blk W (w.heap.size + 1) 91 #[.slice none 0 0, .int .i64 0]
  own : OwnSl 1 elInt 3 (w.heap.size + 1 + 1) W (.slice (some ⟨g, 0, none⟩) n c) m
theorem AF.alloc {w W : World} {g n c : Nat} {j : Int} {m : List Int} (h : AF w W g n c j m) (o : Obj) : AF w (W.alloc o) g n c j m := ⟨h.bel.alloc h.bel.size o, h.rs.alloc o, h.own.alloc elInt_good o⟩
theorem AF.put {w W : World} {g n c : Nat} {j : Int} {m : List Int} (h : AF w W g n c j m) {k : Nat} (hk : k < m.length) (x : Int) : AF w (W.setCell ⟨g, k, none⟩ (.int .i64 x)) g n c j (m.set k x) := by
  have hg := (OwnSl.block h.own g rfl).1
  exact ⟨h.bel.setCell (by show w.heap.size ≤ g; omega) _, h.rs.far (by show w.heap.size + 1 ≠ g; omega) _, own_putA h.own hk x⟩
theorem AF.stored {w W : World} {g n c : Nat} {j : Int} {m : List Int} (h : AF w W g n c j m) (x y : Value) : Blk ((W.setCell ⟨w.heap.size + 1, 0, none⟩ x).setCell ⟨w.heap.size + 1, 1, none⟩ y) (w.heap.size + 1) 91 #[x, y] ∧ Below w.heap.size w ((W.setCell ⟨w.heap.size + 1, 0, none⟩ x).setCell ⟨w.heap.size + 1, 1, none⟩ y) ∧ Sl 1 elInt ((W.setCell ⟨w.heap.size + 1, 0, none⟩ x).setCell ⟨w.heap.size + 1, 1, none⟩ y) (fun b => w.heap.size ≤ b ∧ b < ((W.setCell ⟨w.heap.size + 1, 0, none⟩ x).setCell ⟨w.heap.size + 1, 1, none⟩ y).heap.size) (.slice (some ⟨g, 0, none⟩) n c) m := by
  have hs := h.own.sl elInt_good
  refine ⟨(h.rs.set_ 0 x).set_ 1 y, (h.bel.setCell (by show w.heap.size ≤ w.heap.size + 1; omega) _).setCell (by show w.heap.size ≤ w.heap.size + 1; omega) _, hs.keep elInt_good (F := fun b => w.heap.size + 1 + 1 ≤ b ∧ b < W.heap.size) ?_ fun b hb => ⟨by omega, by simpa using hb.2⟩⟩
  intro b hb
  exact (Below.heap_setCell _ _ y b (by show b ≠ w.heap.size + 1; omega)).trans (Below.heap_setCell W _ x b (by show b ≠ w.heap.size + 1; omega))
set_option maxRecDepth 100000 in
set_option maxHeartbeats 2000000 in
theorem att_after (s : Ast) (sv : Value) (j : Nat) (w : World) (h : Sl 1 elInt w (· < w.heap.size) sv s.bow) (hj : j < s.bow.length) (hB : BowB s.bow) :
    Calls Tryz.prog 35 #[asV sv s, .int .i64 (j : Int)] w (AstPost w (aftS s j)) := by
  obtain ⟨A, c, rfl, hc, hc2⟩ := h.shape
  have b1 := hB.at j
  have b2 := hB.n
  obtain ⟨l, last⟩ := s
  obtain ⟨Z, hZ⟩ : ∃ Z, Z = aftS ⟨l, last⟩ j := ⟨_, rfl⟩
  rw [← hZ]
  unfold aftS at hZ
  unfold asV
  dsimp only at *
  obtain ⟨x, hx⟩ : ∃ x, x = l.getD j 0 := ⟨_, rfl⟩
  rw [← hx] at b1 hZ
  have HP := Lib.hid hZ
  have HX := Lib.hid hx
  obtain ⟨wa, hwa⟩ : ∃ wa, wa = (w.alloc (.cells #[.slice A l.length c, .int .i64 last] 91)).alloc (.cells #[.slice none 0 0, .int .i64 0] 91) := ⟨_, rfl⟩
  have hsz : wa.heap.size = w.heap.size + 1 + 1 := by rw [hwa]; simp
  have hbel : Below w.heap.size w wa := by rw [hwa]; exact (low_allocA w _).trans ((low_allocA _ _).mono (by simp))
  have hrs : Blk wa (w.heap.size + 1) 91 #[.slice none 0 0, .int .i64 0] := by
    rw [hwa]
    have h := Blk.new (w.alloc (.cells #[.slice A l.length c, .int .i64 last] 91)) 91 #[.slice none 0 0, .int .i64 0]
    simpa using h
  have hsl := (h.keep elInt_good (Same.of_below (hbel.alloc hbel.size (.cells #[] 3))) fun _ h => h)
  have hom := own_madeA wa
  rw [hsz] at hom
  have hrs2 := hrs.alloc (.cells #[] 3)
  have hb2 := hbel.alloc hbel.size (.cells #[] 3)
  have hsz2 : w.heap.size + 1 + 1 ≤ (wa.alloc (.cells #[] 3)).heap.size := by simp; omega
  rw [hwa] at hsl hom hrs2 hb2 hsz2
  have HSL := Lib.hid hsl
  have HOM := Lib.hid hom
  have HRS := Lib.hid hrs2
  have HB2 := Lib.hid hb2
  have HSZ := Lib.hid hsz2
  have H63 := Lib.hid (show l.length ≤ maxLen by unfold maxLen; omega)
  have h64 : l.length * 8 ≤ 140737488355328 := by omega
  have hpos : 0 < l.length := by omega
  have gj : (j : Int) < (l.length : Int) := by omega
  have f0 : IntKind.i64.wrap (x + 1) = x + 1 := IntWalk.i64_in _ (by omega)
  clear hZ hx hwa hsz hbel hrs hsl hom hrs2 hb2 hsz2 h hB
  go_enter Tryz.func35, Tryz.ntmps35
  go_wp2_with (at_builtin; refine wpList_append_mine rfl (.tmp 6) (.tmp 8) _ rfl E_intA elInt_good (w.heap.size + 1 + 1) ⟨w.heap.size + 1 + 1, 0, none⟩ l rfl HOM.out (· < w.heap.size) A l.length c rfl HSL.out elInt_FA elInt_oneA H63.out h64 HSZ.out ?_; intro A1 c1 w1 hs1 hb1; obtain ⟨g, rfl, hg1, hg2⟩ := own_someA hs1 hpos; obtain ⟨p2, pf⟩ := own_atA hs1 hj; rw [← HX.out] at p2; have ha : AF w w1 g l.length c1 (j : Int) l := ⟨HB2.out.trans (hb1.mono (by omega)), HRS.out.below hb1 (by omega), hs1⟩; have hneg : w1.heap.size ≠ g := (by omega); have ha2 := (ha.put hj (x + 1)).alloc (.cells #[.slice (some ⟨g, 0, none⟩) l.length c1, .int .i64 (j : Int)] 91); have HA2 := Lib.hid ha2; obtain ⟨u0, u1⟩ := blk_twoA ha2.rs; have v0 := ha2.rs.frozen 0; have v1 := ha2.rs.frozen 1; clear hs1 hb1 ha ha2)
  obtain ⟨k1, k2, k3⟩ := HA2.out.stored (.slice (some ⟨g, 0, none⟩) l.length c1) (.int .i64 (j : Int))
  have e2 : (l.set j (x + 1)).length = l.length := List.length_set
  refine att_aft_ret rfl k1 rfl ⟨_, _, by rw [HP.out]; dsimp only; rw [e2], by rw [HP.out]; dsimp only; rw [e2]; exact k3, k2⟩
end Go.Proofs.YtjchapoggmipbaaGreatDoor

namespace Go.Proofs.YtjchapoggmipbaaGreatDoor
open Go.RowKit

theorem ret_iiA {a b x y : Int} (h : a = x) (h2 : b = y) : Ending.returned (.tuple #[.int .i64 a, .int .i64 b]) = .returned (.tuple #[.int .i64 x, .int .i64 y]) := by rw [h, h2]
set_option maxRecDepth 100000 in
set_option maxHeartbeats 2000000 in
theorem att_States (t : Att) (cv : Value) (w : World) (h : Sl 1 elRw w (· < w.heap.size) cv t.costs) :
    Calls Tryz.prog 30 #[atV cv t] w fun e w' => e = .returned (.tuple #[.int .i64 (if checkA t ≠ 0 then 0 else cntA t), .int .i64 (checkA t)]) ∧ Below w.heap.size w w' := by
  obtain ⟨A, c, rfl, hc, hc2⟩ := h.shape
  have HX := Lib.hid (BX.new w (.slice A t.costs.length c) t)
  have kc := att_Check t _ _ (sl_lowA elRw_good h (low_allocA w (.cells #[.slice A t.costs.length c, .int .i64 t.quota, .int .i64 t.last] 31)))
  obtain ⟨y0, y1, y2⟩ := HX.out.cells
  clear y0 y1 y2
  unfold atV at kc ⊢
  by_cases he : checkA t = 0
  case neg =>
    rw [if_pos he]
    obtain ⟨Z, hZ⟩ : ∃ z, z = checkA t := ⟨_, rfl⟩
    rw [← hZ] at kc he ⊢
    have KC := Lib.hid kc
    have gz := bneT he
    clear kc he hZ h
    go_enter Tryz.func30, Tryz.ntmps30
    go_wp2_with (go_at_call 36; refine (KC.out).mono ?_; rintro e w1 ⟨rfl, hb⟩; have HX1 := Lib.hid (HX.out.step hb); clear hb)
    go_ret2
    exact ⟨rfl, HX1.out.bel⟩
  rw [if_neg (by rw [he]; decide), he]
  rw [he] at kc
  obtain ⟨ht, hst⟩ := checkA_ok he
  obtain ⟨b9, o9, B9, cb9, rfl, hF9, t9, _⟩ := rw_at h (k := 0) (by have := ht.n1; omega)
  rw [Nat.add_zero] at t9
  have T9 := Lib.hid t9
  have q1 := ht.q1
  have q2 := ht.q2
  have ks := fun W => att_states t.quota (nbA t) W (by omega) (by have := ht.b2; omega)
  obtain ⟨N, hN⟩ : ∃ n, n = cntA t := ⟨_, rfl⟩
  rw [hst, ← hN] at ks
  rw [← hN]
  have gL : (0 : Int) < (t.costs.length : Int) := by have := ht.n1; omega
  have gL2 : 0 < t.costs.length := by omega
  have gL3 : decide ((0 : Int) < (t.costs.length : Int)) = true := decide_eq_true gL
  have gL4 : ¬ t.costs = [] := by intro e; rw [e] at gL2; exact absurd gL2 (by decide)
  have HLR := Lib.hid (show nbA t = (t.costs.getD 0 []).length from rfl)
  obtain ⟨b, hb⟩ : ∃ b, b = nbA t := ⟨_, rfl⟩
  rw [← hb] at ks
  have T9b := Lib.hid (show w.cell? ⟨b9, o9, none⟩ = some (.slice B9 b cb9) by rw [hb]; exact t9)
  have KC := Lib.hid kc
  have KS := Lib.hid ks
  have hF9' : b9 < w.heap.size := hF9
  clear kc ks t9 h hst ht hN hb T9 HLR he
  go_enter Tryz.func30, Tryz.ntmps30
  go_upto_region 4 with (go_at_call 36; refine (KC.out).mono ?_; rintro e w1 ⟨rfl, hb⟩; have HX1 := Lib.hid (HX.out.step hb); clear hb)
  obtain ⟨y0, y1, y2⟩ := HX1.out.cells
  have x0 := (HX1.out.bel.cell (p := ⟨b9, o9, none⟩) hF9').trans T9b.out
  have HB1 := Lib.hid (Below.drew HX1.out.bel)
  go_region_held3 (fun w' => w'.cell? ⟨w.heap.size, 0, none⟩ = some (.slice (some ⟨b9, o9, none⟩) t.costs.length c) ∧ w'.cell? ⟨w.heap.size, 1, none⟩ = some (.int .i64 t.quota) ∧ w'.cell? ⟨b9, o9, none⟩ = some (.slice B9 b cb9)) (first | exact ⟨y0, y1, x0⟩ | go_keep) ((go_at_call 63; refine (KS.out _).mono ?_; rintro e w5 ⟨rfl, hb⟩; obtain rfl := hb))
  go_wp2
  go_ret2
  exact ⟨rfl, HB1.out⟩
/-- While Cost runs. -/
structure CSt (w W : World) (g : Nat) (cv : Value) (t : Att) (m : List Int) : Prop where
  bel : Below w.heap.size w W
  ta : Blk W w.heap.size 31 #[cv, .int .i64 t.quota, .int .i64 t.last]
  row : Blk W g 3 (intsA m)
  hg : w.heap.size < g
theorem CSt.put {w W : World} {g : Nat} {cv : Value} {t : Att} {m : List Int} (h : CSt w W g cv t m) (k : Nat) (x : Int) : CSt w (W.setCell ⟨g, k, none⟩ (.int .i64 x)) g cv t (m.set k x) :=
  ⟨h.bel.setCell (by have := h.hg; show w.heap.size ≤ g; omega) _, h.ta.far (by have := h.hg; show w.heap.size ≠ g; omega) _, by rw [← intsA_set]; exact h.row.set_ k _, h.hg⟩
theorem CSt.step {w W W' : World} {g : Nat} {cv : Value} {t : Att} {m : List Int} (h : CSt w W g cv t m) (hb : Below W.heap.size W W') : CSt w W' g cv t m := ⟨h.bel.trans (hb.mono h.bel.size), h.ta.below hb h.ta.lt, h.row.below hb h.row.lt, h.hg⟩
theorem CSt.cells {w W : World} {g : Nat} {cv : Value} {t : Att} {m : List Int} (h : CSt w W g cv t m) : W.cell? ⟨w.heap.size, 0, none⟩ = some cv ∧ W.cell? ⟨w.heap.size, 1, none⟩ = some (.int .i64 t.quota) ∧ W.cell? ⟨w.heap.size, 2, none⟩ = some (.int .i64 t.last) := blk_threeA h.ta
theorem CSt.made {w W : World} {cv : Value} {t : Att} (h : BX w W cv t) (n : Nat) : CSt w (W.alloc (.cells (madeCells #[.int .i64 0] n) 3)) W.heap.size cv t (List.replicate n 0) :=
  ⟨h.bel.alloc h.bel.size _, h.ta.alloc _, by rw [← intsA_made]; exact Blk.new _ _ _, h.ta.lt⟩
theorem costE_at {t : Att} {l : List Int} {k : Nat} {s : Ast} {c : Int} (h : k < l.length) : costE t (l.drop k) k s c = if l.getD k 0 < 0 ∨ (nbA t : Int) ≤ l.getD k 0 then (0, 2) else if l.getD k 0 = s.last then (0, 8) else if s.bow.getD (l.getD k 0).toNat 0 = t.quota then (0, 9) else costE t (l.drop (k + 1)) (k + 1) (aftS s (l.getD k 0).toNat) (c + cAt t k (l.getD k 0).toNat) := by
  rw [drop_at h, costE]
set_option maxRecDepth 100000 in
set_option maxHeartbeats 4000000 in
theorem att_Cost (t : Att) (cv : Value) (l : List Int) (lv : Value) (w : World) (h : Sl 1 elRw w (· < w.heap.size) cv t.costs) (hl : Sl 1 elInt w (· < w.heap.size) lv l) :
    Calls Tryz.prog 12 #[atV cv t, lv] w fun e w' => e = .returned (.tuple #[.int .i64 (costS t l).1, .int .i64 (costS t l).2]) ∧ Below w.heap.size w w' := by
  obtain ⟨A, c, rfl, hc, hc2⟩ := h.shape
  obtain ⟨A2, c2, rfl, hc3, hc4⟩ := hl.shape
  have HX := Lib.hid (BX.new w (.slice A t.costs.length c) t)
  have kc := att_Check t _ _ (sl_lowA elRw_good h (low_allocA w (.cells #[.slice A t.costs.length c, .int .i64 t.quota, .int .i64 t.last] 31)))
  obtain ⟨y0, y1, y2⟩ := HX.out.cells
  clear y0 y1 y2
  unfold atV at kc ⊢
  unfold costS
  by_cases he : checkA t = 0
  case neg =>
    rw [if_pos he]
    obtain ⟨Z, hZ⟩ : ∃ z, z = checkA t := ⟨_, rfl⟩
    rw [← hZ] at kc he ⊢
    have KC := Lib.hid kc
    have gz := bneT he
    clear kc he hZ h hl
    go_enter Tryz.func12, Tryz.ntmps12
    go_wp2_with (go_at_call 36; refine (KC.out).mono ?_; rintro e w1 ⟨rfl, hb⟩; have HX1 := Lib.hid (HX.out.step hb); obtain ⟨y0, y1, y2⟩ := HX1.out.cells; clear hb)
    go_ret2
    exact ⟨rfl, HX1.out.bel⟩
  rw [if_neg (by rw [he]; decide)]
  rw [he] at kc
  obtain ⟨ht, hst⟩ := checkA_ok he
  by_cases hn : l.length = t.costs.length
  case neg =>
    rw [if_pos hn]
    have KC := Lib.hid kc
    have gz : ((l.length : Int) != (t.costs.length : Int)) = true := bneT (by omega)
    clear kc he hn h hl hst ht
    go_enter Tryz.func12, Tryz.ntmps12
    go_wp2_with (go_at_call 36; refine (KC.out).mono ?_; rintro e w1 ⟨rfl, hb⟩; have HX1 := Lib.hid (HX.out.step hb); obtain ⟨y0, y1, y2⟩ := HX1.out.cells; clear hb)
    go_ret2
    exact ⟨rfl, HX1.out.bel⟩
  rw [if_neg (by simp [hn])]
  obtain ⟨b9, o9, B9, cb9, rfl, hF9, t9, _⟩ := rw_at h (k := 0) (by have := ht.n1; omega)
  rw [Nat.add_zero] at t9
  have hF9' : b9 < w.heap.size := hF9
  have hb1 := ht.b1
  have hb6 := ht.b2
  have hn12 := ht.n2
  have q2 := ht.q2
  have HLR := Lib.hid (show nbA t = (t.costs.getD 0 []).length from rfl)
  obtain ⟨b, hb⟩ : ∃ b, b = nbA t := ⟨_, rfl⟩
  have T9b := Lib.hid (show w.cell? ⟨b9, o9, none⟩ = some (.slice B9 b cb9) by rw [hb]; exact t9)
  have HNB := Lib.hid hb
  obtain ⟨Z, hZ⟩ : ∃ z, z = costE t l 0 (startA t) 0 := ⟨_, rfl⟩
  rw [← hZ]
  obtain ⟨Z1, Z2⟩ := Z
  have HZ := Lib.hid (show (Z1, Z2) = costE t (l.drop 0) 0 ⟨List.replicate b 0, t.last⟩ 0 by rw [List.drop_zero, hZ, startA, hb])
  have HOK := Lib.hid (show OkA t ⟨List.replicate b 0, t.last⟩ by rw [hb]; exact start_ok ht)
  have HT := Lib.hid ht
  have HL := Lib.hid hl
  have HC := Lib.hid h
  have KC := Lib.hid kc
  have HNN := Lib.hid hn
  have gL : (0 : Int) < (t.costs.length : Int) := by have := ht.n1; omega
  have gz : ((l.length : Int) != (t.costs.length : Int)) = false := bneF (by omega)
  rw [← hb] at hb1 hb6
  have hmk := fun W => mk_ints b (by omega) W
  have hl12 : l.length ≤ 12 := by omega
  clear kc t9 hst ht hb HLR he h hl hZ hn
  dsimp only
  go_enter Tryz.func12, Tryz.ntmps12
  go_wp2_with (go_at_call 36; refine (KC.out).mono ?_; rintro e w1 ⟨rfl, hb⟩; have hx1 := HX.out.step hb; obtain ⟨y0, y1, y2⟩ := hx1.cells; have x0 := (hx1.bel.cell (p := ⟨b9, o9, none⟩) hF9').trans T9b.out; have glt := hx1.ta.lt; have HCS := Lib.hid (CSt.made hx1 b); clear hb hx1)
  go_loopw [8, 9, 33] (fun la su i wr => ∃ (k : Nat) (lz sz : Int) (m : List Int), k ≤ l.length ∧ i = .int .i64 k ∧ la = .int .i64 lz ∧ su = .int .i64 sz ∧ 0 ≤ sz ∧ sz ≤ 1048576 * k ∧ Hid ((Z1, Z2) = costE t (l.drop k) k ⟨m, lz⟩ sz) ∧ Hid (OkA t ⟨m, lz⟩) ∧ Hid (CSt w wr w1.heap.size (.slice (some ⟨b9, o9, none⟩) t.costs.length c) t m)) (fun _ _ i _ => l.length - (intOf i).toNat)
  case atStart => exact ⟨0, _, 0, _, Nat.zero_le _, rfl, rfl, rfl, by decide, by decide, HZ, HOK, HCS⟩
  case round =>
    clear HZ HOK HCS y0 y1 y2 x0
    obtain ⟨k, lz, sz, m, hk, rfl, rfl, rfl, hs0, hs1, hze, hok, hcs⟩ := hrel
    obtain ⟨y0, y1, y2⟩ := hcs.out.cells
    by_cases hlt : k < l.length
    · obtain ⟨b8, o8, rfl, hF8, t8⟩ := num_at HL.out hlt
      have x8 := (hcs.out.bel.cell (p := ⟨b8, o8 + k, none⟩) hF8).trans t8
      have hz := costE_at (t := t) (s := ⟨m, lz⟩) (c := sz) hlt
      rw [← hze.out, ← HNB.out] at hz
      dsimp only at hz
      have gk : (k : Int) < (l.length : Int) := by omega
      obtain ⟨j, hj⟩ : ∃ j, j = l.getD k 0 := ⟨_, rfl⟩
      rw [← hj] at hz x8
      clear t8 hj hze
      by_cases a1 : j < 0
      · rw [if_pos (.inl a1)] at hz
        injection hz with hz1 hz2
        have HZ1 := Lib.hid hz1
        have HZ2 := Lib.hid hz2
        have HB := Lib.hid hcs.out.bel
        clear hz1 hz2 hcs hok
        go_wp2
        go_ret2
        exact ⟨ret_iiA HZ1.out.symm HZ2.out.symm, HB.out⟩
      by_cases a2 : (b : Int) ≤ j
      · rw [if_pos (.inr a2)] at hz
        injection hz with hz1 hz2
        have HZ1 := Lib.hid hz1
        have HZ2 := Lib.hid hz2
        have HB := Lib.hid hcs.out.bel
        clear hz1 hz2 hcs hok
        go_wp2
        go_ret2
        exact ⟨ret_iiA HZ1.out.symm HZ2.out.symm, HB.out⟩
      rw [if_neg (by omega)] at hz
      by_cases a3 : j = lz
      · rw [if_pos a3] at hz
        injection hz with hz1 hz2
        have HZ1 := Lib.hid hz1
        have HZ2 := Lib.hid hz2
        have HB := Lib.hid hcs.out.bel
        have a3' : (j == lz) = true := by rw [a3]; simp
        clear hz1 hz2 hcs hok a3
        go_wp2
        go_ret2
        exact ⟨ret_iiA HZ1.out.symm HZ2.out.symm, HB.out⟩
      rw [if_neg a3] at hz
      have a3' : (j == lz) = false := beqF a3
      obtain ⟨jn, hjn⟩ : ∃ jn : Nat, j = (jn : Int) := ⟨j.toNat, by omega⟩
      subst hjn
      rw [Int.toNat_natCast] at hz
      have hjb : jn < b := by omega
      have hml : m.length = b := by rw [HNB.out]; exact hok.out.len
      have hjm : jn < m.length := by omega
      have c0 := hcs.out.row.cell jn
      have f0 := hcs.out.row.frozen jn
      rw [intsA_get hjm] at c0
      have hmb := hok.out.bd (m.getD jn 0) (by rw [List.getD_eq_getElem?_getD, List.getElem?_eq_getElem hjm]; exact List.getElem_mem hjm)
      have hmay : mayB t ⟨m, lz⟩ jn = (!((jn : Int) == lz) && decide (m.getD jn 0 < t.quota)) := rfl
      have haft : aftS ⟨m, lz⟩ jn = ⟨m.set jn (m.getD jn 0 + 1), jn⟩ := rfl
      rw [haft] at hz
      obtain ⟨x, hx⟩ : ∃ x, x = m.getD jn 0 := ⟨_, rfl⟩
      rw [← hx] at hz c0 hmb hmay haft
      have gj : (jn : Int) < (b : Int) := by omega
      have HMY := Lib.hid hmay
      have HAF := Lib.hid haft
      clear hmay haft hx a3
      by_cases a4 : x = t.quota
      · rw [if_pos a4] at hz
        injection hz with hz1 hz2
        have HZ1 := Lib.hid hz1
        have HZ2 := Lib.hid hz2
        have a4' : (x == t.quota) = true := by rw [a4]; simp
        have HB := Lib.hid (fun nq => Below.drewN_ hcs.out.bel nq)
        clear hz1 hz2 hcs hok a4 hmb hml
        go_upto_region 15 with fail
        go_quiet (fail)
        go_wp2
        go_ret2
        exact ⟨ret_iiA HZ1.out.symm HZ2.out.symm, HB.out _⟩
      rw [if_neg a4] at hz
      have a4' : (x == t.quota) = false := beqF a4
      obtain ⟨b7, o7, B7, cb7, hA7, hF7, t7, hsl7⟩ := rw_at HC.out (k := k) (by rw [← HNN.out]; exact hlt)
      simp only [Option.some.injEq, Addr.mk.injEq, and_true] at hA7
      obtain ⟨rfl, rfl⟩ := hA7
      have hrow : (t.costs.getD k []).length = b := by
        rw [HNB.out]
        exact HT.out.row _ (by rw [List.getD_eq_getElem?_getD, List.getElem?_eq_getElem (show k < t.costs.length by rw [← HNN.out]; exact hlt)]; exact List.getElem_mem _)
      obtain ⟨b6, o6, rfl, hF6, t6⟩ := num_at hsl7 (k := jn) (by rw [hrow]; exact hjb)
      have x7 := (hcs.out.bel.cell (p := ⟨b9, o9 + k, none⟩) hF7).trans t7
      have x6 := (hcs.out.bel.cell (p := ⟨b6, o6 + jn, none⟩) hF6).trans t6
      rw [hrow] at x7
      have hcc := HT.out.c k jn
      obtain ⟨C, hC⟩ : ∃ C, C = cAt t k jn := ⟨_, rfl⟩
      have x6' : wr.cell? ⟨b6, o6 + jn, none⟩ = some (.int .i64 C) := by rw [hC]; exact x6
      rw [← hC] at hcc hz
      have hput := (hcs.out.put jn (x + 1))
      have hoks := aft_ok hok.out (show jn < nbA t by rw [← HNB.out]; exact hjb) (by rw [HMY.out, a3', decide_eq_true (by omega)]; rfl)
      rw [HAF.out] at hoks
      have gkT : (k : Int) < (t.costs.length : Int) := by rw [← HNN.out]; exact gk
      have u0 : (wr.setCell ⟨w1.heap.size, jn, none⟩ (.int .i64 (x + 1))).cell? ⟨w.heap.size, 0, none⟩ = some (.slice (some ⟨b9, o9, none⟩) t.costs.length c) := hput.cells.1
      have u7 : (wr.setCell ⟨w1.heap.size, jn, none⟩ (.int .i64 (x + 1))).cell? ⟨b9, o9 + k, none⟩ = some (.slice (some ⟨b6, o6, none⟩) b cb7) := (hput.bel.cell (p := ⟨b9, o9 + k, none⟩) hF7).trans (by rw [← hrow]; exact t7)
      have u6 : (wr.setCell ⟨w1.heap.size, jn, none⟩ (.int .i64 (x + 1))).cell? ⟨b6, o6 + jn, none⟩ = some (.int .i64 C) := (hput.bel.cell (p := ⟨b6, o6 + jn, none⟩) hF6).trans (by rw [hC]; exact t6)
      have fx : IntKind.i64.wrap (x + 1) = x + 1 := IntWalk.i64_in _ (by omega)
      have fs : IntKind.i64.wrap (sz + C) = sz + C := IntWalk.i64_in _ (by omega)
      have HPUT := Lib.hid (fun nq => hput.step (Below.drewN_ (Below.refl _ _) nq))
      have HOKS := Lib.hid hoks
      have HZN := Lib.hid hz
      have U0 := Lib.hid u0
      have U7 := Lib.hid u7
      have U6 := Lib.hid u6
      have hlo : w.heap.size ≠ w1.heap.size := by omega
      have hlo9 : b9 ≠ w1.heap.size := by omega
      have hlo6 : b6 ≠ w1.heap.size := by have : b6 < w.heap.size := hF6; omega
      clear hput hoks hz u0 u7 u6 t6 t7 x6 hC hsl7 hrow hmb hml hcs hok a4 hF6 hF7
      go_upto_region 15 with fail
      go_quiet (fail)
      go_wp2
      go_roundw
      case rel => exact ⟨k + 1, jn, sz + C, _, by omega, by go_num, rfl, rfl, by omega, by push_cast; omega, HZN, HOKS, Lib.hid (HPUT.out _)⟩
      case measure => simp [intOf]; omega
    · obtain rfl : k = l.length := by omega
      have hz := hze.out
      rw [List.drop_length, costE] at hz
      injection hz with hz1 hz2
      have HZ1 := Lib.hid hz1
      have HZ2 := Lib.hid hz2
      have HB := Lib.hid hcs.out.bel
      clear hz1 hz2 hcs hok hze
      go_wp2
      go_ret2
      exact ⟨ret_iiA HZ1.out.symm HZ2.out.symm, HB.out⟩
end Go.Proofs.YtjchapoggmipbaaGreatDoor

namespace Go.Proofs.YtjchapoggmipbaaGreatDoor
open Go.RowKit

def KnownA (t : Att) (K : List Int) : Prop := ∀ i : Nat, i < K.length → K.getD i 0 = -2 ∨ K.getD i 0 = potP t (decS t (i : Int))
def UpK (K K' : List Int) : Prop := ∀ i : Nat, i < K.length → K.getD i 0 ≠ -2 → K'.getD i 0 = K.getD i 0
theorem UpK.refl (K : List Int) : UpK K K := fun _ _ _ => rfl
theorem UpK.trans {K K2 K3 : List Int} (h : UpK K K2) (h2 : UpK K2 K3) (hl : K2.length = K.length) : UpK K K3 := fun i hi hn => by
  have e := h i hi hn
  rw [← e]
  exact h2 i (by omega) (by rw [e]; exact hn)
theorem getD_set {K : List Int} {k i : Nat} {x : Int} (hk : k < K.length) : (K.set k x).getD i 0 = if k = i then x else K.getD i 0 := by
  by_cases h : k = i
  · subst h; simp [List.getD_eq_getElem?_getD, hk]
  · simp [List.getD_eq_getElem?_getD, h, List.getElem?_set_ne h]
theorem KnownA.set {t : Att} {K : List Int} {k : Nat} {x : Int} (h : KnownA t K) (hk : k < K.length) (hx : x = potP t (decS t (k : Int))) : KnownA t (K.set k x) := fun i hi => by
  rw [getD_set hk]
  by_cases e : k = i
  · subst e; rw [if_pos rfl]; exact .inr hx
  · rw [if_neg e]; exact h i (by simpa using hi)
theorem UpK.set {t : Att} {K : List Int} {k : Nat} {x : Int} (h : KnownA t K) (hk : k < K.length) (hx : x = potP t (decS t (k : Int))) : UpK K (K.set k x) := fun i hi hn => by
  rw [getD_set hk]
  by_cases e : k = i
  · subst e
    rw [if_pos rfl]
    rcases h k hk with h1 | h1
    · exact absurd h1 hn
    · rw [h1, hx]
  · rw [if_neg e]
def FK (w : World) (kb : Nat) : Nat → Prop := fun b => b < w.heap.size ∧ b ≠ kb
/-- What solve hands on. -/
def PostK (t : Att) (kb : Nat) (K : List Int) (w : World) (p : Int) (k : Nat) (e : Ending) (w' : World) : Prop :=
  e = .returned (.int .i64 p) ∧ ∃ K', Only kb w w' ∧ Blk w' kb 2 (intsA K') ∧ K'.length = K.length ∧ KnownA t K' ∧ UpK K K' ∧ K'.getD k 0 = p
def SolveA (t : Att) (m : Nat) : Prop := ∀ (s : Ast), OkA t s → ((t.costs.length : Int) - overS s).toNat = m → ∀ (cv sv : Value) (kb : Nat) (K : List Int) (w : World), Sl 1 elRw w (FK w kb) cv t.costs → Sl 1 elInt w (FK w kb) sv s.bow →
  Blk w kb 2 (intsA K) → (K.length : Int) = cntA t → KnownA t K → Calls Tryz.prog 31 #[atV cv t, asV sv s, .slice (some ⟨kb, 0, none⟩) K.length K.length] w (PostK t kb K w (potP t s) (idxS t s).toNat)
/-- While solve runs. -/
structure SVI (w W : World) (kb : Nat) (t : Att) (cv : Value) (s : Ast) (sv : Value) (K K2 : List Int) : Prop where
  on : Only kb w W
  ta : Blk W w.heap.size 31 #[cv, .int .i64 t.quota, .int .i64 t.last]
  st : Blk W (w.heap.size + 1) 91 #[sv, .int .i64 s.last]
  kn : Blk W kb 2 (intsA K2)
  kl : kb < w.heap.size
  cs : Sl 1 elRw w (FK w kb) cv t.costs
  bs : Sl 1 elInt w (FK w kb) sv s.bow
  len : K2.length = K.length
  kno : KnownA t K2
  up : UpK K K2
section
variable {w W W' : World} {kb : Nat} {t : Att} {cv sv : Value} {s : Ast} {K K2 K3 : List Int}
theorem SVI.step (h : SVI w W kb t cv s sv K K2) (hb : Below W.heap.size W W') : SVI w W' kb t cv s sv K K2 :=
  ⟨h.on.trans (Only.of_below hb), h.ta.below hb h.ta.lt, h.st.below hb h.st.lt, h.kn.below hb h.kn.lt, h.kl, h.cs, h.bs, h.len, h.kno, h.up⟩
theorem Blk.onlyA {g g2 : Nat} {T : TypeId} {c : Array Value} (h : Blk W g T c) (ho : Only g2 W W') (hne : g ≠ g2) : Blk W' g T c := (ho.block g h.lt fun e => hne (Option.some.inj e)).trans h
theorem SVI.into (h : SVI w W kb t cv s sv K K2) (ho : Only kb W W') (hk : Blk W' kb 2 (intsA K3)) (hl : K3.length = K2.length) (hkn : KnownA t K3) (hu : UpK K2 K3) : SVI w W' kb t cv s sv K K3 :=
  have hz := h.kl
  ⟨h.on.trans ho, h.ta.onlyA ho (by omega), h.st.onlyA ho (by omega), hk, h.kl, h.cs, h.bs, hl.trans h.len, hkn, h.up.trans hu h.len⟩
theorem SVI.cells (h : SVI w W kb t cv s sv K K2) : (W.cell? ⟨w.heap.size, 0, none⟩ = some cv ∧ W.cell? ⟨w.heap.size, 1, none⟩ = some (.int .i64 t.quota) ∧ W.cell? ⟨w.heap.size, 2, none⟩ = some (.int .i64 t.last)) ∧ W.cell? ⟨w.heap.size + 1, 0, none⟩ = some sv ∧ W.cell? ⟨w.heap.size + 1, 1, none⟩ = some (.int .i64 s.last) := ⟨blk_threeA h.ta, blk_twoA h.st⟩
theorem SVI.same (h : SVI w W kb t cv s sv K K2) : Same (FK w kb) w W := h.on.same fun b hb => hb
theorem SVI.cW (h : SVI w W kb t cv s sv K K2) : Sl 1 elRw W (FK W kb) cv t.costs := h.cs.keep elRw_good h.same fun b hb => ⟨Nat.lt_of_lt_of_le hb.1 h.on.size, hb.2⟩
theorem SVI.bW (h : SVI w W kb t cv s sv K K2) : Sl 1 elInt W (· < W.heap.size) sv s.bow := h.bs.keep elInt_good h.same fun b hb => Nat.lt_of_lt_of_le hb.1 h.on.size
theorem SVI.cell (h : SVI w W kb t cv s sv K K2) {p : Addr} (hp : FK w kb p.block) : W.cell? p = w.cell? p := h.same.cell hp
theorem SVI.new (hcs : Sl 1 elRw w (FK w kb) cv t.costs) (hbs : Sl 1 elInt w (FK w kb) sv s.bow) (hk : Blk w kb 2 (intsA K)) (hkn : KnownA t K) :
    SVI w ((w.alloc (.cells #[cv, .int .i64 t.quota, .int .i64 t.last] 31)).alloc (.cells #[sv, .int .i64 s.last] 91)) kb t cv s sv K K := by
  have hm := MB.as w sv s cv t
  exact ⟨Only.of_below hm.bel, hm.ta, hm.st, (hk.alloc _).alloc _, hk.lt, hcs, hbs, rfl, hkn, UpK.refl K⟩
end
theorem minJ_skip {t : Att} {g : Ast → Int} {s : Ast} {j : Nat} (h : mayB t s j = false) : minJ t g s (j + 1) = minJ t g s j := by
  rw [minJ, if_neg (fun k => by rw [h] at k; exact absurd k.1 (by decide))]
theorem minJ_none {t : Att} {g : Ast → Int} {s : Ast} {j : Nat} (h : g (aftS s j) = -1) : minJ t g s (j + 1) = minJ t g s j := by
  rw [minJ, if_neg (fun k => k.2.1 h)]
theorem minJ_take {t : Att} {g : Ast → Int} {s : Ast} {j : Nat} (h : mayB t s j = true) (h2 : g (aftS s j) ≠ -1) (h3 : minJ t g s j = -1 ∨ cAt t (overS s).toNat j + g (aftS s j) < minJ t g s j) : minJ t g s (j + 1) = cAt t (overS s).toNat j + g (aftS s j) := by
  rw [minJ, if_pos ⟨h, h2, h3⟩]
theorem minJ_leave {t : Att} {g : Ast → Int} {s : Ast} {j : Nat} (h3 : ¬ (minJ t g s j = -1 ∨ cAt t (overS s).toNat j + g (aftS s j) < minJ t g s j)) : minJ t g s (j + 1) = minJ t g s j := by
  rw [minJ, if_neg (fun k => h3 k.2.2)]
end Go.Proofs.YtjchapoggmipbaaGreatDoor

namespace Go.Proofs.YtjchapoggmipbaaGreatDoor
open Go.RowKit

theorem minJ_bdA {t : Att} (h : OkT46 t) {s : Ast} (ho : OkA t s) : ∀ k, k ≤ nbA t → -1 ≤ minJ t (potP t) s k ∧ minJ t (potP t) s k ≤ 13631488
  | 0, _ => by simp [minJ]
  | k + 1, hk => by
    have ih := minJ_bdA h ho k (by omega)
    have hc := h.c (overS s).toNat k
    unfold minJ
    by_cases hm : mayB t s k = true
    · have h2 := pot_bd h (aft_ok ho (by omega) hm)
      split <;> omega
    · rw [if_neg (fun h => hm h.1)]
      exact ih
set_option maxRecDepth 100000 in
set_option maxHeartbeats 4000000 in
theorem att_solve_at (t : Att) (ht : OkT46 t) (m : Nat) (ih : ∀ k, m = k + 1 → SolveA t k) : SolveA t m := by
  intro s hs hm cv sv kb K w hcs hbs hk hN hkn
  obtain ⟨A, c, rfl, hc, hc2⟩ := hcs.shape
  obtain ⟨A2, c2, rfl, hc3, hc4⟩ := hbs.shape
  have hq : 0 ≤ t.quota := by have := ht.q1; omega
  have hib := idxS_bd hq hs
  have hdi := dec_idxS hq hs
  obtain ⟨k, hkk⟩ : ∃ k : Nat, idxS t s = (k : Int) := ⟨(idxS t s).toNat, by omega⟩
  have hpb := pot_bd ht hs
  have hov : 0 ≤ overS s := ovF_nonneg fun x hx => (hs.bd x hx).1
  obtain ⟨i, hi⟩ : ∃ i : Nat, overS s = (i : Int) := ⟨(overS s).toNat, by omega⟩
  have hi72 : overS s ≤ 72 := by
    have h1 := (OkA.bow ht hs).sum s.bow.length
    rw [List.take_length] at h1
    exact h1.2
  rw [hkk] at hib hdi
  rw [hkk, Int.toNat_natCast]
  have hkl : k < K.length := by omega
  have HNB := Lib.hid hs.len
  have ht12 := ht.n2
  have hb6 := ht.b2
  have KX := Lib.hid (fun (W : World) (K2 : List Int) (h : SVI w W kb t (.slice A t.costs.length c) s (.slice A2 s.bow.length c2) K K2) => att_index t (.slice A t.costs.length c) s (.slice A2 s.bow.length c2) W ht h.bW hs)
  have KO := Lib.hid (fun (W : World) (K2 : List Int) (h : SVI w W kb t (.slice A t.costs.length c) s (.slice A2 s.bow.length c2) K K2) => att_over s (.slice A2 s.bow.length c2) W h.bW (OkA.bow ht hs))
  have KM := Lib.hid (fun (W : World) (K2 : List Int) (h : SVI w W kb t (.slice A t.costs.length c) s (.slice A2 s.bow.length c2) K K2) (j : Nat) (hj : j < s.bow.length) => att_may t (.slice A t.costs.length c) s (.slice A2 s.bow.length c2) j W h.bW hj)
  have KF := Lib.hid (fun (W : World) (K2 : List Int) (h : SVI w W kb t (.slice A t.costs.length c) s (.slice A2 s.bow.length c2) K K2) (j : Nat) (hj : j < s.bow.length) => att_after s (.slice A2 s.bow.length c2) j W h.bW hj (OkA.bow ht hs))
  have HI := Lib.hid (SVI.new hcs hbs hk hkn)
  have c0 := hk.cell k
  have f0 := hk.frozen k
  rw [intsA_get hkl] at c0
  unfold asV atV
  unfold asV atV at KX KM
  unfold asV at KO KF
  rw [hkk] at KX
  rw [hi] at KO
  obtain ⟨v, hv⟩ : ∃ v, v = K.getD k 0 := ⟨_, rfl⟩
  rw [← hv] at c0
  have hkv := hkn k hkl
  rw [hdi, ← hv] at hkv
  obtain ⟨P, hP⟩ : ∃ P, P = potP t s := ⟨_, rfl⟩
  rw [← hP] at hkv hpb ⊢
  have HP := Lib.hid hP
  have HV := Lib.hid hv
  have HKK := Lib.hid hkk
  have HII := Lib.hid hi
  have HDI := Lib.hid hdi
  have HS := Lib.hid hs
  have HKN := Lib.hid hkn
  have HT := Lib.hid ht
  have HIH := Lib.hid ih
  have HM := Lib.hid hm
  have HNN := Lib.hid hN
  have gk : (k : Int) < (K.length : Int) := by omega
  have hkbl := hk.lt
  have C0 := Lib.hid c0
  clear hcs hbs hk hkn hs ht hN hm ih hdi hi hkk hib hP hv hq c0 hov f0
  by_cases hv2 : v = -2
  case neg =>
    have hvb : (v != -2) = true := by simp [hv2]
    obtain rfl : v = P := by omega
    have HVN := Lib.hid hv2
    clear hv2 hkv
    go_enter Tryz.func31, Tryz.ntmps31
    go_wp2_with (go_at_call 33; refine (KX.out _ _ HI.out).mono ?_; rintro e w1 ⟨rfl, hb⟩; have hi1 := HI.out.step hb; have c1 := hi1.kn.cell k; rw [intsA_get hkl, ← HV.out] at c1; have HI1 := Lib.hid hi1; clear hi1 hb)
    go_ret
    exact ⟨rfl, K, HI1.out.on, HI1.out.kn, rfl, HKN.out, UpK.refl K, HV.out.symm⟩
  subst hv2
  have hvb : ((-2 : Int) != -2) = false := rfl
  clear hkv
  by_cases hlt : i < t.costs.length
  case neg =>
    have hP2 : P = if ((i : Int) == (t.costs.length : Int)) = true then 0 else -1 := by
      rw [HP.out]
      by_cases e : (i : Int) = t.costs.length
      · rw [if_pos (by simpa using e), pot_end (by rw [HII.out, e])]
      · rw [if_neg (by simpa using e), pot_past (by rw [HII.out]; omega)]
    have c8 : decide (i < t.costs.length) = false := by simpa using hlt
    have c9 : decide ((i : Int) < (t.costs.length : Int)) = false := by simp; omega
    clear hlt
    cases e1 : ((i : Int) == (t.costs.length : Int))
    · rw [e1, if_neg (by decide)] at hP2
      obtain rfl : P = -1 := hP2
      go_enter Tryz.func31, Tryz.ntmps31
      go_wp2_with (first
      | (go_at_call 33; refine (KX.out _ _ HI.out).mono ?_; rintro e w1 ⟨rfl, hb⟩; have hi1 := HI.out.step hb; have c1 := hi1.kn.cell k; rw [intsA_get hkl, ← HV.out] at c1; obtain ⟨⟨y0, y1, y2⟩, z0, z1⟩ := hi1.cells; have HI1 := Lib.hid hi1; clear hi1 hb)
      | (go_at_call 64; refine (KO.out _ _ HI1.out).mono ?_; rintro e w2 ⟨rfl, hb⟩; clear c1 y0 y1 y2 z0 z1; have hi2 := HI1.out.step hb; obtain ⟨⟨y0, y1, y2⟩, z0, z1⟩ := hi2.cells; have HI2 := Lib.hid hi2; clear hi2 hb HI1))
      go_loopw [8, 10] (fun b j wr => ∃ K2 : List Int, j = .int .i64 0 ∧ b = .int .i64 (-1) ∧ Hid (SVI w wr kb t (.slice A t.costs.length c) s (.slice A2 s.bow.length c2) K K2)) (fun _ _ _ => 0)
      case atStart => exact ⟨K, rfl, rfl, HI2⟩
      case round =>
          clear HI2 y0 y1 y2 z0 z1
          obtain ⟨K2, rfl, rfl, hsv⟩ := hrel
          obtain ⟨⟨y0, y1, y2⟩, z0, z1⟩ := hsv.out.cells
          have hkl2 : k < K2.length := by have := hsv.out.len; omega
          have c1 := hsv.out.kn.cell k
          have f1 := hsv.out.kn.frozen k
          rw [intsA_get hkl2] at c1
          obtain ⟨v9, hv9⟩ : ∃ v9, v9 = K2.getD k 0 := ⟨_, rfl⟩
          rw [← hv9] at c1
          have hx : (-1) = potP t (decS t (k : Int)) := by rw [HDI.out]; exact HP.out
          have hfin := hsv.out.into (((Only.refl kb wr).setCell (p := ⟨kb, k, none⟩) (.inl rfl) (.int .i64 (-1)))) (by rw [← intsA_set]; exact hsv.out.kn.set_ k (.int .i64 (-1))) (List.length_set) (hsv.out.kno.set hkl2 hx) (UpK.set hsv.out.kno hkl2 hx)
          have HFIN := Lib.hid hfin
          have HK2 := Lib.hid hkl2
          clear hfin hx hv9 hsv
          go_wp2
          go_ret
          exact ⟨rfl, _, HFIN.out.on, HFIN.out.kn, HFIN.out.len, HFIN.out.kno, HFIN.out.up, by rw [getD_set HK2.out, if_pos rfl]⟩

    · rw [e1, if_pos rfl] at hP2
      obtain rfl : P = 0 := hP2
      go_enter Tryz.func31, Tryz.ntmps31
      go_wp2_with (first
      | (go_at_call 33; refine (KX.out _ _ HI.out).mono ?_; rintro e w1 ⟨rfl, hb⟩; have hi1 := HI.out.step hb; have c1 := hi1.kn.cell k; rw [intsA_get hkl, ← HV.out] at c1; obtain ⟨⟨y0, y1, y2⟩, z0, z1⟩ := hi1.cells; have HI1 := Lib.hid hi1; clear hi1 hb)
      | (go_at_call 64; refine (KO.out _ _ HI1.out).mono ?_; rintro e w2 ⟨rfl, hb⟩; clear c1 y0 y1 y2 z0 z1; have hi2 := HI1.out.step hb; obtain ⟨⟨y0, y1, y2⟩, z0, z1⟩ := hi2.cells; have HI2 := Lib.hid hi2; clear hi2 hb HI1))
      go_loopw [8, 10] (fun b j wr => ∃ K2 : List Int, j = .int .i64 0 ∧ b = .int .i64 0 ∧ Hid (SVI w wr kb t (.slice A t.costs.length c) s (.slice A2 s.bow.length c2) K K2)) (fun _ _ _ => 0)
      case atStart => exact ⟨K, rfl, rfl, HI2⟩
      case round =>
          clear HI2 y0 y1 y2 z0 z1
          obtain ⟨K2, rfl, rfl, hsv⟩ := hrel
          obtain ⟨⟨y0, y1, y2⟩, z0, z1⟩ := hsv.out.cells
          have hkl2 : k < K2.length := by have := hsv.out.len; omega
          have c1 := hsv.out.kn.cell k
          have f1 := hsv.out.kn.frozen k
          rw [intsA_get hkl2] at c1
          obtain ⟨v9, hv9⟩ : ∃ v9, v9 = K2.getD k 0 := ⟨_, rfl⟩
          rw [← hv9] at c1
          have hx : 0 = potP t (decS t (k : Int)) := by rw [HDI.out]; exact HP.out
          have hfin := hsv.out.into (((Only.refl kb wr).setCell (p := ⟨kb, k, none⟩) (.inl rfl) (.int .i64 0))) (by rw [← intsA_set]; exact hsv.out.kn.set_ k (.int .i64 0)) (List.length_set) (hsv.out.kno.set hkl2 hx) (UpK.set hsv.out.kno hkl2 hx)
          have HFIN := Lib.hid hfin
          have HK2 := Lib.hid hkl2
          clear hfin hx hv9 hsv
          go_wp2
          go_ret
          exact ⟨rfl, _, HFIN.out.on, HFIN.out.kn, HFIN.out.len, HFIN.out.kno, HFIN.out.up, by rw [getD_set HK2.out, if_pos rfl]⟩

  have e1 : ((i : Int) == (t.costs.length : Int)) = false := by simp; omega
  have gi : (i : Int) < (t.costs.length : Int) := by omega
  have hrun := pot_run HS.out (show overS s < t.costs.length by rw [HII.out]; exact gi)
  obtain ⟨b9, o9, B9, cb9, rfl, hF9, t9, hsl9⟩ := rw_at HI.out.cs (k := i) hlt
  have hrow : (t.costs.getD i []).length = s.bow.length := by
    rw [HNB.out]
    exact HT.out.row _ (by rw [List.getD_eq_getElem?_getD, List.getElem?_eq_getElem hlt]; exact List.getElem_mem hlt)
  have T9 := Lib.hid t9
  have HSL9 := Lib.hid hsl9
  have HROW := Lib.hid hrow
  have HRUN := Lib.hid (show P = minJ t (potP t) s s.bow.length by rw [HP.out, hrun, HNB.out])
  clear hrun t9 hsl9 hrow hlt
  have ghi : (i : Int) < (t.costs.length : Int) := gi
  go_enter Tryz.func31, Tryz.ntmps31
  go_wp2_with (first
      | (go_at_call 33; refine (KX.out _ _ HI.out).mono ?_; rintro e w1 ⟨rfl, hb⟩; have hi1 := HI.out.step hb; have c1 := hi1.kn.cell k; rw [intsA_get hkl, ← HV.out] at c1; obtain ⟨⟨y0, y1, y2⟩, z0, z1⟩ := hi1.cells; have HI1 := Lib.hid hi1; clear hi1 hb)
      | (go_at_call 64; refine (KO.out _ _ HI1.out).mono ?_; rintro e w2 ⟨rfl, hb⟩; clear c1 y0 y1 y2 z0 z1; have hi2 := HI1.out.step hb; obtain ⟨⟨y0, y1, y2⟩, z0, z1⟩ := hi2.cells; have HI2 := Lib.hid hi2; clear hi2 hb HI1))
  go_loopw [8, 10] (fun b j wr => ∃ (jn : Nat) (M : Int) (K2 : List Int), jn ≤ s.bow.length ∧ j = .int .i64 jn ∧ b = .int .i64 M ∧ -1 ≤ M ∧ M ≤ 13631488 ∧ Hid (M = minJ t (potP t) s jn) ∧ Hid (SVI w wr kb t (.slice (some ⟨b9, o9, none⟩) t.costs.length c) s (.slice A2 s.bow.length c2) K K2)) (fun _ j _ => s.bow.length - (intOf j).toNat)
  case atStart => exact ⟨0, -1, K, Nat.zero_le _, rfl, rfl, by decide, by decide, Lib.hid rfl, HI2⟩
  case round =>
          clear HI2 y0 y1 y2 z0 z1
          obtain ⟨jn, M, K2, hjn, rfl, rfl, hM0, hM1, hMM, hsv⟩ := hrel
          obtain ⟨⟨y0, y1, y2⟩, z0, z1⟩ := hsv.out.cells
          by_cases hj : jn < s.bow.length
          case neg =>
            obtain rfl : jn = s.bow.length := by omega
            obtain rfl : M = P := hMM.out.trans HRUN.out.symm
            have hkl2 : k < K2.length := by have := hsv.out.len; omega
            have c1 := hsv.out.kn.cell k
            have f1 := hsv.out.kn.frozen k
            rw [intsA_get hkl2] at c1
            obtain ⟨v9, hv9⟩ : ∃ v9, v9 = K2.getD k 0 := ⟨_, rfl⟩
            rw [← hv9] at c1
            have hx : M = potP t (decS t (k : Int)) := by rw [HDI.out]; exact HP.out
            have hfin := hsv.out.into (((Only.refl kb wr).setCell (p := ⟨kb, k, none⟩) (.inl rfl) (.int .i64 M))) (by rw [← intsA_set]; exact hsv.out.kn.set_ k (.int .i64 M)) (List.length_set) (hsv.out.kno.set hkl2 hx) (UpK.set hsv.out.kno hkl2 hx)
            have HFIN := Lib.hid hfin
            have HK2 := Lib.hid hkl2
            clear hfin hx hv9 hsv
            go_wp2
            go_ret
            exact ⟨rfl, _, HFIN.out.on, HFIN.out.kn, HFIN.out.len, HFIN.out.kno, HFIN.out.up, by rw [getD_set HK2.out, if_pos rfl]⟩
          have hjb : jn < nbA t := by rw [← HNB.out]; exact hj
          have kmj := fun W K2 h => KM.out W K2 h jn hj
          have kfj := fun W K2 h => KF.out W K2 h jn hj
          have HJB := Lib.hid hjb
          obtain ⟨mb, hmb⟩ : ∃ mb, mb = mayB t s jn := ⟨_, rfl⟩
          rw [← hmb] at kmj
          have KMJ := Lib.hid kmj
          have gj : (jn : Int) < (s.bow.length : Int) := by omega
          have HMB := Lib.hid hmb
          have bdn := minJ_bdA HT.out HS.out (jn + 1) hjb
          have HBDN := Lib.hid bdn
          clear kmj hmb hjb bdn
          cases mb
          · go_wp2_with (go_at_call 34; refine (KMJ.out _ _ hsv.out).mono ?_; rintro e w4 ⟨rfl, hb⟩; clear y0 y1 y2 z0 z1; have HI4 := Lib.hid (hsv.out.step hb); clear hb)
            go_roundw
            case rel => exact ⟨jn + 1, M, _, by omega, by go_num, rfl, hM0, hM1, Lib.hid (by rw [minJ_skip HMB.out.symm]; exact hMM.out), HI4⟩
            case measure => simp [intOf]; omega
          · have hok := aft_ok HS.out HJB.out HMB.out.symm
            have hpa := pot_bd HT.out hok
            have hcc := HT.out.c i jn
            have hst := HIH.out ((t.costs.length : Int) - overS (aftS s jn)).toNat (by have := HM.out; have := aft_over HS.out HJB.out; have := HII.out; omega)
            have kfj2 : ∀ W K2, SVI w W kb t (.slice (some ⟨b9, o9, none⟩) t.costs.length c) s (.slice A2 s.bow.length c2) K K2 → Calls Tryz.prog 35 #[.agg #[.slice A2 s.bow.length c2, .int .i64 s.last], .int .i64 (jn : Int)] W fun e w' => ∃ A c, e = .returned (.agg #[.slice A s.bow.length c, .int .i64 (jn : Int)]) ∧ Sl 1 elInt w' (fun b => W.heap.size ≤ b ∧ b < w'.heap.size) (.slice A s.bow.length c) (aftS s jn).bow ∧ Below W.heap.size W w' := fun W K2 h => by
              refine (kfj W K2 h).mono ?_
              rintro e w' ⟨A, c, he, hs, hb⟩
              have e2 : (aftS s jn).bow.length = s.bow.length := List.length_set
              rw [e2] at he hs
              exact ⟨A, c, he, hs, hb⟩
            have ksj : ∀ W W2 K2 A5 c5, SVI w W kb t (.slice (some ⟨b9, o9, none⟩) t.costs.length c) s (.slice A2 s.bow.length c2) K K2 → SVI w W2 kb t (.slice (some ⟨b9, o9, none⟩) t.costs.length c) s (.slice A2 s.bow.length c2) K K2 → Sl 1 elInt W2 (fun b => W.heap.size ≤ b ∧ b < W2.heap.size) (.slice A5 s.bow.length c5) (aftS s jn).bow → Calls Tryz.prog 31 #[.agg #[.slice (some ⟨b9, o9, none⟩) t.costs.length c, .int .i64 t.quota, .int .i64 t.last], .agg #[.slice A5 s.bow.length c5, .int .i64 (jn : Int)], .slice (some ⟨kb, 0, none⟩) K.length K.length] W2 (PostK t kb K2 W2 (potP t (aftS s jn)) (idxS t (aftS s jn)).toNat) := fun W W2 K2 A5 c5 h h2 hs => by
              have hh := hst (aftS s jn) hok rfl (.slice (some ⟨b9, o9, none⟩) t.costs.length c) (.slice A5 s.bow.length c5) kb K2 W2 h2.cW (hs.keep elInt_good (Same.refl _ _) fun b hb => ⟨hb.2, by have := h.kl; have := h.on.size; omega⟩) h2.kn (by rw [h2.len]; exact HNN.out) h2.kno
              rw [h2.len] at hh
              exact hh
            obtain ⟨R, hR⟩ : ∃ R, R = potP t (aftS s jn) := ⟨_, rfl⟩
            rw [← hR] at hpa ksj
            obtain ⟨b8, o8, rfl, hF8, t8⟩ := num_at HSL9.out (k := jn) (by rw [HROW.out]; exact hj)
            obtain ⟨C, hC⟩ : ∃ C, C = cAt t i jn := ⟨_, rfl⟩
            have t8' : w.cell? ⟨b8, o8 + jn, none⟩ = some (.int .i64 C) := by rw [hC]; exact t8
            rw [← hC] at hcc
            have T8 := Lib.hid t8'
            have HF8 := Lib.hid hF8
            obtain ⟨n9, hn9⟩ : ∃ n, n = (t.costs.getD i []).length := ⟨_, rfl⟩
            have T9b := T9
            rw [← hn9] at T9b
            have gj9 : (jn : Int) < (n9 : Int) := by rw [hn9, HROW.out]; exact gj
            have KFJ := Lib.hid kfj2
            have KSJ := Lib.hid ksj
            have HR := Lib.hid hR
            have HC := Lib.hid (show C = cAt t (overS s).toNat jn by rw [HII.out, Int.toNat_natCast]; exact hC)
            clear T9 kfj kfj2 ksj hR hC t8 t8' hF8 hst hok hn9
            have T9 := T9b
            clear T9b
            have fw : IntKind.i64.wrap (C + R) = C + R := IntWalk.i64_in _ (by omega)
            by_cases hr1 : R = -1
            · subst hr1
              go_upto_region 11 with (go_at_call 34; refine (KMJ.out _ _ hsv.out).mono ?_; rintro e w4 ⟨rfl, hb⟩; clear y0 y1 y2 z0 z1; have HI4 := Lib.hid ((hsv.out.step hb).step (Below.drew (Below.refl _ _))); clear hb)
              obtain ⟨⟨y0, y1, y2⟩, z0, z1⟩ := HI4.out.cells
              have y0 : w4.cell? ⟨w.heap.size, 0, none⟩ = some (.slice (some ⟨b9, o9, none⟩) t.costs.length c) := y0
              have y1 : w4.cell? ⟨w.heap.size, 1, none⟩ = some (.int .i64 t.quota) := y1
              have y2 : w4.cell? ⟨w.heap.size, 2, none⟩ = some (.int .i64 t.last) := y2
              have z0 : w4.cell? ⟨w.heap.size + 1, 0, none⟩ = some (.slice A2 s.bow.length c2) := z0
              have z1 : w4.cell? ⟨w.heap.size + 1, 1, none⟩ = some (.int .i64 s.last) := z1
              go_region_held3 (fun w' => w'.cell? ⟨w.heap.size, 0, none⟩ = some (.slice (some ⟨b9, o9, none⟩) t.costs.length c) ∧ w'.cell? ⟨w.heap.size, 1, none⟩ = some (.int .i64 t.quota) ∧ w'.cell? ⟨w.heap.size, 2, none⟩ = some (.int .i64 t.last) ∧ w'.cell? ⟨w.heap.size + 1, 0, none⟩ = some (.slice A2 s.bow.length c2) ∧ w'.cell? ⟨w.heap.size + 1, 1, none⟩ = some (.int .i64 s.last)) (first | exact ⟨y0, y1, y2, z0, z1⟩ | go_keep) (first
                | (go_at_call 35; refine (KFJ.out _ _ HI4.out).mono ?_; rintro e w5 ⟨A5, c5, rfl, hs5, hb⟩; clear y0 y1 y2 z0 z1; have HI5 := Lib.hid (HI4.out.step hb); have HS5 := Lib.hid hs5; obtain ⟨⟨y0, y1, y2⟩, z0, z1⟩ := HI5.out.cells; clear hb hs5)
                | (go_at_call 31; refine (KSJ.out _ _ _ _ _ HI4.out HI5.out HS5.out).mono ?_; rintro e w6 ⟨rfl, K3, ho6, hk6, hl6, hkn6, hu6, _⟩; clear y0 y1 y2 z0 z1; have hi6 := HI5.out.into ho6 hk6 hl6 hkn6 hu6; obtain ⟨⟨y0, y1, y2⟩, z0, z1⟩ := hi6.cells; have x0 := (hi6.cell (p := ⟨b9, o9 + i, none⟩) hF9).trans T9.out; have x1 := (hi6.cell (p := ⟨b8, o8 + jn, none⟩) HF8.out).trans T8.out; have HI6 := Lib.hid hi6; clear ho6 hk6 hl6 hkn6 hu6 hi6))
              go_wp2
              go_roundw
              case rel => exact ⟨jn + 1, M, _, by omega, by go_num, rfl, hM0, hM1, Lib.hid (by rw [minJ_none HR.out.symm]; exact hMM.out), HI6⟩
              case measure => simp [intOf]; omega
            have hr2 : (R != -1) = true := by simp [hr1]
            by_cases hm1 : M = -1
            · subst hm1
              go_upto_region 11 with (go_at_call 34; refine (KMJ.out _ _ hsv.out).mono ?_; rintro e w4 ⟨rfl, hb⟩; clear y0 y1 y2 z0 z1; have HI4 := Lib.hid ((hsv.out.step hb).step (Below.drew (Below.refl _ _))); clear hb)
              obtain ⟨⟨y0, y1, y2⟩, z0, z1⟩ := HI4.out.cells
              have y0 : w4.cell? ⟨w.heap.size, 0, none⟩ = some (.slice (some ⟨b9, o9, none⟩) t.costs.length c) := y0
              have y1 : w4.cell? ⟨w.heap.size, 1, none⟩ = some (.int .i64 t.quota) := y1
              have y2 : w4.cell? ⟨w.heap.size, 2, none⟩ = some (.int .i64 t.last) := y2
              have z0 : w4.cell? ⟨w.heap.size + 1, 0, none⟩ = some (.slice A2 s.bow.length c2) := z0
              have z1 : w4.cell? ⟨w.heap.size + 1, 1, none⟩ = some (.int .i64 s.last) := z1
              go_region_held3 (fun w' => w'.cell? ⟨w.heap.size, 0, none⟩ = some (.slice (some ⟨b9, o9, none⟩) t.costs.length c) ∧ w'.cell? ⟨w.heap.size, 1, none⟩ = some (.int .i64 t.quota) ∧ w'.cell? ⟨w.heap.size, 2, none⟩ = some (.int .i64 t.last) ∧ w'.cell? ⟨w.heap.size + 1, 0, none⟩ = some (.slice A2 s.bow.length c2) ∧ w'.cell? ⟨w.heap.size + 1, 1, none⟩ = some (.int .i64 s.last)) (first | exact ⟨y0, y1, y2, z0, z1⟩ | go_keep) (first
                | (go_at_call 35; refine (KFJ.out _ _ HI4.out).mono ?_; rintro e w5 ⟨A5, c5, rfl, hs5, hb⟩; clear y0 y1 y2 z0 z1; have HI5 := Lib.hid (HI4.out.step hb); have HS5 := Lib.hid hs5; obtain ⟨⟨y0, y1, y2⟩, z0, z1⟩ := HI5.out.cells; clear hb hs5)
                | (go_at_call 31; refine (KSJ.out _ _ _ _ _ HI4.out HI5.out HS5.out).mono ?_; rintro e w6 ⟨rfl, K3, ho6, hk6, hl6, hkn6, hu6, _⟩; clear y0 y1 y2 z0 z1; have hi6 := HI5.out.into ho6 hk6 hl6 hkn6 hu6; obtain ⟨⟨y0, y1, y2⟩, z0, z1⟩ := hi6.cells; have x0 := (hi6.cell (p := ⟨b9, o9 + i, none⟩) hF9).trans T9.out; have x1 := (hi6.cell (p := ⟨b8, o8 + jn, none⟩) HF8.out).trans T8.out; have HI6 := Lib.hid hi6; clear ho6 hk6 hl6 hkn6 hu6 hi6))
              go_wp2
              go_roundw
              case rel => exact ⟨jn + 1, C + R, _, by omega, by go_num, rfl, by omega, by omega, Lib.hid (by rw [minJ_take HMB.out.symm (by rw [← HR.out]; exact hr1) (.inl hMM.out.symm), ← HC.out, ← HR.out]), HI6⟩
              case measure => simp [intOf]; omega
            have hm2 : (M == -1) = false := by simp [hm1]
            by_cases hl : C + R < M
            · go_upto_region 11 with (go_at_call 34; refine (KMJ.out _ _ hsv.out).mono ?_; rintro e w4 ⟨rfl, hb⟩; clear y0 y1 y2 z0 z1; have HI4 := Lib.hid ((hsv.out.step hb).step (Below.drew (Below.refl _ _))); clear hb)
              obtain ⟨⟨y0, y1, y2⟩, z0, z1⟩ := HI4.out.cells
              have y0 : w4.cell? ⟨w.heap.size, 0, none⟩ = some (.slice (some ⟨b9, o9, none⟩) t.costs.length c) := y0
              have y1 : w4.cell? ⟨w.heap.size, 1, none⟩ = some (.int .i64 t.quota) := y1
              have y2 : w4.cell? ⟨w.heap.size, 2, none⟩ = some (.int .i64 t.last) := y2
              have z0 : w4.cell? ⟨w.heap.size + 1, 0, none⟩ = some (.slice A2 s.bow.length c2) := z0
              have z1 : w4.cell? ⟨w.heap.size + 1, 1, none⟩ = some (.int .i64 s.last) := z1
              go_region_held3 (fun w' => w'.cell? ⟨w.heap.size, 0, none⟩ = some (.slice (some ⟨b9, o9, none⟩) t.costs.length c) ∧ w'.cell? ⟨w.heap.size, 1, none⟩ = some (.int .i64 t.quota) ∧ w'.cell? ⟨w.heap.size, 2, none⟩ = some (.int .i64 t.last) ∧ w'.cell? ⟨w.heap.size + 1, 0, none⟩ = some (.slice A2 s.bow.length c2) ∧ w'.cell? ⟨w.heap.size + 1, 1, none⟩ = some (.int .i64 s.last)) (first | exact ⟨y0, y1, y2, z0, z1⟩ | go_keep) (first
                | (go_at_call 35; refine (KFJ.out _ _ HI4.out).mono ?_; rintro e w5 ⟨A5, c5, rfl, hs5, hb⟩; clear y0 y1 y2 z0 z1; have HI5 := Lib.hid (HI4.out.step hb); have HS5 := Lib.hid hs5; obtain ⟨⟨y0, y1, y2⟩, z0, z1⟩ := HI5.out.cells; clear hb hs5)
                | (go_at_call 31; refine (KSJ.out _ _ _ _ _ HI4.out HI5.out HS5.out).mono ?_; rintro e w6 ⟨rfl, K3, ho6, hk6, hl6, hkn6, hu6, _⟩; clear y0 y1 y2 z0 z1; have hi6 := HI5.out.into ho6 hk6 hl6 hkn6 hu6; obtain ⟨⟨y0, y1, y2⟩, z0, z1⟩ := hi6.cells; have x0 := (hi6.cell (p := ⟨b9, o9 + i, none⟩) hF9).trans T9.out; have x1 := (hi6.cell (p := ⟨b8, o8 + jn, none⟩) HF8.out).trans T8.out; have HI6 := Lib.hid hi6; clear ho6 hk6 hl6 hkn6 hu6 hi6))
              go_wp2
              go_roundw
              case rel => exact ⟨jn + 1, C + R, _, by omega, by go_num, rfl, by omega, by omega, Lib.hid (by rw [minJ_take HMB.out.symm (by rw [← HR.out]; exact hr1) (.inr (by rw [← HC.out, ← HR.out, ← hMM.out]; exact hl)), ← HC.out, ← HR.out]), HI6⟩
              case measure => simp [intOf]; omega
            · go_upto_region 11 with (go_at_call 34; refine (KMJ.out _ _ hsv.out).mono ?_; rintro e w4 ⟨rfl, hb⟩; clear y0 y1 y2 z0 z1; have HI4 := Lib.hid ((hsv.out.step hb).step (Below.drew (Below.refl _ _))); clear hb)
              obtain ⟨⟨y0, y1, y2⟩, z0, z1⟩ := HI4.out.cells
              have y0 : w4.cell? ⟨w.heap.size, 0, none⟩ = some (.slice (some ⟨b9, o9, none⟩) t.costs.length c) := y0
              have y1 : w4.cell? ⟨w.heap.size, 1, none⟩ = some (.int .i64 t.quota) := y1
              have y2 : w4.cell? ⟨w.heap.size, 2, none⟩ = some (.int .i64 t.last) := y2
              have z0 : w4.cell? ⟨w.heap.size + 1, 0, none⟩ = some (.slice A2 s.bow.length c2) := z0
              have z1 : w4.cell? ⟨w.heap.size + 1, 1, none⟩ = some (.int .i64 s.last) := z1
              go_region_held3 (fun w' => w'.cell? ⟨w.heap.size, 0, none⟩ = some (.slice (some ⟨b9, o9, none⟩) t.costs.length c) ∧ w'.cell? ⟨w.heap.size, 1, none⟩ = some (.int .i64 t.quota) ∧ w'.cell? ⟨w.heap.size, 2, none⟩ = some (.int .i64 t.last) ∧ w'.cell? ⟨w.heap.size + 1, 0, none⟩ = some (.slice A2 s.bow.length c2) ∧ w'.cell? ⟨w.heap.size + 1, 1, none⟩ = some (.int .i64 s.last)) (first | exact ⟨y0, y1, y2, z0, z1⟩ | go_keep) (first
                | (go_at_call 35; refine (KFJ.out _ _ HI4.out).mono ?_; rintro e w5 ⟨A5, c5, rfl, hs5, hb⟩; clear y0 y1 y2 z0 z1; have HI5 := Lib.hid (HI4.out.step hb); have HS5 := Lib.hid hs5; obtain ⟨⟨y0, y1, y2⟩, z0, z1⟩ := HI5.out.cells; clear hb hs5)
                | (go_at_call 31; refine (KSJ.out _ _ _ _ _ HI4.out HI5.out HS5.out).mono ?_; rintro e w6 ⟨rfl, K3, ho6, hk6, hl6, hkn6, hu6, _⟩; clear y0 y1 y2 z0 z1; have hi6 := HI5.out.into ho6 hk6 hl6 hkn6 hu6; obtain ⟨⟨y0, y1, y2⟩, z0, z1⟩ := hi6.cells; have x0 := (hi6.cell (p := ⟨b9, o9 + i, none⟩) hF9).trans T9.out; have x1 := (hi6.cell (p := ⟨b8, o8 + jn, none⟩) HF8.out).trans T8.out; have HI6 := Lib.hid hi6; clear ho6 hk6 hl6 hkn6 hu6 hi6))
              go_wp2
              go_roundw
              case rel => exact ⟨jn + 1, M, _, by omega, by go_num, rfl, hM0, hM1, Lib.hid (by rw [minJ_leave (by rw [← HC.out, ← HR.out, ← hMM.out]; omega)]; exact hMM.out), HI6⟩
              case measure => simp [intOf]; omega
theorem att_solve (t : Att) (ht : OkT46 t) : ∀ m, SolveA t m
  | 0 => att_solve_at t ht 0 fun k h => absurd h (by omega)
  | m + 1 => att_solve_at t ht (m + 1) fun k h => by
    obtain rfl : k = m := by omega
    exact att_solve t ht k
end Go.Proofs.YtjchapoggmipbaaGreatDoor

namespace Go.Proofs.YtjchapoggmipbaaGreatDoor
open Go.RowKit

theorem att_Best_ret {R' : Ending → World → Prop} {a : Act} {w : World} {x0 x1 x2 v : Value} {g : Nat} (h2 : a.tmps[2]? = some (.pointer (some ⟨g, 0, none⟩))) (h3 : a.tmps[3]? = some v) (hb : Blk w g 54 #[x0, x1, x2])
    (hd : a.defers = []) (hR : R' (.returned (.tuple #[.agg #[x0, x1, x2], v])) w) : bodyPost Tryz.prog Tryz.f11 R' .ret a w := by
  obtain ⟨r0, r1, r2⟩ := blk_threeA hb
  refine bodyPost_ret (v := .tuple #[.agg #[x0, x1, x2], v]) (by simp [results, Tryz.results11, go_sem, h2, h3, r0, r1, r2]) hd hR
@[go_sem] theorem build_apl0 (w : World) : (Instr.build 54 #[]).run Tryz.prog w = .ok (.agg #[.slice none 0 0, .int .i64 0, .slice none 0 0]) w := run_build w 54 _ _ (by kernel_rfl)
@[go_sem] theorem build_apl2 (x : Int) (A : Option Addr) (n c : Nat) (w : World) : (Instr.build 54 #[(1, .int .i64 x), (2, .slice A n c)]).run Tryz.prog w = .ok (.agg #[.slice none 0 0, .int .i64 x, .slice A n c]) w := run_build w 54 _ _ (by kernel_rfl)
theorem mk_i64s (n : Nat) (hn : n ≤ 1000000) (W : World) : (Instr.makeSlice 52 (.int .i64 (n : Int)) (.int .i64 (n : Int))).run Tryz.prog W = .ok (.slice (some ⟨W.heap.size, 0, none⟩) n n) (W.alloc (.cells (madeCells #[.int .i64 0] n) 2)) :=
  run_make_row' (P := Tryz.prog) 52 2 (.int .i64 0) 8 Tryz.underlying52 (by kernel_rfl) rfl .i64 .i64 n (by omega) (by omega) W
/-- The task's box and the plan's. -/
structure BP (w W : World) (cv : Value) (t : Att) : Prop where
  bel : Below w.heap.size w W
  ta : Blk W w.heap.size 31 #[cv, .int .i64 t.quota, .int .i64 t.last]
  rs : Blk W (w.heap.size + 1) 54 #[.slice none 0 0, .int .i64 0, .slice none 0 0]
theorem BP.new (w : World) (cv : Value) (t : Att) : BP w ((w.alloc (.cells #[cv, .int .i64 t.quota, .int .i64 t.last] 31)).alloc (.cells #[.slice none 0 0, .int .i64 0, .slice none 0 0] 54)) cv t :=
  ⟨(low_allocA w _).trans ((low_allocA _ _).mono (by simp)), (Blk.new w _ _).alloc _, by have h := Blk.new (w.alloc (.cells #[cv, .int .i64 t.quota, .int .i64 t.last] 31)) 54 #[.slice none 0 0, .int .i64 0, .slice none 0 0]; simpa using h⟩
theorem BP.step {w W W' : World} {cv : Value} {t : Att} (h : BP w W cv t) (hb : Below W.heap.size W W') : BP w W' cv t := ⟨h.bel.trans (hb.mono h.bel.size), h.ta.below hb h.ta.lt, h.rs.below hb h.rs.lt⟩
theorem BP.cells {w W : World} {cv : Value} {t : Att} (h : BP w W cv t) : (W.cell? ⟨w.heap.size, 0, none⟩ = some cv ∧ W.cell? ⟨w.heap.size, 1, none⟩ = some (.int .i64 t.quota) ∧ W.cell? ⟨w.heap.size, 2, none⟩ = some (.int .i64 t.last)) ∧ (W.cell? ⟨w.heap.size + 1, 0, none⟩ = some (.slice none 0 0) ∧ W.cell? ⟨w.heap.size + 1, 1, none⟩ = some (.int .i64 0) ∧ W.cell? ⟨w.heap.size + 1, 2, none⟩ = some (.slice none 0 0)) ∧ W.frozen? ⟨w.heap.size + 1, 0, none⟩ = false ∧ W.frozen? ⟨w.heap.size + 1, 1, none⟩ = false ∧ W.frozen? ⟨w.heap.size + 1, 2, none⟩ = false := ⟨blk_threeA h.ta, blk_threeA h.rs, h.rs.frozen 0, h.rs.frozen 1, h.rs.frozen 2⟩
def put3 (W : World) (g : Nat) (x y z : Value) : World := ((W.setCell ⟨g, 0, none⟩ x).setCell ⟨g, 1, none⟩ y).setCell ⟨g, 2, none⟩ z
theorem put3_blk {W : World} {g : Nat} {T : TypeId} {a b c : Value} (h : Blk W g T #[a, b, c]) (x y z : Value) : Blk (put3 W g x y z) g T #[x, y, z] := ((h.set_ 0 x).set_ 1 y).set_ 2 z
theorem put3_below {B : Nat} {a W : World} (h : Below B a W) {g : Nat} (hg : B ≤ g) (x y z : Value) : Below B a (put3 W g x y z) := ((h.setCell (by show B ≤ g; exact hg) x).setCell (by show B ≤ g; exact hg) y).setCell (by show B ≤ g; exact hg) z
theorem put3_far {W : World} {g b : Nat} (hb : b ≠ g) (x y z : Value) : (put3 W g x y z).heap[b]? = W.heap[b]? :=
  (Below.heap_setCell _ ⟨g, 2, none⟩ z b hb).trans ((Below.heap_setCell _ ⟨g, 1, none⟩ y b hb).trans (Below.heap_setCell W ⟨g, 0, none⟩ x b hb))
set_option maxRecDepth 100000 in
set_option maxHeartbeats 2000000 in
theorem att_Best_bad (t : Att) (cv : Value) (w : World) (h : Sl 1 elRw w (· < w.heap.size) cv t.costs) (he : checkA t ≠ 0) :
    Calls Tryz.prog 11 #[atV cv t] w fun e w' => e = .returned (.tuple #[.agg #[.slice none 0 0, .int .i64 0, .slice none 0 0], .int .i64 (checkA t)]) ∧ Below w.heap.size w w' := by
  obtain ⟨A, c, rfl, hc, hc2⟩ := h.shape
  have HX := Lib.hid (BP.new w (.slice A t.costs.length c) t)
  have ks := att_States t _ _ (sl_lowA elRw_good h HX.out.bel)
  rw [if_pos he] at ks
  unfold atV at ks ⊢
  obtain ⟨Z, hZ⟩ : ∃ z, z = checkA t := ⟨_, rfl⟩
  rw [← hZ] at ks he ⊢
  have KS := Lib.hid ks
  have gz := bneT he
  clear ks he hZ h
  go_enter Tryz.func11, Tryz.ntmps11
  go_wp2_with (go_at_call 30; refine (KS.out).mono ?_; rintro e w1 ⟨rfl, hb⟩; have HX1 := Lib.hid (HX.out.step hb); obtain ⟨_, ⟨u0, u1, u2⟩, v0, v1, v2⟩ := HX1.out.cells; clear hb)
  refine att_Best_ret rfl rfl (put3_blk HX1.out.rs (.slice none 0 0) (.int .i64 0) (.slice none 0 0)) rfl ⟨rfl, put3_below HX1.out.bel (by omega) _ _ _⟩
end Go.Proofs.YtjchapoggmipbaaGreatDoor
