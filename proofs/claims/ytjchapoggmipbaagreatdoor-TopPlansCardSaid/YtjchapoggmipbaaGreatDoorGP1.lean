/- Several texts of this family in one: P50 P51 H1 H2 H3 P52 H4 W6 P60 P61 P63 J0 W7 T5 T7 N3 P53 S1 C A A2 S Q1 Q2 T3 T4 T6 QG Q3 H10 H11 S2. -/
import Derived.Test.YtjchapoggmipbaaGreatDoorGP0
import Derived.IntWalk
import Derived.BigQuiet
import Derived.Deep.RegionHeld3
import Derived.Deep.OwnRows
import Derived.Deep.Slices
import Derived.Shelf.Strings.Builder1
import Derived.Lib.OthersKept
import Derived.Lib.AtoiErrMem
import Derived.Shelf.Strings.SlTrimAscii
import Derived.Lib.AppendIntMem
import Derived.Lib.Repeat
import Derived.Lib.Join
import Derived.Lib.IndexMore
import Derived.Deep.RegionLaw
import Derived.Deep.AppendSrc
import Derived.Deep.Upon
set_option linter.unusedSimpArgs false
set_option linter.unusedVariables false
namespace Go.Proofs.YtjchapoggmipbaaGreatDoor

structure Otc where
  runs : Int
  wick : Bool
  wt : Int
structure Spr where
  balls : Int
  ws : List Int
/-- How the program compares two outcomes. -/
def ordS (a b : Otc) : Int :=
  if a.runs ≠ b.runs then (if a.runs < b.runs then -1 else 1) else if a.wick = b.wick then 0 else if b.wick = true then -1 else 1
def befB (a b : Otc) : Bool := decide (ordS a b < 0)
def badO (o : Otc) : Bool := decide (o.runs < 0) || decide (7 < o.runs) || decide (o.wt < 1) || decide (16 < o.wt)
def otcErr (prev : Option Otc) (o : Otc) : Int :=
  if badO o = true then 2 else match prev with
    | none => 0
    | some p => if befB p o = true then 0 else 8
/-- The first error of the outcomes behind prev, the weights so far being sum. -/
def otcsF : Option Otc → Int → List Otc → Int
  | _, sum, [] => if sum = 16 then 0 else 12
  | prev, sum, o :: r => if otcErr prev o ≠ 0 then otcErr prev o else otcsF (some o) (sum + o.wt) r
def checkD (d : List Otc) : Int := if d.length = 0 then 6 else if 16 < d.length then 9 else otcsF none 0 d
def sumI (l : List Int) : Int := l.foldr (· + ·) 0
theorem sumI_nil : sumI [] = 0 := rfl
theorem sumI_cons (x : Int) (l : List Int) : sumI (x :: l) = x + sumI l := rfl
theorem sumI_app (l m : List Int) : sumI (l ++ m) = sumI l + sumI m := by
  induction l with
  | nil => rw [List.nil_append, sumI_nil]; omega
  | cons x l ih => rw [List.cons_append, sumI_cons, sumI_cons, ih]; omega
theorem sumI_take_le {l : List Int} (h : ∀ x ∈ l, 0 ≤ x) (k : Nat) : 0 ≤ sumI (l.take k) ∧ sumI (l.take k) ≤ sumI l := by
  have e := sumI_app (l.take k) (l.drop k)
  rw [List.take_append_drop] at e
  have pos : ∀ m : List Int, (∀ x ∈ m, 0 ≤ x) → 0 ≤ sumI m := by
    intro m
    induction m with
    | nil => intro _; simp [sumI_nil]
    | cons x m ih => intro hm; rw [sumI_cons]; have := hm x (by simp); have := ih fun y hy => hm y (by simp [hy]); omega
  have h1 := pos (l.take k) fun x hx => h x (List.mem_of_mem_take hx)
  have h2 := pos (l.drop k) fun x hx => h x (List.mem_of_mem_drop hx)
  omega
def meanL (d : List Otc) : Int := sumI (d.map fun o => o.runs * o.wt)
def meanS (d : List Otc) : Int × Int := if checkD d ≠ 0 then (0, checkD d) else (meanL d, 0)
def unitV (n : Nat) : Int := 16 ^ n
def unitS (n : Int) : Int × Int := if n < 0 ∨ 12 < n then (0, 2) else (unitV n.toNat, 0)
/-- The first error of a spread. -/
def checkP (s : Spr) : Int :=
  if s.balls < 0 ∨ 12 < s.balls then 2
  else if s.ws.length = 0 then 6
  else if 7 * s.balls + 1 < (s.ws.length : Int) then 9
  else if s.ws.all (fun x => decide (0 ≤ x) && decide (x ≤ unitV s.balls.toNat)) = false then 2
  else if s.ws.getLast? = some 0 then 4
  else if sumI s.ws = unitV s.balls.toNat then 0 else 12
/-- Entries from 0 on, with a sum u. -/
structure Fine (l : List Int) (u : Int) : Prop where
  pos : ∀ x ∈ l, 0 ≤ x
  sum : sumI l = u
theorem mem_le_sum {l : List Int} (h : ∀ x ∈ l, 0 ≤ x) : ∀ x ∈ l, x ≤ sumI l := by
  induction l with
  | nil => intro x hx; cases hx
  | cons y l ih =>
    intro x hx
    rw [sumI_cons]
    have h0 := h y (by simp)
    have h1 := (sumI_take_le (l := l) (fun z hz => h z (by simp [hz])) 0).2
    rw [List.take_zero, sumI_nil] at h1
    rcases List.mem_cons.1 hx with rfl | hx
    · omega
    · have := ih (fun z hz => h z (by simp [hz])) x hx; omega
end Go.Proofs.YtjchapoggmipbaaGreatDoor

namespace Go.Proofs.YtjchapoggmipbaaGreatDoor

/-- The outcome ahead of the k-th. -/
def prevO (l : List Otc) (k : Nat) : Option Otc := if k = 0 then none else l[k - 1]?
theorem prevO_zero (l : List Otc) : prevO l 0 = none := rfl
theorem prevO_succ {l : List Otc} {k : Nat} (h : k ≠ 0) (hk : k - 1 < l.length) : prevO l k = some l[k - 1] := by unfold prevO; rw [if_neg h, List.getElem?_eq_getElem hk]
theorem otcsF_at {l : List Otc} {k : Nat} (s : Int) (h : k < l.length) :
    otcsF (prevO l k) s (l.drop k) = if otcErr (prevO l k) l[k] ≠ 0 then otcErr (prevO l k) l[k] else otcsF (prevO l (k + 1)) (s + l[k].wt) (l.drop (k + 1)) := by
  rw [List.drop_eq_getElem_cons h, otcsF]
  have : prevO l (k + 1) = some l[k] := by unfold prevO; rw [if_neg (by omega), Nat.add_sub_cancel, List.getElem?_eq_getElem h]
  rw [this]
theorem otcsF_end {l : List Otc} {k : Nat} (p : Option Otc) (s : Int) (h : l.length ≤ k) : otcsF p s (l.drop k) = if s = 16 then 0 else 12 := by rw [List.drop_of_length_le h, otcsF]
theorem otcErr_bad {p : Option Otc} {o : Otc} (h : badO o = true) : otcErr p o = 2 := by unfold otcErr; rw [if_pos h]
theorem otcErr_none {o : Otc} (h : badO o = false) : otcErr none o = 0 := by unfold otcErr; rw [if_neg (by simp [h])]
theorem otcErr_some {p o : Otc} (h : badO o = false) : otcErr (some p) o = if befB p o = true then 0 else 8 := by unfold otcErr; rw [if_neg (by simp [h])]
/-- The ways through the test of an outcome. -/
theorem badO_ways (o : Otc) : (badO o = true ∧ ((decide (o.runs < 0) = true) ∨ (decide (o.runs < 0) = false ∧ decide (7 < o.runs) = true) ∨ (decide (o.runs < 0) = false ∧ decide (7 < o.runs) = false ∧ decide (o.wt < 1) = true) ∨ (decide (o.runs < 0) = false ∧ decide (7 < o.runs) = false ∧ decide (o.wt < 1) = false ∧ decide (16 < o.wt) = true)))
    ∨ (badO o = false ∧ decide (o.runs < 0) = false ∧ decide (7 < o.runs) = false ∧ decide (o.wt < 1) = false ∧ decide (16 < o.wt) = false) := by
  unfold badO
  cases decide (o.runs < 0) <;> cases decide (7 < o.runs) <;> cases decide (o.wt < 1) <;> cases decide (16 < o.wt) <;> simp
structure OkO (o : Otc) : Prop where
  r0 : 0 ≤ o.runs
  r7 : o.runs ≤ 7
  w1 : 1 ≤ o.wt
  w16 : o.wt ≤ 16
theorem badO_no {o : Otc} (h : badO o = false) : OkO o := by
  unfold badO at h
  simp at h
  obtain ⟨⟨⟨a, b⟩, c⟩, d⟩ := h
  exact ⟨by omega, by omega, by omega, by omega⟩
theorem bef_runs {a b : Otc} (h : befB a b = true) : a.runs ≤ b.runs := by
  unfold befB ordS at h
  simp only [decide_eq_true_eq] at h
  repeat' split at h
  all_goals omega
theorem otcsF_ok : ∀ (l : List Otc) (p : Option Otc) (s : Int), otcsF p s l = 0 →
    (∀ o ∈ l, OkO o) ∧ s + sumI (l.map (·.wt)) = 16 ∧ (∀ a ∈ l, ∀ b, l.getLast? = some b → a.runs ≤ b.runs) ∧ (∀ q, p = some q → ∀ b, l.getLast? = some b → q.runs ≤ b.runs) := by
  intro l
  induction l with
  | nil =>
    intro p s h
    rw [otcsF] at h
    refine ⟨(fun o ho => by cases ho), ?_, (fun a ha => by cases ha), (fun q hq b hb => by cases hb)⟩
    rw [List.map_nil, sumI_nil]
    split at h
    · omega
    · cases h
  | cons o l ih =>
    intro p s h
    rw [otcsF] at h
    by_cases he : otcErr p o = 0
    · rw [if_neg (fun k => k he)] at h
      obtain ⟨h1, h2, h3, h4⟩ := ih _ _ h
      have hb : badO o = false := by
        cases hb : badO o
        · rfl
        · rw [otcErr_bad hb] at he; cases he
      have hlast : ∀ b, (o :: l).getLast? = some b → o.runs ≤ b.runs := by
        intro b hb'
        cases l with
        | nil => simp at hb'; rw [hb']; exact Int.le_refl _
        | cons x l => rw [List.getLast?_cons_cons] at hb'; exact h4 o rfl b hb'
      refine ⟨?_, ?_, ?_, ?_⟩
      · intro x hx
        rcases List.mem_cons.1 hx with rfl | hx
        · exact badO_no hb
        · exact h1 x hx
      · rw [List.map_cons, sumI_cons]; omega
      · intro a ha b hb'
        rcases List.mem_cons.1 ha with rfl | ha
        · exact hlast b hb'
        · cases l with
          | nil => cases ha
          | cons x l => rw [List.getLast?_cons_cons] at hb'; exact h3 a ha b hb'
      · intro q hq b hb'
        subst hq
        rw [otcErr_some hb] at he
        have hbq : befB q o = true := by
          cases hx : befB q o
          · rw [hx] at he; simp at he
          · rfl
        have := bef_runs hbq
        have := hlast b hb'
        omega
    · rw [if_pos he] at h; exact absurd h he
/-- What an accepted distribution is. -/
structure OkD (d : List Otc) : Prop where
  len : 1 ≤ d.length ∧ d.length ≤ 16
  each : ∀ o ∈ d, OkO o
  sum : sumI (d.map (·.wt)) = 16
  last : ∀ a ∈ d, ∀ b, d.getLast? = some b → a.runs ≤ b.runs
theorem checkD_ok {d : List Otc} (h : checkD d = 0) : OkD d := by
  unfold checkD at h
  by_cases h0 : d.length = 0
  · rw [if_pos h0] at h; cases h
  · rw [if_neg h0] at h
    by_cases h1 : 16 < d.length
    · rw [if_pos h1] at h; cases h
    · rw [if_neg h1] at h
      obtain ⟨a, b, c, _⟩ := otcsF_ok _ _ _ h
      exact ⟨by omega, a, by omega, c⟩
/-- The runs of the last outcome. -/
def lastR (d : List Otc) : Int := ((d.getLast?).map (·.runs)).getD 0
theorem OkD.lastR {d : List Otc} (h : OkD d) : ∃ o ∈ d, Go.Proofs.YtjchapoggmipbaaGreatDoor.lastR d = o.runs ∧ d[d.length - 1]? = some o ∧ ∀ a ∈ d, a.runs ≤ o.runs := by
  obtain ⟨o, ho⟩ : ∃ o, d.getLast? = some o := by
    cases hx : d.getLast? with
    | none => rw [List.getLast?_eq_none_iff] at hx; have := h.len.1; rw [hx] at this; simp at this
    | some o => exact ⟨o, rfl⟩
  refine ⟨o, List.mem_of_getLast? ho, by unfold Go.Proofs.YtjchapoggmipbaaGreatDoor.lastR; rw [ho]; rfl, by rw [← List.getLast?_eq_getElem?]; exact ho, fun a ha => h.last a ha o ho⟩
/-- What an accepted spread is. -/
structure OkP (n : Nat) (ws : List Int) : Prop where
  n12 : n ≤ 12
  len : 1 ≤ ws.length ∧ ws.length ≤ 7 * n + 1
  fine : Fine ws (unitV n)
  last : ws.getLast? ≠ some 0
theorem OkP.ne {n : Nat} {ws : List Int} (h : OkP n ws) : ws ≠ [] := by intro e; have := h.len.1; rw [e] at this; simp at this
theorem unitV_nat (n : Nat) : unitV n = ((16 ^ n : Nat) : Int) := by unfold unitV; rw [Int.natCast_pow]; rfl
theorem unitV_le {n : Nat} (h : n ≤ 12) : 1 ≤ unitV n ∧ unitV n ≤ 281474976710656 := by
  have h1 : 1 ≤ 16 ^ n := Nat.one_le_pow n 16 (by omega)
  have h2 : 16 ^ n ≤ 16 ^ 12 := Nat.pow_le_pow_right (by omega) h
  have h3 : (16 : Nat) ^ 12 = 281474976710656 := by decide
  rw [h3] at h2
  rw [unitV_nat]
  generalize 16 ^ n = x at h1 h2
  omega
theorem unitV_add (n m : Nat) : unitV (n + m) = unitV n * unitV m := by unfold unitV; rw [Int.pow_add]
theorem unitV_one : unitV 1 = 16 := rfl
theorem OkP.check {n : Nat} {ws : List Int} (h : OkP n ws) : checkP ⟨(n : Int), ws⟩ = 0 := by
  unfold checkP
  have hl := h.len
  have h12 := h.n12
  simp only [Int.toNat_natCast]
  rw [if_neg (by omega), if_neg (by omega), if_neg (by omega), if_neg ?_, if_neg h.last, if_pos h.fine.sum]
  have : (ws.all fun x => decide (0 ≤ x) && decide (x ≤ unitV n)) = true := by
    rw [List.all_eq_true]
    intro x hx
    have h1 := h.fine.pos x hx
    have h2 := mem_le_sum h.fine.pos x hx
    rw [h.fine.sum] at h2
    simp [h1, h2]
  rw [this]; simp
end Go.Proofs.YtjchapoggmipbaaGreatDoor

namespace Go.Proofs.YtjchapoggmipbaaGreatDoor
open Go.RowKit

def elOtc (_ : World) (_ : Nat → Prop) (cs : List Value) (o : Otc) : Prop := cs = [.int .i64 o.runs, .bool o.wick, .int .i64 o.wt]
theorem elOtc_good : Good elOtc := ⟨fun h _ _ => h⟩
/-- The outcome k of a list that lies. -/
theorem otc_at {w : World} {F : Nat → Prop} {A : Option Addr} {n c : Nat} {l : List Otc} (h : Sl 3 elOtc w F (.slice A n c) l) {k : Nat} (hk : k < l.length) :
    ∃ b o, A = some ⟨b, o, none⟩ ∧ F b ∧ w.cell? ⟨b, o + k * 3, none⟩ = some (.int .i64 l[k].runs) ∧ w.cell? ⟨b, o + k * 3 + 1, none⟩ = some (.bool l[k].wick) ∧ w.cell? ⟨b, o + k * 3 + 2, none⟩ = some (.int .i64 l[k].wt) := by
  obtain ⟨b, o, cs, h1, h2, h3, h4, h5⟩ := h.at hk
  have h5' : cs = [.int .i64 l[k].runs, .bool l[k].wick, .int .i64 l[k].wt] := h5
  subst h5'
  have y0 := h4 0 _ rfl
  rw [Nat.add_zero] at y0
  exact ⟨b, o, h1, h2, y0, h4 1 _ rfl, h4 2 _ rfl⟩
/-- The weight k of a list that lies. -/
theorem int_at {w : World} {F : Nat → Prop} {A : Option Addr} {n c : Nat} {l : List Int} (h : Sl 1 elInt w F (.slice A n c) l) {k : Nat} (hk : k < l.length) :
    ∃ b o, A = some ⟨b, o, none⟩ ∧ F b ∧ w.cell? ⟨b, o + k, none⟩ = some (.int .i64 l[k]) := by
  obtain ⟨b, o, cs, h1, h2, h3, h4, h5⟩ := h.at hk
  have h5' : cs = [.int .i64 l[k]] := h5
  subst h5'
  have y0 := h4 0 _ rfl
  rw [Nat.add_zero, Nat.mul_one] at y0
  exact ⟨b, o, h1, h2, y0⟩
def outV (o : Otc) : Value := .agg #[.int .i64 o.runs, .bool o.wick, .int .i64 o.wt]
def cmpI (a b : Int) : Int := if a < b then -1 else if b < a then 1 else 0
set_option maxRecDepth 100000 in
theorem cmp_nan (a : Int) (w : World) : Calls Tryz.prog 109 #[.int .i64 a] w fun e w' => e = .returned (.bool false) ∧ w = w' := by
  go_enter Tryz.func109, Tryz.ntmps109
  go_wp2
  go_ret
  exact ⟨ret_b (by simp), rfl⟩
set_option maxRecDepth 100000 in
theorem cmp_intE (a b : Int) (w : World) : Calls Tryz.prog 86 #[.int .i64 a, .int .i64 b] w fun e w' => e = .returned (.int .i64 (cmpI a b)) ∧ w = w' := by
  unfold cmpI
  by_cases h1 : a < b
  · rw [if_pos h1]
    go_enter Tryz.func86, Tryz.ntmps86
    go_wp2_with (go_at_call 109; refine (cmp_nan _ _).mono ?_; rintro e w2 ⟨rfl, rfl⟩)
    go_ret
    exact ⟨rfl, rfl⟩
  · rw [if_neg h1]
    by_cases h2 : b < a
    · rw [if_pos h2]
      go_enter Tryz.func86, Tryz.ntmps86
      go_wp2_with (go_at_call 109; refine (cmp_nan _ _).mono ?_; rintro e w2 ⟨rfl, rfl⟩)
      go_ret
      exact ⟨rfl, rfl⟩
    · rw [if_neg h2]
      go_enter Tryz.func86, Tryz.ntmps86
      go_wp2_with (go_at_call 109; refine (cmp_nan _ _).mono ?_; rintro e w2 ⟨rfl, rfl⟩)
      go_ret
      exact ⟨rfl, rfl⟩
set_option maxRecDepth 100000 in
set_option maxHeartbeats 1000000 in
theorem ch_orderE (a b : Otc) (w : World) : Calls Tryz.prog 65 #[outV a, outV b] w fun e w' => e = .returned (.int .i64 (ordS a b)) ∧ w' = (w.alloc (.cells #[.int .i64 a.runs, .bool a.wick, .int .i64 a.wt] 82)).alloc (.cells #[.int .i64 b.runs, .bool b.wick, .int .i64 b.wt] 82) := by
  unfold outV
  by_cases hr : a.runs = b.runs
  · have e1 : (a.runs != b.runs) = false := by rw [hr]; simp
    obtain ⟨ar, aw, at_⟩ := a
    obtain ⟨br, bw, bt⟩ := b
    dsimp only at hr e1 ⊢
    have hz : ordS ⟨ar, aw, at_⟩ ⟨br, bw, bt⟩ = if aw = bw then 0 else if bw = true then -1 else 1 := by unfold ordS; rw [if_neg (fun k => k hr)]
    rw [hz]
    clear hz hr
    cases aw <;> cases bw
    all_goals
      go_enter Tryz.func65, Tryz.ntmps65
      go_wp2
      go_ret
      exact ⟨rfl, rfl⟩
  · have e1 : (a.runs != b.runs) = true := by rw [bne_iff_ne]; exact hr
    have hz : ordS a b = cmpI a.runs b.runs := by
      unfold ordS cmpI; rw [if_pos hr]
      by_cases h : a.runs < b.runs
      · rw [if_pos h, if_pos h]
      · rw [if_neg h, if_neg h, if_pos (by omega)]
    rw [hz]
    clear hz hr
    go_enter Tryz.func65, Tryz.ntmps65
    go_wp2_with (go_at_call 86; refine (cmp_intE _ _ _).mono ?_; rintro e w2 ⟨rfl, rfl⟩)
    all_goals go_ret
    all_goals exact ⟨rfl, rfl⟩
theorem ch_order (a b : Otc) (w : World) : Calls Tryz.prog 65 #[outV a, outV b] w fun e w' => e = .returned (.int .i64 (ordS a b)) ∧ Below w.heap.size w w' :=
  (ch_orderE a b w).mono fun e w' h => ⟨h.1, by rw [h.2]; exact Below.alloc (Below.alloc (Below.refl _ _) (Nat.le_refl _) _) (by simp) _⟩
end Go.Proofs.YtjchapoggmipbaaGreatDoor

namespace Go.Proofs.YtjchapoggmipbaaGreatDoor
open Go.RowKit

theorem befB_neg (a b : Otc) : decide (0 ≤ ordS a b) = !befB a b := by
  unfold befB
  by_cases h : ordS a b < 0
  · rw [decide_eq_true h, decide_eq_false (by omega)]; rfl
  · rw [decide_eq_false h, decide_eq_true (by omega)]; rfl
set_option maxRecDepth 100000 in
set_option maxHeartbeats 2000000 in
theorem ch_Check (d : List Otc) (v : Value) (w : World) (h : Sl 3 elOtc w (· < w.heap.size) v d) : Calls Tryz.prog 39 #[v] w fun e w' => e = .returned (.int .i64 (checkD d)) ∧ Below w.heap.size w w' := by
  obtain ⟨z, hz⟩ : ∃ z, z = checkD d := ⟨_, rfl⟩
  rw [← hz]
  unfold checkD at hz
  obtain ⟨A, c, rfl, hc, hc2⟩ := h.shape
  by_cases h0 : d.length = 0
  · rw [if_pos h0] at hz
    have HZ := Lib.hid hz
    clear hz h
    go_enter Tryz.func39, Tryz.ntmps39
    have e0 : ((d.length : Int) == 0) = true := by rw [h0]; rfl
    clear h0
    go_wp2
    go_ret
    exact ⟨ret_i HZ.out.symm, Below.refl _ _⟩
  · rw [if_neg h0] at hz
    have e0 : ((d.length : Int) == 0) = false := by rw [beq_eq_false_iff_ne]; omega
    by_cases h16 : 16 < d.length
    · rw [if_pos h16] at hz
      have HZ := Lib.hid hz
      have h16' : (16 : Int) < (d.length : Int) := by omega
      clear hz h h0
      go_enter Tryz.func39, Tryz.ntmps39
      go_wp2
      go_ret
      exact ⟨ret_i HZ.out.symm, Below.refl _ _⟩
    · rw [if_neg h16] at hz
      have h16' : (d.length : Int) ≤ 16 := by omega
      have HZ := Lib.hid hz
      have H := Lib.hid h
      clear hz h h0 h16
      go_enter Tryz.func39, Tryz.ntmps39
      go_wp2
      go_loopw [3, 16] (fun sv i wr => ∃ (k : Nat) (s : Int), k ≤ d.length ∧ i = .int .i64 k ∧ sv = .int .i64 s ∧ 0 ≤ s ∧ s ≤ 16 * k ∧ Below w.heap.size w wr ∧ Hid (z = otcsF (prevO d k) s (d.drop k)))
        (fun _ i _ => d.length - (intOf i).toNat)
      case atStart => exact ⟨0, 0, Nat.zero_le _, rfl, rfl, by omega, by omega, Below.refl _ _, HZ.out⟩
      case round =>
        obtain ⟨k, s, hk, rfl, rfl, hs0, hs1, hb, hzz⟩ := hrel
        have HB := Lib.hid hb
        by_cases hlt : k < d.length
        · obtain ⟨b, o, rfl, hbl, y0', y1', y2'⟩ := otc_at H.out hlt
          have hzz' := hzz.out
          rw [otcsF_at s hlt] at hzz'
          obtain ⟨⟨pr, pw, pt⟩, hp⟩ : ∃ p, p = d[k] := ⟨_, rfl⟩
          rw [← hp] at y0' y1' y2' hzz'
          have y0 := (hb.cell (p := ⟨b, o + k * 3, none⟩) hbl).trans y0'
          have y1 := (hb.cell (p := ⟨b, o + k * 3 + 1, none⟩) hbl).trans y1'
          have y2 := (hb.cell (p := ⟨b, o + k * 3 + 2, none⟩) hbl).trans y2'
          dsimp only at y0 y1 y2
          clear y0' y1' y2' hzz
          have hbw : b < wr.heap.size := Nat.lt_of_lt_of_le hbl hb.size
          rcases badO_ways ⟨pr, pw, pt⟩ with ⟨hB, hw⟩ | ⟨hB, e1, e2, e3, e4⟩
          · have hz2 : z = 2 := by rw [hzz', otcErr_bad hB]; rfl
            have HZZ := Lib.hid hz2
            clear hb hzz' hp hz2 hB hbw
            rcases hw with e1 | ⟨e1, e2⟩ | ⟨e1, e2, e3⟩ | ⟨e1, e2, e3, e4⟩
            all_goals
              dsimp only at *
              go_wp2
              go_ret
              exact ⟨ret_i HZZ.out.symm, Below.alloc HB.out HB.out.size _⟩
          · have hok := badO_no hB
            have hw1 := hok.w1
            have hw16 := hok.w16
            dsimp only at e1 e2 e3 e4 hw1 hw16
            by_cases hk0 : k = 0
            · have hz2 : z = otcsF (prevO d (k + 1)) (s + pt) (d.drop (k + 1)) := by
                rw [hzz', hk0, prevO_zero, otcErr_none hB]; rfl
              have HZZ := Lib.hid hz2
              have g1 : decide ((0 : Int) < (k : Int)) = false := decide_eq_false (by omega)
              have g2 : decide (0 < k) = false := decide_eq_false (by omega)
              clear hb hzz' hp hz2 hB hk0 hok hbw
              go_wp2
              go_quiet (fail)
              go_wp2
              go_roundw
              case rel => exact ⟨k + 1, _, by omega, by go_num, rfl, by omega, by omega, Below.drewN_ (Below.alloc HB.out HB.out.size _) _, HZZ.out⟩
              case measure => simp [intOf]; omega
            · obtain ⟨b', o', hbo, hbl', q0', q1', q2'⟩ := otc_at H.out (k := k - 1) (by omega)
              simp only [Option.some.injEq, Addr.mk.injEq] at hbo
              obtain ⟨rfl, rfl, _⟩ := hbo
              obtain ⟨x, hx⟩ : ∃ x, x = d[k - 1]'(by omega) := ⟨_, rfl⟩
              have hz2 : z = if (if befB x ⟨pr, pw, pt⟩ = true then (0 : Int) else 8) ≠ 0 then (if befB x ⟨pr, pw, pt⟩ = true then (0 : Int) else 8) else otcsF (prevO d (k + 1)) (s + pt) (d.drop (k + 1)) := by
                rw [hzz', prevO_succ hk0 (by omega), otcErr_some hB, ← hx]
              rw [← hx] at q0' q1' q2'
              have q0 := (hb.cell (p := ⟨b, o + (k - 1) * 3, none⟩) hbl).trans q0'
              have q1 := (hb.cell (p := ⟨b, o + (k - 1) * 3 + 1, none⟩) hbl).trans q1'
              have q2 := (hb.cell (p := ⟨b, o + (k - 1) * 3 + 2, none⟩) hbl).trans q2'
              have g1 : decide ((0 : Int) < (k : Int)) = true := decide_eq_true (by omega)
              have g2 : decide (0 < k) = true := decide_eq_true (by omega)
              have s1 : IntKind.i64.wrap ((k : Int) - 1) = (k : Int) - 1 := IntWalk.i64_in _ (by omega)
              have s2 : (0 : Int) ≤ (k : Int) - 1 := by omega
              have s2' : (1 : Int) ≤ (k : Int) := by omega
              have s3 : ((k : Int) - 1).toNat = k - 1 := by omega
              have s4 : (k : Int) - 1 < (d.length : Int) := by omega
              obtain ⟨wa, hwa⟩ : ∃ wa, wa = wr.alloc (.cells #[.int .i64 pr, .bool pw, .int .i64 pt] 82) := ⟨_, rfl⟩
              have hka : Blk wa wr.heap.size 82 #[.int .i64 pr, .bool pw, .int .i64 pt] := by rw [hwa]; exact Blk.new wr _ _
              have hba : Below wr.heap.size wr wa := by rw [hwa]; exact Below.alloc (Below.refl _ _) (Nat.le_refl _) _
              have z0 := (hba.cell (p := ⟨b, o + (k - 1) * 3, none⟩) hbw).trans q0
              have z1 := (hba.cell (p := ⟨b, o + (k - 1) * 3 + 1, none⟩) hbw).trans q1
              have z2 := (hba.cell (p := ⟨b, o + (k - 1) * 3 + 2, none⟩) hbw).trans q2
              have HBA := Lib.hid (HB.out.trans (hba.mono HB.out.size))
              have HWA := Lib.hid hwa
              have HKA := Lib.hid hka
              obtain ⟨g, hg⟩ : ∃ g, g = wr.heap.size := ⟨_, rfl⟩
              have HGG := Lib.hid hg
              cases hbf : befB x ⟨pr, pw, pt⟩
              · have HZZ := Lib.hid (show z = 8 by rw [hz2, hbf]; simp)
                have g3 : decide (0 ≤ ordS x ⟨pr, pw, pt⟩) = true := by rw [befB_neg, hbf]; rfl
                clear hb hzz' hp hz2 hB hk0 hok hx q0 q1 q2 q0' q1' q2' hwa hka hba hg hbf hbl'
                go_wp2
                rw [← HWA.out, ← HGG.out]
                rw [← HGG.out] at HKA
                have x0 : wa.cell? ⟨g, 0, none⟩ = some (.int .i64 pr) := HKA.out.cell 0
                have x1 : wa.cell? ⟨g, 1, none⟩ = some (.bool pw) := HKA.out.cell 1
                have x2 : wa.cell? ⟨g, 2, none⟩ = some (.int .i64 pt) := HKA.out.cell 2
                go_region_held3 (fun w' => (w'.cell? ⟨b, o + (k - 1) * 3, none⟩ = some (.int .i64 x.runs) ∧ w'.cell? ⟨b, o + (k - 1) * 3 + 1, none⟩ = some (.bool x.wick) ∧ w'.cell? ⟨b, o + (k - 1) * 3 + 2, none⟩ = some (.int .i64 x.wt)) ∧ w'.cell? ⟨g, 0, none⟩ = some (.int .i64 pr) ∧ w'.cell? ⟨g, 1, none⟩ = some (.bool pw) ∧ w'.cell? ⟨g, 2, none⟩ = some (.int .i64 pt)) (first | exact ⟨⟨z0, z1, z2⟩, x0, x1, x2⟩ | go_keep) ((go_at_call 65; refine (ch_order x ⟨pr, pw, pt⟩ _).mono ?_; rintro e w3 ⟨rfl, hb3⟩; have hzw := (Below.drew HBA.out).size; have hk3 : Blk w3 g 82 #[.int .i64 pr, .bool pw, .int .i64 pt] := Blk.below (w := wa.drew) HKA.out hb3 HKA.out.lt; have x0 : w3.cell? ⟨g, 0, none⟩ = some (.int .i64 pr) := hk3.cell 0; have x1 : w3.cell? ⟨g, 1, none⟩ = some (.bool pw) := hk3.cell 1; have x2 : w3.cell? ⟨g, 2, none⟩ = some (.int .i64 pt) := hk3.cell 2; have hbwa : b < wa.heap.size := Nat.lt_of_lt_of_le hbl hzw; have z0 := (hb3.cell (p := ⟨b, o + (k - 1) * 3, none⟩) hbwa).trans z0; have z1 := (hb3.cell (p := ⟨b, o + (k - 1) * 3 + 1, none⟩) hbwa).trans z1; have z2 := (hb3.cell (p := ⟨b, o + (k - 1) * 3 + 2, none⟩) hbwa).trans z2; have HB3 := Lib.hid ((Below.drew HBA.out).trans (hb3.mono hzw)); clear hk3 hb3 hzw hbwa))
                all_goals go_wp2
                all_goals go_ret
                all_goals exact ⟨ret_i HZZ.out.symm, HB3.out⟩
              · have HZZ := Lib.hid (show z = otcsF (prevO d (k + 1)) (s + pt) (d.drop (k + 1)) by rw [hz2, hbf]; simp)
                have g3 : decide (0 ≤ ordS x ⟨pr, pw, pt⟩) = false := by rw [befB_neg, hbf]; rfl
                clear hb hzz' hp hz2 hB hk0 hok hx q0 q1 q2 q0' q1' q2' hwa hka hba hg hbf hbl'
                go_wp2
                rw [← HWA.out, ← HGG.out]
                rw [← HGG.out] at HKA
                have x0 : wa.cell? ⟨g, 0, none⟩ = some (.int .i64 pr) := HKA.out.cell 0
                have x1 : wa.cell? ⟨g, 1, none⟩ = some (.bool pw) := HKA.out.cell 1
                have x2 : wa.cell? ⟨g, 2, none⟩ = some (.int .i64 pt) := HKA.out.cell 2
                go_region_held3 (fun w' => (w'.cell? ⟨b, o + (k - 1) * 3, none⟩ = some (.int .i64 x.runs) ∧ w'.cell? ⟨b, o + (k - 1) * 3 + 1, none⟩ = some (.bool x.wick) ∧ w'.cell? ⟨b, o + (k - 1) * 3 + 2, none⟩ = some (.int .i64 x.wt)) ∧ w'.cell? ⟨g, 0, none⟩ = some (.int .i64 pr) ∧ w'.cell? ⟨g, 1, none⟩ = some (.bool pw) ∧ w'.cell? ⟨g, 2, none⟩ = some (.int .i64 pt)) (first | exact ⟨⟨z0, z1, z2⟩, x0, x1, x2⟩ | go_keep) ((go_at_call 65; refine (ch_order x ⟨pr, pw, pt⟩ _).mono ?_; rintro e w3 ⟨rfl, hb3⟩; have hzw := (Below.drew HBA.out).size; have hk3 : Blk w3 g 82 #[.int .i64 pr, .bool pw, .int .i64 pt] := Blk.below (w := wa.drew) HKA.out hb3 HKA.out.lt; have x0 : w3.cell? ⟨g, 0, none⟩ = some (.int .i64 pr) := hk3.cell 0; have x1 : w3.cell? ⟨g, 1, none⟩ = some (.bool pw) := hk3.cell 1; have x2 : w3.cell? ⟨g, 2, none⟩ = some (.int .i64 pt) := hk3.cell 2; have hbwa : b < wa.heap.size := Nat.lt_of_lt_of_le hbl hzw; have z0 := (hb3.cell (p := ⟨b, o + (k - 1) * 3, none⟩) hbwa).trans z0; have z1 := (hb3.cell (p := ⟨b, o + (k - 1) * 3 + 1, none⟩) hbwa).trans z1; have z2 := (hb3.cell (p := ⟨b, o + (k - 1) * 3 + 2, none⟩) hbwa).trans z2; have HB3 := Lib.hid ((Below.drew HBA.out).trans (hb3.mono hzw)); clear hk3 hb3 hzw hbwa))
                all_goals go_wp2
                all_goals go_roundw
                case rel => exact ⟨k + 1, _, by omega, by go_num, rfl, by omega, by omega, HB3.out, HZZ.out⟩
                case measure => simp [intOf]; omega
        · have hzz' := hzz.out
          rw [otcsF_end _ _ (by omega)] at hzz'
          clear hb hzz
          by_cases h16s : s = 16
          · rw [if_pos h16s] at hzz'
            have HZZ := Lib.hid hzz'
            have g1 : (s != 16) = false := by rw [h16s]; rfl
            clear hzz' h16s
            go_wp2
            go_ret
            exact ⟨ret_i HZZ.out.symm, HB.out⟩
          · rw [if_neg h16s] at hzz'
            have HZZ := Lib.hid hzz'
            have g1 : (s != 16) = true := by rw [bne_iff_ne]; exact h16s
            clear hzz' h16s
            go_wp2
            go_ret
            exact ⟨ret_i HZZ.out.symm, HB.out⟩

end Go.Proofs.YtjchapoggmipbaaGreatDoor

namespace Go.Proofs.YtjchapoggmipbaaGreatDoor
open Go.RowKit

theorem unitS_bad {n : Int} (h : n < 0 ∨ 12 < n) : unitS n = (0, 2) := by unfold unitS; rw [if_pos h]
theorem unitS_ok {n : Nat} (h : n ≤ 12) : unitS (n : Int) = (unitV n, 0) := by unfold unitS; rw [if_neg (by omega), Int.toNat_natCast]
set_option maxRecDepth 100000 in
set_option maxHeartbeats 2000000 in
theorem ch_Unit (n : Int) (w : World) : Calls Tryz.prog 23 #[.int .i64 n] w fun e w' => e = .returned (.tuple #[.int .i64 (unitS n).1, .int .i64 (unitS n).2]) ∧ w = w' := by
  by_cases h1 : n < 0
  · rw [unitS_bad (.inl h1)]
    go_enter Tryz.func23, Tryz.ntmps23
    go_wp2
    go_ret2
    exact ⟨rfl, rfl⟩
  · by_cases h2 : 12 < n
    · rw [unitS_bad (.inr h2)]
      go_enter Tryz.func23, Tryz.ntmps23
      go_wp2
      go_ret2
      exact ⟨rfl, rfl⟩
    · obtain ⟨k, rfl⟩ : ∃ k : Nat, n = (k : Int) := ⟨n.toNat, by omega⟩
      rw [unitS_ok (by omega)]
      have hk : k = 0 ∨ k = 1 ∨ k = 2 ∨ k = 3 ∨ k = 4 ∨ k = 5 ∨ k = 6 ∨ k = 7 ∨ k = 8 ∨ k = 9 ∨ k = 10 ∨ k = 11 ∨ k = 12 := by omega
      clear h1 h2
      rcases hk with rfl | rfl | rfl | rfl | rfl | rfl | rfl | rfl | rfl | rfl | rfl | rfl | rfl
      all_goals
        go_enter Tryz.func23, Tryz.ntmps23
        go_wp2
        go_ret2
        exact ⟨rfl, rfl⟩
end Go.Proofs.YtjchapoggmipbaaGreatDoor

namespace Go.Proofs.YtjchapoggmipbaaGreatDoor

end Go.Proofs.YtjchapoggmipbaaGreatDoor

namespace Go.Proofs.YtjchapoggmipbaaGreatDoor
open Go.RowKit

theorem sumI_map_take {α : Type} {f : α → Int} {l : List α} {k : Nat} (h : k < l.length) : sumI ((l.take (k + 1)).map f) = sumI ((l.take k).map f) + f l[k] := by
  rw [List.take_succ_eq_append_getElem h, List.map_append, sumI_app]; simp [sumI_cons, sumI_nil]
theorem OkO.prod {o : Otc} (h : OkO o) : 0 ≤ o.runs * o.wt ∧ o.runs * o.wt ≤ 112 := by
  have h1 := Int.mul_nonneg h.r0 (show (0 : Int) ≤ o.wt by have := h.w1; omega)
  have h2 := Int.mul_le_mul h.r7 h.w16 (show (0 : Int) ≤ o.wt by have := h.w1; omega) (show (0 : Int) ≤ 7 by omega)
  omega
set_option maxRecDepth 100000 in
set_option maxHeartbeats 1000000 in
theorem ch_Mean (d : List Otc) (v : Value) (w : World) (h : Sl 3 elOtc w (· < w.heap.size) v d) : Calls Tryz.prog 19 #[v] w fun e w' => e = .returned (.tuple #[.int .i64 (meanS d).1, .int .i64 (meanS d).2]) ∧ Below w.heap.size w w' := by
  obtain ⟨z, hz⟩ : ∃ z, z = meanS d := ⟨_, rfl⟩
  rw [← hz]
  unfold meanS at hz
  have kc := ch_Check d v w h
  obtain ⟨A, c, rfl, hc, hc2⟩ := h.shape
  by_cases h0 : checkD d = 0
  · rw [if_neg (fun k => k h0)] at hz
    rw [h0] at kc
    have hok := checkD_ok h0
    have hl16 := hok.len.2
    have HOK := Lib.hid hok.each
    have KC := Lib.hid kc
    have HZ := Lib.hid hz
    have H := Lib.hid h
    clear kc hz h0 hok h
    go_enter Tryz.func19, Tryz.ntmps19
    go_wp2_with (go_at_call 39; refine KC.out.mono ?_; rintro e w2 ⟨rfl, hb2⟩; have HB2 := Lib.hid hb2; clear hb2)
    go_loopw [5, 15] (fun sv i wr => ∃ (k : Nat) (s : Int), k ≤ d.length ∧ i = .int .i64 k ∧ sv = .int .i64 s ∧ 0 ≤ s ∧ s ≤ 112 * k ∧ Below w.heap.size w wr ∧ Hid (s = sumI ((d.take k).map fun o : Otc => o.runs * o.wt))) (fun _ i _ => d.length - (intOf i).toNat)
    case atStart => exact ⟨0, 0, Nat.zero_le _, rfl, rfl, by omega, by omega, HB2.out, Lib.hid rfl⟩
    case round =>
      obtain ⟨k, s, hk, rfl, rfl, hs0, hs1, hb, hss⟩ := hrel
      have HB := Lib.hid hb
      by_cases hlt : k < d.length
      · obtain ⟨b, o, rfl, hbl, y0', y1', y2'⟩ := otc_at H.out hlt
        have hoo := HOK.out _ (List.getElem_mem hlt)
        have hst := sumI_map_take (f := fun o : Otc => o.runs * o.wt) hlt
        rw [← hss.out] at hst
        obtain ⟨⟨pr, pw, pt⟩, hp⟩ : ∃ p, p = d[k] := ⟨_, rfl⟩
        rw [← hp] at y0' y1' y2' hoo hst
        obtain ⟨hp0, hp1⟩ := hoo.prod
        have hw1 := hoo.w1
        have hw16 := hoo.w16
        have y0 := (hb.cell (p := ⟨b, o + k * 3, none⟩) hbl).trans y0'
        have y1 := (hb.cell (p := ⟨b, o + k * 3 + 1, none⟩) hbl).trans y1'
        have y2 := (hb.cell (p := ⟨b, o + k * 3 + 2, none⟩) hbl).trans y2'
        dsimp only at y0 y1 y2 hp0 hp1 hst hw1 hw16
        have HST := Lib.hid hst.symm
        clear hb hss hp hoo hst y0' y1' y2' 
        go_wp2
        go_roundw
        case rel => exact ⟨k + 1, _, by omega, by go_num, rfl, by omega, by push_cast; omega, Below.alloc HB.out HB.out.size _, HST⟩
        case measure => simp [intOf]; omega
      · obtain rfl : k = d.length := by omega
        have hs2 := hss.out
        rw [List.take_of_length_le (Nat.le_refl _)] at hs2
        have HZ2 := Lib.hid (show z = (s, 0) by rw [HZ.out, hs2]; rfl)
        clear hb hss hs2
        go_wp2
        go_ret2
        exact ⟨by rw [HZ2.out] <;> rfl, HB.out⟩
  · rw [if_pos h0] at hz
    obtain ⟨z9, hz9⟩ : ∃ z9, z9 = checkD d := ⟨_, rfl⟩
    rw [← hz9] at kc hz h0
    have g1 : (z9 != 0) = true := by rw [bne_iff_ne]; exact h0
    have KC := Lib.hid kc
    have HZ := Lib.hid hz
    clear kc hz h0 h hz9
    go_enter Tryz.func19, Tryz.ntmps19
    go_wp2_with (go_at_call 39; refine KC.out.mono ?_; rintro e w2 ⟨rfl, hb2⟩; have HB2 := Lib.hid hb2; clear hb2)
    go_ret2
    exact ⟨by rw [HZ.out] <;> rfl, HB2.out⟩

end Go.Proofs.YtjchapoggmipbaaGreatDoor

namespace Go.Proofs.YtjchapoggmipbaaGreatDoor
open Go.ChangeShapes Go.WideShapes Go.ChangeAt Go.RowKit

theorem cellsOtc : Tryz.prog.cellsOf 82 = 3 := by kernel_rfl
theorem cellsI' : Tryz.prog.cellsOf 3 = 1 := by kernel_rfl
theorem cellsI6' : Tryz.prog.cellsOf 2 = 1 := by kernel_rfl
theorem cellsB' : Tryz.prog.cellsOf 4 = 1 := by kernel_rfl
section
variable {H : Type} {enc : TypeId × Value → H} {W : World}
/-- A slice that came in, nil or not. -/
theorem sl_raw {α : Type} [Inhabited α] {el : World → (Nat → Prop) → List Value → α → Prop} {size : Nat} {t e : TypeId} {held : Bool}
    (ht : Tryz.prog.underlying t = some (.slice e)) (hc : Tryz.prog.cellsOf e = size) (hz : 0 < size)
    (one : ∀ {fuel : Nat} {cs : List Value} {x : DataW H × List MemPlace}, DataW.trod enc Tryz.prog W 0 (fun _ => true) held fuel e cs = some x → ∃ a, el W (· < W.heap.size) cs a)
    {fuel : Nat} {cs : List Value} {x : DataW H × List MemPlace} (hf : DataW.trod enc Tryz.prog W 0 (fun _ => true) held fuel t cs = some x) :
    ∃ v l, cs = [v] ∧ Sl size el W (· < W.heap.size) v l := by
  rcases Go.Deep.open_slice ht hf with ⟨rfl, rfl⟩ | ⟨a, len, cap, m, n, D, Pl, rfl, _, hl, hm, hmm, rfl, hi⟩
  · exact ⟨_, [], rfl, Sl.nil _ _⟩
  · simp only [if_true] at hmm
    subst hmm
    rw [hc] at hi
    have key : ∀ i, i < m → ∃ (p : α) (cs' : List Value), W.cells? 0 (a.add (i * size)) size = some cs' ∧ el W (· < W.heap.size) cs' p := fun i him => by
      obtain ⟨cs', hc', ht'⟩ := hi i him
      obtain ⟨p, hp⟩ := one ht'
      exact ⟨p, cs', hc', hp⟩
    obtain ⟨f, hfx⟩ : ∃ f : Nat → α, ∀ i, i < m → ∃ cs' : List Value, W.cells? 0 (a.add (i * size)) size = some cs' ∧ el W (· < W.heap.size) cs' (f i) :=
      ⟨fun i => if h : i < m then (key i h).choose else default, fun i h => by
        have := (key i h).choose_spec
        simp only [dif_pos h]
        exact this⟩
    refine ⟨_, (List.range len).map f, rfl, some a, m, by simp, by simpa using hl, hm, fun h0 => ?_⟩
    have h0' : 0 < len := by simpa using h0
    obtain ⟨b, off, spot⟩ := a
    obtain ⟨c0, hc0, _⟩ := hfx 0 (by omega)
    obtain ⟨_, hlen0, hat0⟩ := World.cells?_some hc0
    obtain ⟨u0, hu0⟩ : ∃ u, c0[0]? = some u := by
      rw [List.getElem?_eq_getElem (show 0 < c0.length by omega)]; exact ⟨_, rfl⟩
    have h00 := (hat0 0 (by omega)).trans hu0
    have hspot : spot = none := by simpa [Addr.add] using World.cell?_spot h00
    subst hspot
    have hbl := World.block_lt_of_cell? W _ h00
    refine ⟨b, off, rfl, by simpa [Addr.add] using hbl, fun i y hiy => ?_⟩
    rw [List.getElem?_map] at hiy
    obtain ⟨j, hj, rfl⟩ := Option.map_eq_some_iff.1 hiy
    have hil : i < len := by have := (List.getElem?_eq_some_iff.1 hj).1; simpa using this
    have hji : j = i := by rw [List.getElem?_range hil] at hj; exact (Option.some.inj hj).symm
    subst hji
    obtain ⟨cj, hcj, hel⟩ := hfx j (by omega)
    obtain ⟨_, hlenj, hatj⟩ := World.cells?_some hcj
    refine ⟨cj, hlenj, fun t u htu => ?_, hel⟩
    have htl : t < cj.length := (List.getElem?_eq_some_iff.1 htu).1
    have := hatj t (by omega)
    rw [Go.WideShapes.add_plain, Go.WideShapes.add_plain] at this
    rw [this, htu]
instance : Inhabited Otc := ⟨⟨0, false, 0⟩⟩
set_option maxRecDepth 100000 in
theorem otc_one {F : Nat → Prop} {fuel : Nat} {held : Bool} {cs : List Value} {x : DataW H × List MemPlace} (h : DataW.trod enc Tryz.prog W 0 (fun _ => true) held fuel 82 cs = some x) :
    ∃ f : Otc, elOtc W F cs f := by
  obtain ⟨ys, n, _, rfl, hc, hl, hf⟩ := DataW.trod_struct Tryz.underlying82 h
  rw [cellsOtc] at hc
  match cs, hc with
  | [u0, u1, u2], _ =>
    match ys, hl with
    | [z0, z1, z2], _ =>
      have k0 := hf 0 _ rfl
      have k1 := hf 1 _ rfl
      have k2 := hf 2 _ rfl
      obtain ⟨a0, e0, _, b0⟩ := DataW.trod_int Tryz.underlying3 k0
      obtain ⟨a1, e1, _⟩ := DataW.trod_bool Tryz.underlying4 k1
      obtain ⟨a2, e2, _, b2⟩ := DataW.trod_int Tryz.underlying2 k2
      have g0 : u0 = .int .i64 a0 := by simpa [Value.cells, cellsI', cellsB'] using e0
      have g1 : u1 = .bool a1 := by simpa [Value.cells, cellsI', cellsB'] using e1
      have g2 : u2 = .int .i64 a2 := by simpa [Value.cells, cellsI', cellsI6', cellsB'] using e2
      subst g0 g1 g2
      exact ⟨⟨a0, a1, a2⟩, rfl⟩
end
end Go.Proofs.YtjchapoggmipbaaGreatDoor

namespace Go.Proofs.YtjchapoggmipbaaGreatDoor

/-- The key of an outcome: twice its runs, one more with a wicket. -/
def keyO (o : Otc) : Nat := 2 * o.runs.toNat + (if o.wick = true then 1 else 0)
/-- The weight of a list at a key. -/
def wAt (l : List Otc) (j : Nat) : Int := sumI (l.map fun o => if keyO o = j then o.wt else 0)
def otcOf (j : Nat) (x : Int) : Otc := ⟨((j / 2 : Nat) : Int), decide (j % 2 = 1), x⟩
def canonF (f : Nat → Int) : Nat → Nat → List Otc
  | 0, _ => []
  | m + 1, i => (if 0 < f i then [otcOf i (f i)] else []) ++ canonF f m (i + 1)
/-- The distribution with the weights f at the keys. -/
def canon (f : Nat → Int) : List Otc := canonF f 16 0
def badN (o : Otc) : Bool := decide (o.runs < 0) || decide (7 < o.runs) || decide (o.wt < 0) || decide (16 < o.wt)
def normS (d : List Otc) : List Otc × Int :=
  if 64 < d.length then ([], 9) else if d.any badN = true then ([], 2) else if sumI (d.map (·.wt)) ≠ 16 then ([], 12) else (canon (wAt d), 0)
structure OkN (o : Otc) : Prop where
  r0 : 0 ≤ o.runs
  r7 : o.runs ≤ 7
  w0 : 0 ≤ o.wt
  w16 : o.wt ≤ 16
theorem badN_no {o : Otc} (h : badN o = false) : OkN o := by
  unfold badN at h
  simp only [Bool.or_eq_false_iff, decide_eq_false_iff_not] at h
  exact ⟨by omega, by omega, by omega, by omega⟩
theorem okN_good {o : Otc} (h : OkN o) : badN o = false := by
  have := h.r0; have := h.r7; have := h.w0; have := h.w16
  unfold badN
  simp only [Bool.or_eq_false_iff, decide_eq_false_iff_not]
  omega
theorem OkO.n {o : Otc} (h : OkO o) : OkN o := ⟨h.r0, h.r7, by have := h.w1; omega, h.w16⟩
theorem key_lt {o : Otc} (h : OkN o) : keyO o < 16 := by
  have := h.r0; have := h.r7
  unfold keyO
  split <;> omega
theorem key_runs {o : Otc} (h : 0 ≤ o.runs) : o.runs = ((keyO o / 2 : Nat) : Int) ∧ o.wick = decide (keyO o % 2 = 1) := by
  unfold keyO
  cases hw : o.wick <;> simp <;> omega
theorem otcOf_key {o : Otc} (h : 0 ≤ o.runs) : otcOf (keyO o) o.wt = o := by
  obtain ⟨r, w, x⟩ := o
  have := key_runs (o := ⟨r, w, x⟩) h
  unfold otcOf
  simp only at this
  rw [← this.1, ← this.2]
theorem key_otcOf (j : Nat) (x : Int) : keyO (otcOf j x) = j := by
  unfold keyO otcOf
  by_cases h : j % 2 = 1 <;> simp [h] <;> omega
theorem key_eq {a b : Otc} (ha : 0 ≤ a.runs) (hb : 0 ≤ b.runs) : keyO a = keyO b ↔ a.runs = b.runs ∧ a.wick = b.wick := by
  unfold keyO
  constructor
  · intro h
    cases hw : a.wick <;> cases hv : b.wick <;> rw [hw, hv] at h <;> simp at h <;> refine ⟨?_, ?_⟩ <;> first | rfl | omega | (exfalso; omega)
  · rintro ⟨h1, h2⟩; rw [h1, h2]
theorem ord_key {a b : Otc} (ha : 0 ≤ a.runs) (hb : 0 ≤ b.runs) : (ordS a b < 0 ↔ keyO a < keyO b) ∧ (ordS a b = 0 ↔ keyO a = keyO b) := by
  unfold ordS keyO
  by_cases h : a.runs = b.runs
  · rw [if_neg (by simpa using h), h]
    cases hw : a.wick <;> cases hv : b.wick <;> simp
  · rw [if_pos h]
    by_cases h2 : a.runs < b.runs
    · rw [if_pos h2]
      cases hw : a.wick <;> cases hv : b.wick <;> simp <;> omega
    · rw [if_neg h2]
      cases hw : a.wick <;> cases hv : b.wick <;> simp <;> omega
theorem bef_key {a b : Otc} (ha : 0 ≤ a.runs) (hb : 0 ≤ b.runs) : befB a b = decide (keyO a < keyO b) := by
  unfold befB
  rw [Bool.eq_iff_iff, decide_eq_true_eq, decide_eq_true_eq]
  exact (ord_key ha hb).1
theorem wAt_nil (j : Nat) : wAt [] j = 0 := rfl
theorem wAt_cons (o : Otc) (l : List Otc) (j : Nat) : wAt (o :: l) j = (if keyO o = j then o.wt else 0) + wAt l j := rfl
theorem wAt_app (l m : List Otc) (j : Nat) : wAt (l ++ m) j = wAt l j + wAt m j := by unfold wAt; rw [List.map_append, sumI_app]
theorem wAt_none {l : List Otc} {j : Nat} (h : ∀ o ∈ l, keyO o ≠ j) : wAt l j = 0 := by
  induction l with
  | nil => rfl
  | cons o l ih => rw [wAt_cons, if_neg (h o (by simp)), ih fun x hx => h x (by simp [hx])]; rfl
theorem wAt_nonneg {l : List Otc} (h : ∀ o ∈ l, 0 ≤ o.wt) (j : Nat) : 0 ≤ wAt l j := by
  induction l with
  | nil => exact Int.le_refl _
  | cons o l ih =>
    have h1 := ih fun x hx => h x (by simp [hx])
    have h2 := h o (by simp)
    rw [wAt_cons]; split <;> omega
theorem sumI_perm {l m : List Int} (h : l.Perm m) : sumI l = sumI m := by
  induction h with
  | nil => rfl
  | cons x _ ih => rw [sumI_cons, sumI_cons, ih]
  | swap x y l => simp only [sumI_cons]; omega
  | trans _ _ h1 h2 => rw [h1, h2]
theorem wAt_perm {l m : List Otc} (h : l.Perm m) (j : Nat) : wAt l j = wAt m j := sumI_perm (h.map _)
theorem canonF_congr {f g : Nat → Int} : ∀ m i, (∀ j, i ≤ j → j < i + m → f j = g j) → canonF f m i = canonF g m i
  | 0, _, _ => rfl
  | m + 1, i, h => by
    rw [canonF, canonF, h i (Nat.le_refl _) (by omega), canonF_congr m (i + 1) fun j h1 h2 => h j (by omega) (by omega)]
theorem canon_congr {f g : Nat → Int} (h : ∀ j, j < 16 → f j = g j) : canon f = canon g := canonF_congr 16 0 fun j _ h2 => h j (by omega)
/-- Strictly ascending keys, weights above 0. -/
structure Neat (l : List Otc) : Prop where
  asc : l.Pairwise fun a b => keyO a < keyO b
  each : ∀ o ∈ l, 0 ≤ o.runs ∧ o.runs ≤ 7 ∧ 0 < o.wt
theorem canonF_neat : ∀ (m i : Nat) (l : List Otc), i + m = 16 → Neat l → (∀ o ∈ l, i ≤ keyO o) → canonF (wAt l) m i = l := by
  intro m
  induction m with
  | zero =>
    intro i l him hn hi
    cases l with
    | nil => rfl
    | cons o l =>
      have h1 := hi o (by simp)
      have h2 := hn.each o (by simp)
      have h3 := key_lt (o := o) ⟨h2.1, h2.2.1, by omega, by
        exfalso
        have : keyO o < 16 := by unfold keyO; split <;> omega
        omega⟩
      omega
  | succ m ih =>
    intro i l him hn hi
    cases l with
    | nil =>
      rw [canonF, wAt_nil, if_neg (by omega), List.nil_append]
      exact ih (i + 1) [] (by omega) hn (by simp)
    | cons o l =>
      have ho := hn.each o (by simp)
      have hp := List.pairwise_cons.1 hn.asc
      have hl : Neat l := ⟨hp.2, fun x hx => hn.each x (by simp [hx])⟩
      by_cases hk : keyO o = i
      · have hz : wAt l i = 0 := wAt_none fun x hx => by have := hp.1 x hx; omega
        rw [canonF, wAt_cons, if_pos hk, hz, Int.add_zero, if_pos ho.2.2, ← hk, otcOf_key ho.1, canonF_congr (g := wAt l) m (keyO o + 1) fun j h1 h2 => by rw [wAt_cons, if_neg (by omega), Int.zero_add]]
        rw [ih (keyO o + 1) l (by omega) hl fun x hx => hp.1 x hx]
        rfl
      · have hlt : i < keyO o := by have := hi o (by simp); omega
        have hz : wAt (o :: l) i = 0 := wAt_none fun x hx => by
          rcases List.mem_cons.1 hx with rfl | hx
          · exact hk
          · have := hp.1 x hx; omega
        rw [canonF, hz, if_neg (by omega), List.nil_append]
        exact ih (i + 1) (o :: l) (by omega) hn fun x hx => by
          rcases List.mem_cons.1 hx with rfl | hx
          · omega
          · have := hp.1 x hx; omega
theorem canon_neat {l : List Otc} (h : Neat l) : canon (wAt l) = l := canonF_neat 16 0 l rfl h fun _ _ => Nat.zero_le _
theorem canonF_mem {f : Nat → Int} : ∀ (m i : Nat), ∀ o ∈ canonF f m i, i ≤ keyO o ∧ keyO o < i + m ∧ o = otcOf (keyO o) (f (keyO o)) ∧ 0 < o.wt
  | 0, _, o, h => by cases h
  | m + 1, i, o, h => by
    rw [canonF, List.mem_append] at h
    rcases h with h | h
    · by_cases hf : 0 < f i
      · rw [if_pos hf, List.mem_singleton] at h
        subst h
        rw [key_otcOf]
        exact ⟨Nat.le_refl _, by omega, rfl, hf⟩
      · rw [if_neg hf] at h; cases h
    · have := canonF_mem m (i + 1) o h
      exact ⟨by omega, by omega, this.2.2⟩
theorem canonF_asc {f : Nat → Int} : ∀ (m i : Nat), (canonF f m i).Pairwise fun a b => keyO a < keyO b
  | 0, _ => List.Pairwise.nil
  | m + 1, i => by
    rw [canonF, List.pairwise_append]
    refine ⟨?_, canonF_asc m (i + 1), ?_⟩
    · split
      · exact List.pairwise_singleton _ _
      · exact List.Pairwise.nil
    · intro a ha b hb
      have h2 := canonF_mem m (i + 1) b hb
      by_cases hf : 0 < f i
      · rw [if_pos hf, List.mem_singleton] at ha
        subst ha
        rw [key_otcOf]; omega
      · rw [if_neg hf] at ha; cases ha
theorem canon_Neat (f : Nat → Int) : Neat (canon f) := by
  refine ⟨canonF_asc 16 0, fun o ho => ?_⟩
  have h := canonF_mem 16 0 o ho
  have h2 : o.runs = ((keyO o / 2 : Nat) : Int) := by
    have := congrArg Otc.runs h.2.2.1
    exact this
  exact ⟨by omega, by omega, h.2.2.2⟩
def sumK (f : Nat → Int) : Nat → Nat → Int
  | 0, _ => 0
  | m + 1, i => f i + sumK f m (i + 1)
theorem sumK_congr {f g : Nat → Int} : ∀ m i, (∀ j, i ≤ j → j < i + m → f j = g j) → sumK f m i = sumK g m i
  | 0, _, _ => rfl
  | m + 1, i, h => by rw [sumK, sumK, h i (Nat.le_refl _) (by omega), sumK_congr m (i + 1) fun j h1 h2 => h j (by omega) (by omega)]
theorem sumK_add (f g : Nat → Int) : ∀ m i, sumK (fun j => f j + g j) m i = sumK f m i + sumK g m i
  | 0, _ => rfl
  | m + 1, i => by rw [sumK, sumK, sumK, sumK_add f g m (i + 1)]; omega
theorem sumK_one (k : Nat) (x : Int) : ∀ m i, sumK (fun j => if k = j then x else 0) m i = if i ≤ k ∧ k < i + m then x else 0
  | 0, i => by rw [sumK, if_neg (by omega)]
  | m + 1, i => by
    rw [sumK, sumK_one k x m (i + 1)]
    by_cases h : k = i
    · subst h; rw [if_pos rfl, if_neg (by omega), if_pos (by omega)]; omega
    · rw [if_neg h, Int.zero_add]
      by_cases h2 : i + 1 ≤ k ∧ k < i + 1 + m
      · rw [if_pos h2, if_pos (by omega)]
      · rw [if_neg h2, if_neg (by omega)]
theorem sumK_zero : ∀ m i, sumK (fun _ => 0) m i = 0
  | 0, _ => rfl
  | m + 1, i => by rw [sumK, sumK_zero m (i + 1)]; rfl
/-- The weights at the keys add up to the weights of the list. -/
theorem sumK_wAt : ∀ (l : List Otc), (∀ o ∈ l, 0 ≤ o.runs ∧ o.runs ≤ 7) → sumK (wAt l) 16 0 = sumI (l.map (·.wt))
  | [], _ => sumK_zero 16 0
  | o :: l, h => by
    have ho := h o (by simp)
    have hk : keyO o < 16 := by unfold keyO; split <;> omega
    have e : sumK (wAt (o :: l)) 16 0 = sumK (fun j => (if keyO o = j then o.wt else 0) + wAt l j) 16 0 := sumK_congr _ _ fun j _ _ => wAt_cons o l j
    rw [e, sumK_add, sumK_one, if_pos (by omega), sumK_wAt l fun x hx => h x (by simp [hx]), List.map_cons, sumI_cons]
theorem sumI_canonF {f : Nat → Int} : ∀ (m i : Nat), (∀ j, i ≤ j → j < i + m → 0 ≤ f j) → sumI ((canonF f m i).map (·.wt)) = sumK f m i
  | 0, _, _ => rfl
  | m + 1, i, h => by
    have h0 := h i (Nat.le_refl _) (by omega)
    rw [canonF, List.map_append, sumI_app, sumI_canonF m (i + 1) fun j h1 h2 => h j (by omega) (by omega), sumK]
    by_cases hf : 0 < f i
    · rw [if_pos hf]; simp [otcOf, sumI_cons, sumI_nil]
    · rw [if_neg hf, List.map_nil, sumI_nil]; omega
theorem canonF_len {f : Nat → Int} : ∀ (m i : Nat), (canonF f m i).length ≤ m
  | 0, _ => Nat.le_refl _
  | m + 1, i => by
    have := canonF_len (f := f) m (i + 1)
    rw [canonF, List.length_append]
    split <;> simp <;> omega
theorem sumK_pos {f : Nat → Int} : ∀ m i, (∀ j, i ≤ j → j < i + m → 0 ≤ f j) → 0 ≤ sumK f m i ∧ ∀ j, i ≤ j → j < i + m → f j ≤ sumK f m i
  | 0, _, _ => ⟨Int.le_refl _, fun j h1 h2 => by omega⟩
  | m + 1, i, h => by
    have h0 := h i (Nat.le_refl _) (by omega)
    obtain ⟨h1, h2⟩ := sumK_pos m (i + 1) fun j h1 h2 => h j (by omega) (by omega)
    rw [sumK]
    refine ⟨by omega, fun j h3 h4 => ?_⟩
    by_cases hj : j = i
    · subst hj; omega
    · have := h2 j (by omega) (by omega); omega
/-- A neat list whose weights add up to 16 is accepted. -/
theorem otcsF_neat : ∀ (l : List Otc) (p : Option Otc) (s : Int), l.Pairwise (fun a b => keyO a < keyO b) → (∀ o ∈ l, OkO o) → (∀ q, p = some q → 0 ≤ q.runs ∧ ∀ o ∈ l, keyO q < keyO o) → s + sumI (l.map (·.wt)) = 16 → otcsF p s l = 0
  | [], p, s, _, _, _, h => by
    rw [List.map_nil, sumI_nil] at h
    rw [otcsF, if_pos (by omega)]
  | o :: l, p, s, hp, ho, hq, h => by
    have hp' := List.pairwise_cons.1 hp
    have h1 := ho o (by simp)
    have hb : badO o = false := by
      have := h1.r0; have := h1.r7; have := h1.w1; have := h1.w16
      unfold badO
      simp only [Bool.or_eq_false_iff, decide_eq_false_iff_not]
      omega
    have he : otcErr p o = 0 := by
      cases p with
      | none => exact otcErr_none hb
      | some q =>
        obtain ⟨hq0, hq1⟩ := hq q rfl
        rw [otcErr_some hb, bef_key hq0 h1.r0, if_pos (decide_eq_true (hq1 o (by simp)))]
    rw [List.map_cons, sumI_cons] at h
    rw [otcsF, he, if_neg (by simp)]
    exact otcsF_neat l (some o) (s + o.wt) hp'.2 (fun x hx => ho x (by simp [hx])) (fun q e => by cases e; exact ⟨h1.r0, hp'.1⟩) (by omega)
theorem canon_ok {f : Nat → Int} (h : ∀ j, j < 16 → 0 ≤ f j) (hs : sumK f 16 0 = 16) : checkD (canon f) = 0 := by
  have hn := canon_Neat f
  have hsum : sumI ((canon f).map (·.wt)) = 16 := by unfold canon; rw [sumI_canonF 16 0 fun j _ h2 => h j (by omega)]; exact hs
  have hlen : (canon f).length ≤ 16 := canonF_len 16 0
  have hne : (canon f).length ≠ 0 := fun e => by
    rw [List.length_eq_zero_iff] at e
    rw [e, List.map_nil, sumI_nil] at hsum
    omega
  unfold checkD
  rw [if_neg hne, if_neg (by omega)]
  refine otcsF_neat _ none 0 hn.asc (fun o ho => ?_) (fun q e => by cases e) (by omega)
  have h1 := hn.each o ho
  refine ⟨h1.1, h1.2.1, by omega, ?_⟩
  have h2 := canonF_mem 16 0 o ho
  have h3 : o.wt = f (keyO o) := congrArg Otc.wt h2.2.2.1
  have h4 := (sumK_pos 16 0 fun j _ h2 => h j (by omega)).2 (keyO o) (by omega) (by omega)
  omega
/-- An accepted distribution is neat. -/
theorem otcsF_asc : ∀ (l : List Otc) (p : Option Otc) (s : Int), otcsF p s l = 0 → (∀ q, p = some q → 0 ≤ q.runs) → (l.Pairwise fun a b => keyO a < keyO b) ∧ ∀ q, p = some q → ∀ o ∈ l, keyO q < keyO o
  | [], p, s, _, _ => ⟨List.Pairwise.nil, fun _ _ o ho => by cases ho⟩
  | o :: l, p, s, h, hp => by
    rw [otcsF] at h
    by_cases he : otcErr p o = 0
    · rw [if_neg (by simpa using he)] at h
      have hb : badO o = false := by
        rcases hbb : badO o with _ | _
        · rfl
        · rw [otcErr_bad hbb] at he; omega
      have ho := badO_no hb
      obtain ⟨h1, h2⟩ := otcsF_asc l (some o) _ h fun q e => by cases e; exact ho.r0
      have h3 := h2 o rfl
      refine ⟨List.pairwise_cons.2 ⟨h3, h1⟩, fun q e x hx => ?_⟩
      subst e
      have hq := hp q rfl
      rw [otcErr_some hb, bef_key hq ho.r0] at he
      have hlt : keyO q < keyO o := by
        by_cases hlt : keyO q < keyO o
        · exact hlt
        · rw [decide_eq_false hlt] at he; simp at he
      rcases List.mem_cons.1 hx with rfl | hx
      · exact hlt
      · exact Nat.lt_trans hlt (h3 x hx)
    · rw [if_pos he] at h
      exact absurd h he
theorem checkD_neat {d : List Otc} (h : checkD d = 0) : Neat d := by
  have ho := checkD_ok h
  unfold checkD at h
  rw [if_neg (by have := ho.len; omega), if_neg (by have := ho.len; omega)] at h
  refine ⟨(otcsF_asc d none 0 h fun q e => by cases e).1, fun o hx => ?_⟩
  have := ho.each o hx
  exact ⟨this.r0, this.r7, by have := this.w1; omega⟩
/-- The program's Norm: the sorted list merged. -/
def mergeF : List Otc → List Otc → List Otc
  | out, [] => out
  | out, o :: l => if o.wt = 0 then mergeF out l else match out.getLast? with
    | none => mergeF (out ++ [o]) l
    | some p => if ordS p o = 0 then mergeF (out.dropLast ++ [{ p with wt := p.wt + o.wt }]) l else mergeF (out ++ [o]) l
theorem wAt_last {out : List Otc} {p : Otc} (h : out.getLast? = some p) (x : Int) (j : Nat) : wAt (out.dropLast ++ [{ p with wt := p.wt + x }]) j = wAt out j + if keyO p = j then x else 0 := by
  have e : out = out.dropLast ++ [p] := by
    have hne : out ≠ [] := fun e => by rw [e] at h; cases h
    rw [List.getLast?_eq_some_getLast hne] at h
    have h' := Option.some.inj h
    conv => lhs; rw [← List.dropLast_concat_getLast hne]
    rw [h']
  conv => rhs; rw [e]
  rw [wAt_app, wAt_app, wAt_cons, wAt_cons, wAt_nil, show keyO { p with wt := p.wt + x } = keyO p from rfl]
  by_cases hk : keyO p = j
  · rw [if_pos hk, if_pos hk, if_pos hk]; simp only; omega
  · rw [if_neg hk, if_neg hk, if_neg hk]; omega
theorem mergeF_neat : ∀ (l out : List Otc), (∀ o ∈ l, OkN o) → (l.Pairwise fun a b => keyO a ≤ keyO b) → Neat out → (∀ a ∈ out, ∀ o ∈ l, keyO a ≤ keyO o) →
    Neat (mergeF out l) ∧ ∀ j, wAt (mergeF out l) j = wAt out j + wAt l j
  | [], out, _, _, hn, _ => ⟨hn, fun j => by rw [mergeF, wAt_nil, Int.add_zero]⟩
  | o :: l, out, ho, hs, hn, hle => by
    have hs' := List.pairwise_cons.1 hs
    have ho1 := ho o (by simp)
    have hol := fun x hx => ho x (List.mem_cons_of_mem o hx)
    have hll := fun a ha x hx => hle a ha x (List.mem_cons_of_mem o hx)
    by_cases h0 : o.wt = 0
    · rw [mergeF, if_pos h0]
      obtain ⟨h1, h2⟩ := mergeF_neat l out hol hs'.2 hn hll
      exact ⟨h1, fun j => by rw [h2, wAt_cons, h0]; simp⟩
    · have hpos : 0 < o.wt := by have := ho1.w0; omega
      have app : (∀ a ∈ out, keyO a < keyO o) → Neat (mergeF (out ++ [o]) l) ∧ ∀ j, wAt (mergeF (out ++ [o]) l) j = wAt out j + wAt (o :: l) j := fun hlt => by
        have hn2 : Neat (out ++ [o]) := ⟨List.pairwise_append.2 ⟨hn.asc, List.pairwise_singleton _ _, fun a ha b hb => by rw [List.mem_singleton.1 hb]; exact hlt a ha⟩, fun x hx => by
          rcases List.mem_append.1 hx with hx | hx
          · exact hn.each x hx
          · rw [List.mem_singleton.1 hx]; exact ⟨ho1.r0, ho1.r7, hpos⟩⟩
        obtain ⟨h1, h2⟩ := mergeF_neat l (out ++ [o]) hol hs'.2 hn2 fun a ha x hx => by
          rcases List.mem_append.1 ha with ha | ha
          · exact hll a ha x hx
          · rw [List.mem_singleton.1 ha]; exact hs'.1 x hx
        exact ⟨h1, fun j => by rw [h2, wAt_app, wAt_cons, wAt_cons, wAt_nil]; omega⟩
      rw [mergeF, if_neg h0]
      cases hg : out.getLast? with
      | none =>
        have : out = [] := List.getLast?_eq_none_iff.1 hg
        subst this
        exact app (by simp)
      | some p =>
        have hne : out ≠ [] := fun e => by rw [e] at hg; cases hg
        have hpe : out.getLast hne = p := by
          rw [List.getLast?_eq_some_getLast hne] at hg; exact Option.some.inj hg
        have hpm : p ∈ out := by rw [← hpe]; exact List.getLast_mem hne
        have hpo := hn.each p hpm
        have e : out = out.dropLast ++ [p] := by
          conv => lhs; rw [← List.dropLast_concat_getLast hne]
          rw [hpe]
        have hpw := hn.asc
        rw [e, List.pairwise_append] at hpw
        by_cases hk : ordS p o = 0
        · have hke := (ord_key hpo.1 ho1.r0).2.1 hk
          have hn2 : Neat (out.dropLast ++ [{ p with wt := p.wt + o.wt }]) := ⟨List.pairwise_append.2 ⟨hpw.1, List.pairwise_singleton _ _, fun a ha b hb => by
            rw [List.mem_singleton.1 hb]; exact hpw.2.2 a ha p (by simp)⟩, fun x hx => by
            rcases List.mem_append.1 hx with hx | hx
            · exact hn.each x (List.dropLast_subset out hx)
            · rw [List.mem_singleton.1 hx]; exact ⟨hpo.1, hpo.2.1, by simp only; omega⟩⟩
          obtain ⟨h1, h2⟩ := mergeF_neat l (out.dropLast ++ [{ p with wt := p.wt + o.wt }]) hol hs'.2 hn2 fun a ha x hx => by
            rcases List.mem_append.1 ha with ha | ha
            · exact hll a (List.dropLast_subset out ha) x hx
            · rw [List.mem_singleton.1 ha]; exact hll p hpm x hx
          simp only [hk, if_true]
          exact ⟨h1, fun j => by rw [h2, wAt_last hg, wAt_cons, hke]; omega⟩
        · simp only [hk, if_false]
          have hne' : keyO p ≠ keyO o := fun h => hk ((ord_key hpo.1 ho1.r0).2.2 h)
          have hplt : keyO p < keyO o := by have := hle p hpm o (by simp); omega
          refine app fun a ha => ?_
          rw [e] at ha
          rcases List.mem_append.1 ha with ha | ha
          · exact Nat.lt_trans (hpw.2.2 a ha p (by simp)) hplt
          · rw [List.mem_singleton.1 ha]; exact hplt
/-- A sorted arrangement of the outcomes, merged, is the distribution of their weights at the keys. -/
theorem merge_norm {d l : List Otc} (hp : l.Perm d) (ho : ∀ o ∈ d, OkN o) (hs : l.Pairwise fun a b => keyO a ≤ keyO b) : mergeF [] l = canon (wAt d) := by
  obtain ⟨h1, h2⟩ := mergeF_neat l [] (fun o hx => ho o (hp.mem_iff.1 hx)) hs ⟨List.Pairwise.nil, fun o hx => by cases hx⟩ fun a ha => by cases ha
  rw [← canon_neat h1]
  exact canon_congr fun j _ => by rw [h2, wAt_nil, Int.zero_add, wAt_perm hp]
end Go.Proofs.YtjchapoggmipbaaGreatDoor

namespace Go.Proofs.YtjchapoggmipbaaGreatDoor

/-- The most runs without a wicket that bear a weight. -/
def topF (f : Nat → Int) : Nat → Nat
  | 0 => 0
  | r + 1 => if f (2 * (r + 1)) = 0 then topF f r else r + 1
def upd (f : Nat → Int) (j : Nat) (x : Int) : Nat → Int := fun k => if k = j then f k + x else f k
def hardF (n : Nat) (f : Nat → Int) : Nat → Int := if topF f 7 = 0 then f else upd (upd f (2 * topF f 7) (-1)) (n % 2) 1
def easyF (f : Nat → Int) : Nat → Int := if 0 < f 1 then upd (upd f 1 (-1)) 2 1 else if 0 < f 0 then upd (upd f 0 (-1)) 2 1 else f
def hardK (f : Nat → Int) : Nat → Nat → Int
  | 0 => f
  | n + 1 => hardF n (hardK f n)
def easyK (f : Nat → Int) : Nat → Nat → Int
  | 0 => f
  | n + 1 => easyF (easyK f n)
def moveW (f : Nat → Int) (n : Int) : Nat → Int := if 0 ≤ n then hardK f n.toNat else easyK f (-n).toNat
def shiftS (d : List Otc) (n : Int) : List Otc × Int :=
  if checkD d ≠ 0 then ([], checkD d) else if n < -12 ∨ 12 < n then ([], 2) else (canon (moveW (wAt d) n), 0)
/-- Weights that make a distribution. -/
structure Fit (f : Nat → Int) : Prop where
  pos : ∀ j, j < 16 → 0 ≤ f j
  sum : sumK f 16 0 = 16
theorem topF_le (f : Nat → Int) : ∀ m, topF f m ≤ m
  | 0 => Nat.le_refl _
  | r + 1 => by
    have := topF_le f r
    rw [topF]; split <;> omega
theorem topF_ne {f : Nat → Int} : ∀ m, topF f m ≠ 0 → f (2 * topF f m) ≠ 0
  | 0, h => absurd rfl h
  | r + 1, h => by
    rw [topF] at h ⊢
    by_cases h0 : f (2 * (r + 1)) = 0
    · rw [if_pos h0] at h ⊢; exact topF_ne r h
    · rw [if_neg h0]; exact h0
theorem topF_over {f : Nat → Int} : ∀ m r, topF f m < r → r ≤ m → f (2 * r) = 0
  | 0, r, h1, h2 => by rw [topF] at h1; omega
  | m + 1, r, h1, h2 => by
    rw [topF] at h1
    by_cases h0 : f (2 * (m + 1)) = 0
    · rw [if_pos h0] at h1
      by_cases hr : r = m + 1
      · rw [hr]; exact h0
      · exact topF_over m r h1 (by omega)
    · rw [if_neg h0] at h1; omega
theorem topF_at {f : Nat → Int} {m r : Nat} (h0 : f (2 * r) ≠ 0) (h1 : ∀ s, r < s → s ≤ m → f (2 * s) = 0) (h2 : r ≤ m) (h3 : 1 ≤ r) : topF f m = r := by
  have hle := topF_le f m
  rcases Nat.lt_trichotomy (topF f m) r with h | h | h
  · exact absurd (topF_over m r h h2) h0
  · exact h
  · exact absurd (h1 _ h hle) (topF_ne m (by omega))
theorem topF_none {f : Nat → Int} {m : Nat} (h : ∀ s, 1 ≤ s → s ≤ m → f (2 * s) = 0) : topF f m = 0 := by
  rcases Nat.eq_zero_or_pos (topF f m) with h0 | h0
  · exact h0
  · exact absurd (h _ h0 (topF_le f m)) (topF_ne m (by omega))
theorem sumK_upd (c f : Nat → Int) (k : Nat) (x : Int) : ∀ m i, sumK (fun j => c j * upd f k x j) m i = sumK (fun j => c j * f j) m i + if i ≤ k ∧ k < i + m then c k * x else 0
  | 0, i => by rw [sumK, sumK, if_neg (by omega)]; rfl
  | m + 1, i => by
    rw [sumK, sumK, sumK_upd c f k x m (i + 1)]
    by_cases h : i = k
    · subst h
      rw [upd, if_pos rfl, if_neg (by omega), if_pos (by omega), Int.mul_add]; omega
    · rw [upd, if_neg h]
      by_cases h2 : i + 1 ≤ k ∧ k < i + 1 + m
      · rw [if_pos h2, if_pos (by omega)]; omega
      · rw [if_neg h2, if_neg (by omega)]; omega
theorem sumK_upd1 (f : Nat → Int) (k : Nat) (x : Int) (hk : k < 16) : sumK (upd f k x) 16 0 = sumK f 16 0 + x := by
  have h := sumK_upd (fun _ => 1) f k x 16 0
  simp only [Int.one_mul] at h
  rw [if_pos (by omega)] at h
  exact h
theorem Fit.upd2 {f : Nat → Int} (h : Fit f) {a b : Nat} (ha : a < 16) (hb : b < 16) (h0 : 0 < f a) : Fit (upd (upd f a (-1)) b 1) := by
  refine ⟨fun j hj => ?_, by rw [sumK_upd1 _ _ _ hb, sumK_upd1 _ _ _ ha, h.sum]; rfl⟩
  have := h.pos j hj
  unfold upd
  by_cases h1 : j = b
  · rw [if_pos h1]
    by_cases h2 : j = a
    · rw [if_pos h2]; omega
    · rw [if_neg h2]; omega
  · rw [if_neg h1]
    by_cases h2 : j = a
    · rw [if_pos h2]; subst h2; omega
    · rw [if_neg h2]; omega
theorem Fit.top {f : Nat → Int} (h : Fit f) (h0 : topF f 7 ≠ 0) : 0 < f (2 * topF f 7) := by
  have h1 := topF_ne 7 h0
  have h2 := h.pos (2 * topF f 7) (by have := topF_le f 7; omega)
  omega
theorem Fit.hard {f : Nat → Int} (h : Fit f) (n : Nat) : Fit (hardF n f) := by
  unfold hardF
  by_cases h0 : topF f 7 = 0
  · rw [if_pos h0]; exact h
  · rw [if_neg h0]; exact h.upd2 (by have := topF_le f 7; omega) (by omega) (h.top h0)
theorem Fit.easy {f : Nat → Int} (h : Fit f) : Fit (easyF f) := by
  unfold easyF
  by_cases h0 : 0 < f 1
  · rw [if_pos h0]; exact h.upd2 (by omega) (by omega) h0
  · rw [if_neg h0]
    by_cases h1 : 0 < f 0
    · rw [if_pos h1]; exact h.upd2 (by omega) (by omega) h1
    · rw [if_neg h1]; exact h
theorem Fit.hardK {f : Nat → Int} (h : Fit f) : ∀ n, Fit (Go.Proofs.YtjchapoggmipbaaGreatDoor.hardK f n)
  | 0 => h
  | n + 1 => (Fit.hardK h n).hard n
theorem Fit.easyK {f : Nat → Int} (h : Fit f) : ∀ n, Fit (Go.Proofs.YtjchapoggmipbaaGreatDoor.easyK f n)
  | 0 => h
  | n + 1 => (Fit.easyK h n).easy
theorem Fit.move {f : Nat → Int} (h : Fit f) (n : Int) : Fit (moveW f n) := by
  unfold moveW; split
  · exact h.hardK _
  · exact h.easyK _
theorem Fit.le {f : Nat → Int} (h : Fit f) {j : Nat} (hj : j < 16) : f j ≤ 16 := by
  have := (sumK_pos 16 0 fun j _ h2 => h.pos j (by omega)).2 j (by omega) (by omega)
  have := h.sum
  omega
theorem fit_of {d : List Otc} (h : checkD d = 0) : Fit (wAt d) := by
  have ho := checkD_ok h
  exact ⟨fun j _ => wAt_nonneg (fun o hx => by have := (ho.each o hx).w1; omega) j, by rw [sumK_wAt d fun o hx => ⟨(ho.each o hx).r0, (ho.each o hx).r7⟩]; exact ho.sum⟩
theorem shift_check {d : List Otc} {n : Int} (h : (shiftS d n).2 = 0) : checkD (shiftS d n).1 = 0 ∧ checkD d = 0 ∧ -12 ≤ n ∧ n ≤ 12 ∧ (shiftS d n).1 = canon (moveW (wAt d) n) := by
  unfold shiftS at h ⊢
  by_cases h1 : checkD d ≠ 0
  · rw [if_pos h1] at h; exact absurd h h1
  · rw [if_neg h1] at h ⊢
    by_cases h2 : n < -12 ∨ 12 < n
    · rw [if_pos h2] at h; cases h
    · rw [if_neg h2]
      have hf := (fit_of (d := d) (by omega)).move n
      exact ⟨canon_ok hf.pos hf.sum, by omega, by omega, by omega, rfl⟩
theorem shift_ok {d : List Otc} {n : Int} (h : checkD d = 0) (h0 : -12 ≤ n) (h1 : n ≤ 12) : shiftS d n = (canon (moveW (wAt d) n), 0) := by
  unfold shiftS
  rw [if_neg (by omega), if_neg (by omega)]
/-- Where nothing can be made harder, nothing changes any more. -/
theorem hardK_stop {f : Nat → Int} {i : Nat} (h : topF (hardK f i) 7 = 0) : ∀ m, hardK f (i + m) = hardK f i
  | 0 => rfl
  | m + 1 => by
    rw [← Nat.add_assoc, hardK, hardK_stop h m, hardF, if_pos h]
theorem easyK_stop {f : Nat → Int} {i : Nat} (h1 : ¬ 0 < easyK f i 1) (h0 : ¬ 0 < easyK f i 0) : ∀ m, easyK f (i + m) = easyK f i
  | 0 => rfl
  | m + 1 => by
    rw [← Nat.add_assoc, easyK, easyK_stop h1 h0 m, easyF, if_neg h1, if_neg h0]
end Go.Proofs.YtjchapoggmipbaaGreatDoor

namespace Go.Proofs.YtjchapoggmipbaaGreatDoor

structure Bat where
  name : List UInt8
  dist : List Otc
structure Bow where
  name : List UInt8
  shift : Int
structure Mdl where
  bats : List Bat
  bows : List Bow
def batErr (pre : List (List UInt8)) (b : Bat) : Int := if nameS b.name = false then 5 else if b.name ∈ pre then 7 else checkD b.dist
def batsF : List (List UInt8) → List Bat → Int
  | _, [] => 0
  | pre, b :: l => if batErr pre b ≠ 0 then batErr pre b else batsF (pre ++ [b.name]) l
def bowErr (pre : List (List UInt8)) (b : Bow) : Int := if nameS b.name = false then 5 else if b.name ∈ pre then 7 else if b.shift < -12 ∨ 12 < b.shift then 2 else 0
def bowsF : List (List UInt8) → List Bow → Int
  | _, [] => 0
  | pre, b :: l => if bowErr pre b ≠ 0 then bowErr pre b else bowsF (pre ++ [b.name]) l
def checkM (m : Mdl) : Int :=
  if m.bats.length = 0 ∨ m.bows.length = 0 then 6 else if 11 < m.bats.length ∨ 11 < m.bows.length then 9
  else if batsF [] m.bats ≠ 0 then batsF [] m.bats else bowsF [] m.bows
def batI (l : List Bat) (n : List UInt8) : Int := indexS (l.map (·.name)) n
def bowI (l : List Bow) (n : List UInt8) : Int := indexS (l.map (·.name)) n
theorem indexF_before (s : List UInt8) : ∀ (l : List (List UInt8)) (i j : Nat) (hi : i < l.length), l[i] = s → (indexF s l j < ((j + i : Nat) : Int) ↔ s ∈ l.take i)
  | a :: l, i, j, hi, he => by
    rw [indexF]
    by_cases ha : a = s
    · rw [if_pos ha]
      cases i with
      | zero => simp
      | succ i => rw [List.take_succ_cons]; simp [ha]; omega
    · rw [if_neg ha]
      cases i with
      | zero => exact absurd he ha
      | succ i =>
        have := indexF_before s l i (j + 1) (by simpa using hi) (by simpa using he)
        rw [List.take_succ_cons, List.mem_cons]
        rw [show j + (i + 1) = j + 1 + i from by omega, this]
        constructor
        · exact fun h => .inr h
        · rintro (h | h)
          · exact absurd h.symm ha
          · exact h
theorem batI_before {l : List Bat} {k : Nat} (hk : k < l.length) : decide (batI l l[k].name < (k : Int)) = decide (l[k].name ∈ (l.take k).map (·.name)) := by
  rw [Bool.eq_iff_iff, decide_eq_true_eq, decide_eq_true_eq]
  have := indexF_before l[k].name (l.map (·.name)) k 0 (by simpa using hk) (by simp)
  rw [Nat.zero_add, ← List.map_take] at this
  exact this
theorem bowI_before {l : List Bow} {k : Nat} (hk : k < l.length) : decide (bowI l l[k].name < (k : Int)) = decide (l[k].name ∈ (l.take k).map (·.name)) := by
  rw [Bool.eq_iff_iff, decide_eq_true_eq, decide_eq_true_eq]
  have := indexF_before l[k].name (l.map (·.name)) k 0 (by simpa using hk) (by simp)
  rw [Nat.zero_add, ← List.map_take] at this
  exact this
theorem take_map_succ {α β : Type} (g : α → β) {l : List α} {k : Nat} (hk : k < l.length) : (l.take (k + 1)).map g = (l.take k).map g ++ [g l[k]] := by
  rw [List.take_add_one, List.getElem?_eq_getElem hk, List.map_append]; rfl
theorem batsF_at {l : List Bat} {k : Nat} (hk : k < l.length) : batsF ((l.take k).map (·.name)) (l.drop k) =
    if batErr ((l.take k).map (·.name)) l[k] ≠ 0 then batErr ((l.take k).map (·.name)) l[k] else batsF ((l.take (k + 1)).map (·.name)) (l.drop (k + 1)) := by
  rw [List.drop_eq_getElem_cons hk, batsF, take_map_succ (·.name) hk]
theorem bowsF_at {l : List Bow} {k : Nat} (hk : k < l.length) : bowsF ((l.take k).map (·.name)) (l.drop k) =
    if bowErr ((l.take k).map (·.name)) l[k] ≠ 0 then bowErr ((l.take k).map (·.name)) l[k] else bowsF ((l.take (k + 1)).map (·.name)) (l.drop (k + 1)) := by
  rw [List.drop_eq_getElem_cons hk, bowsF, take_map_succ (·.name) hk]
theorem batsF_ok : ∀ (l : List Bat) (pre : List (List UInt8)), batsF pre l = 0 → ∀ b ∈ l, nameS b.name = true ∧ checkD b.dist = 0
  | [], _, _, b, hb => by cases hb
  | a :: l, pre, h, b, hb => by
    rw [batsF] at h
    by_cases he : batErr pre a = 0
    · rw [if_neg (by simpa using he)] at h
      rcases List.mem_cons.1 hb with rfl | hb
      · unfold batErr at he
        by_cases h1 : nameS b.name = false
        · rw [if_pos h1] at he; cases he
        · rw [if_neg h1] at he
          by_cases h2 : b.name ∈ pre
          · rw [if_pos h2] at he; cases he
          · rw [if_neg h2] at he; exact ⟨by simpa using h1, he⟩
      · exact batsF_ok l _ h b hb
    · rw [if_pos he] at h; exact absurd h he
theorem bowsF_ok : ∀ (l : List Bow) (pre : List (List UInt8)), bowsF pre l = 0 → ∀ b ∈ l, nameS b.name = true ∧ -12 ≤ b.shift ∧ b.shift ≤ 12
  | [], _, _, b, hb => by cases hb
  | a :: l, pre, h, b, hb => by
    rw [bowsF] at h
    by_cases he : bowErr pre a = 0
    · rw [if_neg (by simpa using he)] at h
      rcases List.mem_cons.1 hb with rfl | hb
      · unfold bowErr at he
        by_cases h1 : nameS b.name = false
        · rw [if_pos h1] at he; cases he
        · rw [if_neg h1] at he
          by_cases h2 : b.name ∈ pre
          · rw [if_pos h2] at he; cases he
          · rw [if_neg h2] at he
            by_cases h3 : b.shift < -12 ∨ 12 < b.shift
            · rw [if_pos h3] at he; cases he
            · exact ⟨by simpa using h1, by omega, by omega⟩
      · exact bowsF_ok l _ h b hb
    · rw [if_pos he] at h; exact absurd h he
structure OkM (m : Mdl) : Prop where
  nb : 1 ≤ m.bats.length ∧ m.bats.length ≤ 11
  nw : 1 ≤ m.bows.length ∧ m.bows.length ≤ 11
  bat : ∀ b ∈ m.bats, nameS b.name = true ∧ checkD b.dist = 0
  bow : ∀ b ∈ m.bows, nameS b.name = true ∧ -12 ≤ b.shift ∧ b.shift ≤ 12
theorem checkM_ok {m : Mdl} (h : checkM m = 0) : OkM m := by
  unfold checkM at h
  by_cases h1 : m.bats.length = 0 ∨ m.bows.length = 0
  · rw [if_pos h1] at h; cases h
  · rw [if_neg h1] at h
    by_cases h2 : 11 < m.bats.length ∨ 11 < m.bows.length
    · rw [if_pos h2] at h; cases h
    · rw [if_neg h2] at h
      by_cases h3 : batsF [] m.bats ≠ 0
      · rw [if_pos h3] at h; exact absurd h h3
      · rw [if_neg h3] at h
        exact ⟨by omega, by omega, batsF_ok _ [] (by omega), bowsF_ok _ [] h⟩
end Go.Proofs.YtjchapoggmipbaaGreatDoor

namespace Go.Proofs.YtjchapoggmipbaaGreatDoor
open Go.RowKit

def elBat (w : World) (F : Nat → Prop) (cs : List Value) (b : Bat) : Prop := (∃ v, cs = [.string (S b.name), v] ∧ Sl 3 elOtc w F v b.dist) ∧ b.name.length ≤ maxLen
theorem elBat_good : Good elBat := ⟨fun ⟨⟨v, h, hs⟩, hl⟩ hk hG => ⟨⟨v, h, hs.keep elOtc_good hk hG⟩, hl⟩⟩
def elBow (_ : World) (_ : Nat → Prop) (cs : List Value) (b : Bow) : Prop := cs = [.string (S b.name), .int .i64 b.shift] ∧ b.name.length ≤ maxLen
theorem elBow_good : Good elBow := ⟨fun h _ _ => h⟩
theorem bat_at {w : World} {F : Nat → Prop} {A : Option Addr} {n c : Nat} {l : List Bat} (h : Sl 2 elBat w F (.slice A n c) l) {k : Nat} (hk : k < l.length) :
    ∃ b o v, A = some ⟨b, o, none⟩ ∧ F b ∧ w.cell? ⟨b, o + k * 2, none⟩ = some (.string (S l[k].name)) ∧ w.cell? ⟨b, o + k * 2 + 1, none⟩ = some v ∧ Sl 3 elOtc w F v l[k].dist ∧ l[k].name.length ≤ maxLen := by
  obtain ⟨b, o, cs, hA, hF, hl, hc, ⟨v, rfl, hs⟩, hn⟩ := h.at hk
  exact ⟨b, o, v, hA, hF, hc 0 _ rfl, hc 1 _ rfl, hs, hn⟩
theorem bow_at {w : World} {F : Nat → Prop} {A : Option Addr} {n c : Nat} {l : List Bow} (h : Sl 2 elBow w F (.slice A n c) l) {k : Nat} (hk : k < l.length) :
    ∃ b o, A = some ⟨b, o, none⟩ ∧ F b ∧ w.cell? ⟨b, o + k * 2, none⟩ = some (.string (S l[k].name)) ∧ w.cell? ⟨b, o + k * 2 + 1, none⟩ = some (.int .i64 l[k].shift) ∧ l[k].name.length ≤ maxLen := by
  obtain ⟨b, o, cs, hA, hF, hl, hc, rfl, hn⟩ := h.at hk
  exact ⟨b, o, hA, hF, hc 0 _ rfl, hc 1 _ rfl, hn⟩
/-- A model that lies: its two slices. -/
structure MdlAt (w : World) (F : Nat → Prop) (bv wv : Value) (m : Mdl) : Prop where
  bat : Sl 2 elBat w F bv m.bats
  bow : Sl 2 elBow w F wv m.bows
theorem MdlAt.keep {w w' : World} {F G : Nat → Prop} {bv wv : Value} {m : Mdl} (h : MdlAt w F bv wv m) (hs : Same F w w') (hG : ∀ b, F b → G b) : MdlAt w' G bv wv m := ⟨h.bat.keep elBat_good hs hG, h.bow.keep elBow_good hs hG⟩
theorem MdlAt.below {w w' : World} {bv wv : Value} {m : Mdl} (h : MdlAt w (· < w.heap.size) bv wv m) (hb : Below w.heap.size w w') : MdlAt w' (· < w'.heap.size) bv wv m :=
  h.keep (Same.of_below hb) fun b h => Nat.lt_of_lt_of_le h hb.size
end Go.Proofs.YtjchapoggmipbaaGreatDoor

namespace Go.Proofs.YtjchapoggmipbaaGreatDoor
open Go.ChangeShapes Go.WideShapes Go.ChangeAt Go.RowKit

theorem cellsBat : Tryz.prog.cellsOf 68 = 2 := by kernel_rfl
theorem cellsBow : Tryz.prog.cellsOf 143 = 2 := by kernel_rfl
theorem cellsMdl : Tryz.prog.cellsOf 25 = 2 := by kernel_rfl
theorem cellsOtcs : Tryz.prog.cellsOf 32 = 1 := by kernel_rfl
theorem cellsBats : Tryz.prog.cellsOf 22 = 1 := by kernel_rfl
theorem cellsBows : Tryz.prog.cellsOf 23 = 1 := by kernel_rfl
section
variable {H : Type} {enc : TypeId × Value → H} {W : World}
instance : Inhabited Bat := ⟨⟨[], []⟩⟩
instance : Inhabited Bow := ⟨⟨[], 0⟩⟩
set_option maxRecDepth 100000 in
theorem bat_one {fuel : Nat} {held : Bool} {cs : List Value} {x : DataW H × List MemPlace} (h : DataW.trod enc Tryz.prog W 0 (fun _ => true) held fuel 68 cs = some x) :
    ∃ f : Bat, elBat W (· < W.heap.size) cs f := by
  obtain ⟨ys, n, _, rfl, hc, hl, hf⟩ := DataW.trod_struct Tryz.underlying68 h
  rw [cellsBat] at hc
  match cs, hc with
  | [u0, u1], _ =>
    match ys, hl with
    | [z0, z1], _ =>
      have k0 := hf 0 _ rfl
      have k1 := hf 1 _ rfl
      obtain ⟨s, e0, _, hs⟩ := DataW.trod_string Tryz.underlying9 k0
      obtain ⟨v, l, e1, hsl⟩ := sl_raw (size := 3) (el := elOtc) Tryz.underlying32 cellsOtc (by decide) (fun h => otc_one h) k1
      have g0 : u0 = .string s := by simpa [Value.cells, cellsStr, cellsOtcs] using e0
      have g1 : u1 = v := by simpa [Value.cells, cellsStr, cellsOtcs] using e1
      subst g0 g1
      exact ⟨⟨s.data.toList, l⟩, ⟨_, by rw [S_of], hsl⟩, by simpa using hs⟩
set_option maxRecDepth 100000 in
theorem bow_one {F : Nat → Prop} {fuel : Nat} {held : Bool} {cs : List Value} {x : DataW H × List MemPlace} (h : DataW.trod enc Tryz.prog W 0 (fun _ => true) held fuel 143 cs = some x) :
    ∃ f : Bow, elBow W F cs f := by
  obtain ⟨ys, n, _, rfl, hc, hl, hf⟩ := DataW.trod_struct Tryz.underlying143 h
  rw [cellsBow] at hc
  match cs, hc with
  | [u0, u1], _ =>
    match ys, hl with
    | [z0, z1], _ =>
      have k0 := hf 0 _ rfl
      have k1 := hf 1 _ rfl
      obtain ⟨s, e0, _, hs⟩ := DataW.trod_string Tryz.underlying9 k0
      obtain ⟨a1, e1, _, _⟩ := DataW.trod_int Tryz.underlying3 k1
      have g0 : u0 = .string s := by simpa [Value.cells, cellsStr, cellsI'] using e0
      have g1 : u1 = .int .i64 a1 := by simpa [Value.cells, cellsStr, cellsI'] using e1
      subst g0 g1
      exact ⟨⟨s.data.toList, a1⟩, by rw [S_of], by simpa using hs⟩
end
end Go.Proofs.YtjchapoggmipbaaGreatDoor

namespace Go.Proofs.YtjchapoggmipbaaGreatDoor
open Go.RowKit

@[reducible] def tBld : TypeId := 159
end Go.Proofs.YtjchapoggmipbaaGreatDoor

namespace Go.Proofs.YtjchapoggmipbaaGreatDoor
open Go.RowKit


section
variable {B : Nat} {w : World} {go gi : Nat} {oc ic : Array Value} {cu cu' : List UInt8} {W W' : World}
end

end Go.Proofs.YtjchapoggmipbaaGreatDoor

namespace Go.Proofs.YtjchapoggmipbaaGreatDoor
section
/-! part N2 -/
open Go.RowKit

theorem trimPrefix_body (l : List UInt8) : Lib.trimPrefix l [45] = bodyD l := by
  unfold Lib.trimPrefix Lib.hasPrefix bodyD negB
  cases l with
  | nil => rfl
  | cons c r =>
    have : [45].isPrefixOf (c :: r) = (45 == c) := by simp [List.isPrefixOf]
    rw [this]
    by_cases h : c = 45
    · subst h; simp
    · have h1 : ((45 : UInt8) == c) = false := beq_eq_false_iff_ne.2 (Ne.symm h)
      have h2 : ((c :: r).head? == some 45) = false := by simp [h]
      rw [h1, h2]; simp
theorem isEmptyT {s : ByteArray} (h : s.size = 0) : s.toList.isEmpty = true := by rw [ByteArray.toList_eq, List.isEmpty_iff, ← List.length_eq_zero_iff]; simpa using h
theorem isEmptyF {s : ByteArray} (h : s.size ≠ 0) : s.toList.isEmpty = false := by rw [Bool.eq_false_iff]; intro h'; rw [ByteArray.toList_eq, List.isEmpty_iff, ← List.length_eq_zero_iff] at h'; exact h (by simpa using h')
theorem headG {s : ByteArray} (h : 0 < s.size) : s.data.toList.head? = some s[0] := by
  have : s.data.toList = s[0] :: s.data.toList.drop 1 := by have := drop_cons s 0 h; simpa using this
  rw [this]; rfl
theorem body_len (l : List UInt8) : (bodyD l).length ≤ l.length := by unfold bodyD; split <;> simp
set_option maxRecDepth 100000 in
set_option maxHeartbeats 2000000 in
theorem text_decimal (s : ByteArray) (w : World) (hs : s.size ≤ maxLen) :
    Calls Tryz.prog 71 #[.string s] w fun e w' => e = .returned (.bool (decB s.data.toList)) ∧ Below w.heap.size w w' := by
  unfold maxLen at hs
  obtain ⟨z, hz⟩ : ∃ z, z = decB s.data.toList := ⟨_, rfl⟩
  rw [← hz]
  unfold decB at hz
  have hbl := body_len s.data.toList
  have hsl : s.data.toList.length = s.size := by simp
  obtain ⟨d, hd⟩ : ∃ d : ByteArray, d = S (bodyD s.data.toList) := ⟨_, rfl⟩
  have hdd : d.data.toList = bodyD s.data.toList := by rw [hd]; rfl
  have hds : d.size ≤ 9223372036854775807 := by rw [hd, S_size]; omega
  rw [← hdd] at hz
  have tp : ∀ W, Calls Tryz.prog 92 #[.string s, .string ⟨#[45]⟩] W fun e W' => e = .returned (.string d) ∧ W = W' := fun W => by
    refine (Tryz.strings_TrimPrefix s ⟨#[45]⟩ W).mono ?_
    rintro e W' ⟨rfl, rfl⟩
    refine ⟨?_, rfl⟩
    rw [show (⟨#[45]⟩ : ByteArray).data.toList = [45] from rfl, trimPrefix_body, hd]; rfl
  have tm : ∀ W, Calls Tryz.prog 93 #[.string d, .string ⟨#[48, 49, 50, 51, 52, 53, 54, 55, 56, 57]⟩] W fun e W' => ∃ t : ByteArray, e = .returned (.string t) ∧ t.toList.isEmpty = d.data.toList.all digB ∧ Below W.heap.size W W' := fun W => by
    refine (Any.strings_Trim_laid Tryz.lays160 (by kernel_rfl) d ⟨#[48, 49, 50, 51, 52, 53, 54, 55, 56, 57]⟩ W hds (by decide) (ascii_of_all (by decide))).mono ?_
    rintro e W' ⟨rfl, hb⟩
    refine ⟨_, rfl, ?_, hb⟩
    rw [show (⟨#[48, 49, 50, 51, 52, 53, 54, 55, 56, 57]⟩ : ByteArray).data.toList = digits10 from rfl]
    rw [ByteArray.toList_eq, Bool.eq_iff_iff, List.isEmpty_iff]
    exact trim_digits _
  have TP := Lib.hid tp
  have TM := Lib.hid tm
  clear tp tm hbl hsl hdd
  by_cases h0 : d.size = 0
  · have e0 := isEmptyT h0
    have hn : d.data.toList = [] := List.eq_nil_of_length_eq_zero (by simpa using h0)
    rw [hn] at hz
    have HZ := Lib.hid hz
    clear hz hn hd h0
    go_enter Tryz.func71, Tryz.ntmps71
    go_wp2_with (go_at_call 92; refine (TP.out _).mono ?_; rintro e w2 ⟨rfl, rfl⟩)
    go_ret
    exact ⟨ret_b (by rw [HZ.out]; rfl), Below.refl _ _⟩
  · have e0 := isEmptyF h0
    have h1 : 0 < d.size := Nat.pos_of_ne_zero h0
    have hne : d.data.toList.isEmpty = false := by rw [← ByteArray.toList_eq]; exact e0
    rw [hne, headG h1] at hz
    by_cases hc : d[0] = 48
    · have e1 : ((d[0].toNat : Int) == 48) = true := by rw [hc]; rfl
      by_cases hl : s.data.toList = [48]
      · have e2 : (s.toList == [48]) = true := by rw [ByteArray.toList_eq]; exact beq_iff_eq.2 hl
        have e3 : (s.data.toList == [48]) = true := beq_iff_eq.2 hl
        rw [e3, hc] at hz
        have HZ := Lib.hid hz
        clear hz hl hd hc h0 e3 hne
        go_enter Tryz.func71, Tryz.ntmps71
        go_wp2_with (first | (go_at_call 92; refine (TP.out _).mono ?_; rintro e w2 ⟨rfl, rfl⟩) | (go_at_call 93; refine (TM.out _).mono ?_; rintro e w3 ⟨t, rfl, ht, hb⟩; have HT := Lib.hid ht; clear ht))
        go_ret
        exact ⟨ret_b (by rw [HZ.out, HT.out]; simp), hb⟩
      · have e2 : (s.toList == [48]) = false := by rw [ByteArray.toList_eq]; exact beq_eq_false_iff_ne.2 hl
        have e3 : (s.data.toList == [48]) = false := beq_eq_false_iff_ne.2 hl
        rw [e3, hc] at hz
        have HZ := Lib.hid hz
        clear hz hl hd hc h0 e3 hne
        go_enter Tryz.func71, Tryz.ntmps71
        go_wp2_with (go_at_call 92; refine (TP.out _).mono ?_; rintro e w2 ⟨rfl, rfl⟩)
        go_ret
        exact ⟨ret_b (by rw [HZ.out]; simp), Below.refl _ _⟩
    · have e1 : ((d[0].toNat : Int) == 48) = false := beq_eq_false_iff_ne.2 (fun h => hc (UInt8.toNat_inj.1 (by have e : (48 : UInt8).toNat = 48 := rfl; omega)))
      have e3 : ((some d[0]) == some (48 : UInt8)) = false := by simp [hc]
      rw [e3] at hz
      have HZ := Lib.hid hz
      clear hz hd hc h0 e3 hne
      go_enter Tryz.func71, Tryz.ntmps71
      go_wp2_with (first | (go_at_call 92; refine (TP.out _).mono ?_; rintro e w2 ⟨rfl, rfl⟩) | (go_at_call 93; refine (TM.out _).mono ?_; rintro e w3 ⟨t, rfl, ht, hb⟩; have HT := Lib.hid ht; clear ht))
      go_ret
      exact ⟨ret_b (by rw [HZ.out, HT.out]; simp), hb⟩
set_option maxRecDepth 100000 in
set_option maxHeartbeats 2000000 in
theorem text_Number (s : ByteArray) (lo hi : Int) (w : World) (hg : GlobN w) (hs : s.size ≤ 281474976710656) :
    Calls Tryz.prog 48 #[.string s, .int .i64 lo, .int .i64 hi] w fun e w' => e = .returned (.tuple #[.int .i64 (numberS s.data.toList lo hi).1, .int .i64 (numberS s.data.toList lo hi).2]) ∧ Below w.heap.size w w' := by
  obtain ⟨z, hz⟩ : ∃ z, z = numberS s.data.toList lo hi := ⟨_, rfl⟩
  rw [← hz]
  unfold numberS at hz
  have hdc := text_decimal s w (by unfold maxLen; omega)
  cases hd : decB s.data.toList
  · rw [if_pos hd] at hz
    rw [hd] at hdc
    have HD := Lib.hid hdc
    have HZ := Lib.hid hz
    clear hz hd hdc hg
    go_enter Tryz.func48, Tryz.ntmps48
    go_wp2_with (go_at_call 71; refine HD.out.mono ?_; rintro e w2 ⟨rfl, hb⟩)
    go_ret2
    exact ⟨by rw [HZ.out] <;> rfl, hb⟩
  · rw [if_neg (by simp [hd])] at hz
    rw [hd] at hdc
    have hp := parse_dec hd
    have HD := Lib.hid hdc
    obtain ⟨v, hv⟩ : ∃ v, v = valI s.data.toList := ⟨_, rfl⟩
    rw [← hv] at hz hp
    clear hd hdc hv
    cases hf : fitB v
    · rw [hf] at hp hz
      rw [if_neg (by simp)] at hp hz
      have pr : ∀ W, Below w.heap.size w W → Calls Tryz.prog 72 #[.string s, .int .i64 10, .int .i64 64] W fun e W' => ∃ (x : Int) (T : TypeId) (N : Nat), e = .returned (.tuple #[.int .i64 x, .iface T (.pointer (some ⟨N, 0, none⟩))]) ∧ Below w.heap.size w W' := fun W hW => by
        obtain ⟨tp, p, h1⟩ := (hg.below hW).rng
        refine (Tryz.strconv_ParseInt_10_at64_range_var s hs hp tp p W h1).mono ?_
        rintro e W' ⟨N, rfl, _, _, hb⟩
        exact ⟨_, _, N, rfl, hW.trans (hb.mono hW.size)⟩
      have PR := Lib.hid pr
      have HZ := Lib.hid hz
      clear pr hz hp hg hf
      go_enter Tryz.func48, Tryz.ntmps48
      go_wp2_with (first | (go_at_call 71; refine HD.out.mono ?_; rintro e w2 ⟨rfl, hb⟩; have HB := Lib.hid hb; clear hb) | (go_at_call 72; refine (PR.out _ HB.out).mono ?_; rintro e w3 ⟨x, T, N, rfl, hb3⟩; have HB3 := Lib.hid hb3; clear hb3))
      go_ret2
      exact ⟨by rw [HZ.out] <;> rfl, HB3.out⟩
    · rw [hf] at hp hz
      rw [if_pos rfl] at hp
      have pr : ∀ W, Below w.heap.size w W → Calls Tryz.prog 72 #[.string s, .int .i64 10, .int .i64 64] W fun e W' => e = .returned (.tuple #[.int .i64 v, .nilIface]) ∧ Below w.heap.size w W' := fun W hW => by
        refine (Tryz.strconv_ParseInt_10_at64_ok s (by omega) v hp W).mono ?_
        rintro e W' ⟨rfl, hw⟩
        refine ⟨rfl, ?_⟩
        rcases hw with rfl | ⟨t, rfl⟩
        · exact hW
        · exact hW.trans ((Lib.bytesWorld_below _ _ _).mono hW.size)
      have PR := Lib.hid pr
      clear pr hp hg hf
      by_cases hlo : lo ≤ v
      · by_cases hhi : v ≤ hi
        · rw [if_pos ⟨rfl, hlo, hhi⟩] at hz
          have HZ := Lib.hid hz
          have e1 : decide (v < lo) = false := decide_eq_false (by omega)
          have e2 : decide (hi < v) = false := decide_eq_false (by omega)
          clear hz hlo hhi
          go_enter Tryz.func48, Tryz.ntmps48
          go_wp2_with (first | (go_at_call 71; refine HD.out.mono ?_; rintro e w2 ⟨rfl, hb⟩; have HB := Lib.hid hb; clear hb) | (go_at_call 72; refine (PR.out _ HB.out).mono ?_; rintro e w3 ⟨rfl, hb3⟩; have HB3 := Lib.hid hb3; clear hb3))
          go_ret2
          exact ⟨by rw [HZ.out] <;> rfl, HB3.out⟩
        · rw [if_neg (fun h => hhi h.2.2)] at hz
          have HZ := Lib.hid hz
          have e1 : decide (v < lo) = false := decide_eq_false (by omega)
          have e2 : decide (hi < v) = true := decide_eq_true (by omega)
          clear hz hlo hhi
          go_enter Tryz.func48, Tryz.ntmps48
          go_wp2_with (first | (go_at_call 71; refine HD.out.mono ?_; rintro e w2 ⟨rfl, hb⟩; have HB := Lib.hid hb; clear hb) | (go_at_call 72; refine (PR.out _ HB.out).mono ?_; rintro e w3 ⟨rfl, hb3⟩; have HB3 := Lib.hid hb3; clear hb3))
          go_ret2
          exact ⟨by rw [HZ.out] <;> rfl, HB3.out⟩
      · rw [if_neg (fun h => hlo h.2.1)] at hz
        have HZ := Lib.hid hz
        have e1 : decide (v < lo) = true := decide_eq_true (by omega)
        clear hz hlo
        go_enter Tryz.func48, Tryz.ntmps48
        go_wp2_with (first | (go_at_call 71; refine HD.out.mono ?_; rintro e w2 ⟨rfl, hb⟩; have HB := Lib.hid hb; clear hb) | (go_at_call 72; refine (PR.out _ HB.out).mono ?_; rintro e w3 ⟨rfl, hb3⟩; have HB3 := Lib.hid hb3; clear hb3))
        go_ret2
        exact ⟨by rw [HZ.out] <;> rfl, HB3.out⟩
end

section
/-! part N3 -/
open Go.RowKit

theorem grow_below (w : World) (k : Nat) (os : Array Obj) : Below w.heap.size w (Sort.grow (w.drewN k) os) := Lib.below_grow _ w (Nat.le_refl _) k os
set_option maxRecDepth 100000 in
theorem text_Decimal (n : Int) (w : World) (hg : GlobN w) (h0 : -9223372036854775808 ≤ n) (h1 : n ≤ 9223372036854775807) :
    Calls Tryz.prog 73 #[.int .i64 n] w fun e w' => e = .returned (.string (S (Lib.itoa n))) ∧ Below w.heap.size w w' := by
  have hf := Tryz.strconv_FormatInt_10 n h0 h1 w hg.pow
  have HF := Lib.hid hf
  clear hf hg
  go_enter Tryz.func73, Tryz.ntmps73
  go_wp2_with (go_at_call 96; refine HF.out.mono ?_; rintro e w2 ⟨rfl, k, os, rfl⟩)
  go_ret
  exact ⟨rfl, grow_below _ _ _⟩
theorem decDigits_le {u : Nat} (h : u ≤ 9223372036854775808) : (Lib.decDigits u).length ≤ 19 := by
  rw [Lib.decDigits_length]
  have key : ∀ (k u : Nat), u < 10 ^ (k + 1) → Lib.nDigits u ≤ k + 1 := by
    intro k
    induction k with
    | zero => intro u hu; rw [Lib.nDigits, dif_pos (by omega)]; omega
    | succ k ih =>
      intro u hu
      rw [Lib.nDigits]
      split
      · omega
      · have := ih (u / 10) (by rw [Nat.div_lt_iff_lt_mul (by omega)]; rw [Nat.pow_succ] at hu; omega)
        omega
  exact key 18 u (by have : (10 : Nat) ^ (18 + 1) = 10000000000000000000 := by decide
                     omega)
end

section
/-! part N5 -/
open Go.RowKit

end
end Go.Proofs.YtjchapoggmipbaaGreatDoor

namespace Go.Proofs.YtjchapoggmipbaaGreatDoor

def otcW (o : Otc) : List UInt8 := Lib.itoa o.runs ++ (if o.wick = true then [87] else []) ++ [58] ++ Lib.itoa o.wt
def textC (d : List Otc) : List UInt8 × Int := if checkD d ≠ 0 then ([], checkD d) else (Lib.join (d.map otcW) [32], 0)
/-- The parts of a piece: before the colon (a W at its end taken off), is there a W, behind the colon. -/
def partA (p : List UInt8) : List UInt8 := Lib.trimSuffix (Lib.cut p [58]).1 [87]
def partW (p : List UInt8) : Bool := Lib.hasSuffix (Lib.cut p [58]).1 [87]
def partB (p : List UInt8) : List UInt8 := (Lib.cut p [58]).2.1
def pieceOk (p : List UInt8) : Bool := decide ((numberS (partA p) 0 7).2 = 0) && decide ((numberS (partB p) 1 16).2 = 0)
def pieceO (p : List UInt8) : Otc := ⟨(numberS (partA p) 0 7).1, partW p, (numberS (partB p) 1 16).1⟩
def parseC (s : List UInt8) : List Otc × Int :=
  if (pieces 32 s).all pieceOk = false then ([], 4)
  else if (textC ((pieces 32 s).map pieceO)).2 ≠ 0 ∨ (textC ((pieces 32 s).map pieceO)).1 ≠ s then ([], 4)
  else ((pieces 32 s).map pieceO, 0)
end Go.Proofs.YtjchapoggmipbaaGreatDoor

namespace Go.Proofs.YtjchapoggmipbaaGreatDoor
open Go.RowKit

end Go.Proofs.YtjchapoggmipbaaGreatDoor

namespace Go.Proofs.YtjchapoggmipbaaGreatDoor
section
/-! part C -/
open Go.RowKit

end

section
/-! part C2 -/
open Go.RowKit

end

section
/-! part C3 -/
open Go.RowKit

end

section
/-! part C4 -/
open Go.RowKit

end
end Go.Proofs.YtjchapoggmipbaaGreatDoor

namespace Go.Proofs.YtjchapoggmipbaaGreatDoor
open Go.RowKit

theorem flat_len {css : List (List Value)} {size : Nat} (h : ∀ cs ∈ css, cs.length = size) : css.flatten.length = css.length * size := by
  induction css with
  | nil => simp
  | cons x css ih => rw [List.flatten_cons, List.length_append, ih (fun cs hc => h cs (by simp [hc])), h x (by simp), List.length_cons, Nat.succ_mul]; omega

/-- The cells of a slice that is not empty. -/
theorem Sl.rows {α : Type} {size : Nat} {R : World → (Nat → Prop) → List Value → α → Prop} {w : World} {F : Nat → Prop} {b o n c : Nat} {l : List α} (h : Sl size R w F (.slice (some ⟨b, o, none⟩) n c) l) (hs : 0 < size) :
    ∃ css : List (List Value), css.length = l.length ∧ (∀ cs ∈ css, cs.length = size) ∧ (∀ j u, css.flatten[j]? = some u → w.cell? ⟨b, o + j, none⟩ = some u) ∧
      (∀ (i : Nat) (a : α) (cs : List Value), l[i]? = some a → css[i]? = some cs → R w F cs a) := by
  have key : ∀ m, m ≤ l.length → ∃ css : List (List Value), css.length = m ∧ (∀ cs ∈ css, cs.length = size) ∧ (∀ j u, css.flatten[j]? = some u → w.cell? ⟨b, o + j, none⟩ = some u) ∧
      (∀ (i : Nat) (a : α) (cs : List Value), l[i]? = some a → css[i]? = some cs → R w F cs a) := by
    intro m
    induction m with
    | zero => intro _; exact ⟨[], rfl, by simp, by simp, by simp⟩
    | succ m ih =>
      intro hm
      obtain ⟨css, h1, h2, h3, h4⟩ := ih (by omega)
      obtain ⟨b', o', cs, e, hF, hcl, hcc, hel⟩ := h.at (k := m) (by omega)
      simp only [Option.some.injEq, Addr.mk.injEq] at e
      obtain ⟨rfl, rfl, _⟩ := e
      have hfl : css.flatten.length = m * size := by
        rw [flat_len h2, h1]
      refine ⟨css ++ [cs], by simp [h1], ?_, ?_, ?_⟩
      · intro c hc
        rcases List.mem_append.1 hc with hc | hc
        · exact h2 c hc
        · simp at hc; subst hc; exact hcl
      · intro j u hu
        rw [List.flatten_append, List.flatten_singleton] at hu
        by_cases hj : j < css.flatten.length
        · rw [List.getElem?_append_left hj] at hu; exact h3 j u hu
        · rw [List.getElem?_append_right (by omega)] at hu
          have := hcc (j - css.flatten.length) u hu
          rw [hfl] at this hj
          rw [show o + m * size + (j - m * size) = o + j from by omega] at this
          exact this
      · intro i a c hi hc
        by_cases hil : i < css.length
        · rw [List.getElem?_append_left hil] at hc; exact h4 i a c hi hc
        · have hi2 := (List.getElem?_eq_some_iff.1 hc).1
          have : i = m := by simp at hi2; omega
          subst this
          rw [List.getElem?_append_right (by omega)] at hc
          rw [h1, Nat.sub_self] at hc
          simp at hc; subst hc
          rw [List.getElem?_eq_getElem (by omega)] at hi
          obtain rfl := Option.some.inj hi
          exact hel
  exact key l.length (Nat.le_refl _)

end Go.Proofs.YtjchapoggmipbaaGreatDoor

namespace Go.Proofs.YtjchapoggmipbaaGreatDoor
open Go.RowKit

end Go.Proofs.YtjchapoggmipbaaGreatDoor

namespace Go.Proofs.YtjchapoggmipbaaGreatDoor
open Go.RowKit

end Go.Proofs.YtjchapoggmipbaaGreatDoor

namespace Go.Proofs.YtjchapoggmipbaaGreatDoor
open Go.RowKit

end Go.Proofs.YtjchapoggmipbaaGreatDoor

namespace Go.Proofs.YtjchapoggmipbaaGreatDoor
open Go.RowKit

end Go.Proofs.YtjchapoggmipbaaGreatDoor

namespace Go.Proofs.YtjchapoggmipbaaGreatDoor
open Go.RowKit

end Go.Proofs.YtjchapoggmipbaaGreatDoor

namespace Go.Proofs.YtjchapoggmipbaaGreatDoor
open Go.RowKit

end Go.Proofs.YtjchapoggmipbaaGreatDoor

namespace Go.Proofs.YtjchapoggmipbaaGreatDoor
open Go.RowKit

/-- What a function that hands back one slice of strings leaves. -/
def StrsPost (w : World) (l : List (List UInt8)) (e : Ending) (w' : World) : Prop :=
  ∃ v, e = .returned v ∧ Sl 1 elStr w' (fun b => w.heap.size ≤ b ∧ b < w'.heap.size) v l ∧ Below w.heap.size w w'
theorem str_Split (c : UInt8) (s : ByteArray) (w : World) (hg : Glob w) (hs : s.size < 4294967281) :
    Calls Tryz.prog 45 #[.string s, .string ⟨#[c]⟩] w (StrsPost w (pieces c s.data.toList)) := by
  refine (Tryz.strings_Split_shaped s ⟨#[c]⟩ w hg.shaped hs (Nat.le_refl 1)).mono ?_
  rintro e w' ⟨rfl, rfl⟩
  have hp := splitB_pieces c _ s rfl
  have hlen := Lib.splitB_all ⟨#[c]⟩ (Nat.le_refl 1) 0 _ s rfl
  have hcnt := Lib.countB_le ⟨#[c]⟩ (Nat.le_refl 1) _ s (Nat.le_refl _)
  generalize Lib.splitB ⟨#[c]⟩ 0 (Lib.countB s ⟨#[c]⟩) s = l at *
  refine ⟨_, rfl, ?_, (Below.refl _ _).alloc (Nat.le_refl _) _⟩
  rw [← hp, ← hlen]
  have hlm : (l.map (·.data.toList)).length = l.length := by simp
  refine ⟨_, l.length, by rw [hlm], by simp, by unfold maxLen; omega, fun h0 => ⟨w.heap.size, 0, rfl, by simp, fun i a hi => ?_⟩⟩
  rw [List.getElem?_map] at hi
  obtain ⟨b, hb, rfl⟩ := Option.map_eq_some_iff.1 hi
  refine ⟨[.string b], rfl, fun j u hu => ?_, rfl⟩
  have hj : j = 0 := by have := (List.getElem?_eq_some_iff.1 hu).1; simp at this; exact this
  subst hj
  simp at hu; subst hu
  have := cells_new w (l.map Value.string) 9 (0, 0) i (.string b) (by simp [hb])
  have hadd : (⟨w.heap.size, 0, none⟩ : Addr).add i = ⟨w.heap.size, i, none⟩ := by unfold Addr.add; split <;> simp_all
  rw [hadd] at this
  rw [Nat.zero_add, Nat.mul_one, Nat.add_zero]; exact this

section
variable {base : Nat} {w1 w w' : World} {v d v' d' : Value} {out : List Lin} {ds : List Dia}
end

section
variable {base : Nat} {w1 w w' : World} {v d v' d' : Value} {out : List Lin} {ds : List Dia}
end
end Go.Proofs.YtjchapoggmipbaaGreatDoor

namespace Go.Proofs.YtjchapoggmipbaaGreatDoor
open Go.RowKit

theorem own_ne {α : Type} {size e base : Nat} {R : World → (Nat → Prop) → List Value → α → Prop} {G : Nat → Prop} {w : World} {v : Value} {l : List α} {g : Nat} {t : TypeId} {cs : Array Value}
    (h : OwnG size R e base w v G l) (hg : Blk w g t cs) (hne : e ≠ t) : v.ownBlock ≠ some g := by
  obtain ⟨xs, hx, ⟨rfl, _⟩ | ⟨g', cap, cur, rfl, _, hh, _⟩⟩ := h.owns
  · simp [Value.ownBlock]
  · intro he
    have : g' = g := by simpa [Value.ownBlock] using he
    subst this
    unfold Blk at hg
    rw [hh] at hg
    injection hg with hg
    injection hg with _ ht
    exact hne ht
/-- append of one element, as a step of a region that draws. -/
theorem step_append_el {P : Program} {ops : Array Oper} {o : Oper} {a : Act} {w : World} {K : Act → World → Prop} {Q : Exit → Act → World → Prop} {E : Prop} (hgd : o.guard = none) (s x : Operand) (t : TypeId)
    (ho : o.op = .call { callee := .builtin .append, args := #[s, x], argTypes := #[t, t] })
    {e : TypeId} {size bytes : Nat} (hE : ElemOf P t e size bytes) {α : Type} {R : World → (Nat → Prop) → List Value → α → Prop} (hR : Good R)
    (base : Nat) (v : Value) (l : List α) (hs : a.eval s = v) (hown : OwnSl size R e base w v l)
    (ad : Addr) (c : Nat) (cs : List Value) (hx : a.eval x = .slice (some ad) 1 c) (el : α) (hl : cs.length = size) (hcell : ∀ j u, cs[j]? = some u → w.cell? (ad.add j) = some u)
    (h1 : ∀ u ∈ cs, u.oneCell' = true) (hel : R w NoG cs el)
    (h63 : l.length + 1 ≤ maxLen) (hbytes : (l.length + 1) * bytes ≤ 140737488355328) (hbase : base ≤ w.heap.size)
    (h : ∀ g cap w', OwnSl size R e base w' (.slice (some ⟨g, 0, none⟩) (l.length + 1) cap) (l ++ [el]) → w.grownBy w' v.ownBlock → (some g = v.ownBlock ∨ g = w.heap.size) → K (a.put o.dst (.slice (some ⟨g, 0, none⟩) (l.length + 1) cap)) w') :
    if Region.wanted o (yielded ops a.tmps) = true then Oper.wp P o a w K Q else E := by
  have hw : Region.wanted o (yielded ops a.tmps) = true := by simp [Region.wanted, hgd]
  rw [if_pos hw]
  obtain ⟨i, z, e1, e2, e3, e4, e5, e6, e7⟩ := hE
  obtain ⟨css, hlen, ho', hsz, hel'⟩ := hown
  obtain ⟨v', w', hr, h2, h3, _, h4⟩ := run_append_own_at (P := P) w base t o.type e i z size bytes e1 e2 e3 e4 e5 e6 e7 v l.length css.flatten ho' ad 1 c cs (by omega) hcell h1 h63 hbytes hbase
  unfold Oper.wp execOp
  simp only [ho, resolve, invoke, builtin, Sem.run_bind, Sem.run_pure, Result.andThen_ok, List.map_toArray, List.map_cons, List.map_nil, hs, hx, hr]
  have hnew : OwnG size R e base w' v' NoG (l ++ [el]) := OwnG.snoc hR hlen hsz hel' h2 (Same.grown h3 fun b hb => hb.elim) hl hel
  obtain ⟨xs, _, ⟨_, h0⟩ | ⟨g, cap, cur, rfl, _⟩⟩ := hnew.owns
  · simp at h0
  · simp only [List.length_append, List.length_cons, List.length_nil, Nat.zero_add] at h4 hnew ⊢
    refine h g cap w' hnew h3 ?_
    rcases h4 with h4 | h4
    · exact .inl h4
    · exact .inr (by simpa [Value.ownBlock] using h4)

end Go.Proofs.YtjchapoggmipbaaGreatDoor

namespace Go.Proofs.YtjchapoggmipbaaGreatDoor
open Go.RowKit

end Go.Proofs.YtjchapoggmipbaaGreatDoor

namespace Go.Proofs.YtjchapoggmipbaaGreatDoor
open Go.RowKit

theorem itoa_le3 {n : Int} (h0 : 0 ≤ n) (h : n ≤ 9223372036854775807) : (Lib.itoa n).length ≤ 20 := by
  have := decDigits_le (u := n.toNat) (by omega)
  unfold Lib.itoa
  rw [if_neg (by omega)]
  omega
theorem E_strs : ElemOf Tryz.prog 105 9 1 16 := ElemOf.mk (z := .string ByteArray.empty) Tryz.underlying105 (by kernel_rfl) rfl (by decide)
theorem joinTail_len (sep : List UInt8) : ∀ r : List (List UInt8), (Lib.joinTail sep r).length = (r.map fun x => sep.length + x.length).sum := by
  intro r
  induction r with
  | nil => rfl
  | cons x r ih =>
    have e : Lib.joinTail sep (x :: r) = (sep ++ x) ++ Lib.joinTail sep r := by unfold Lib.joinTail; simp
    rw [e, List.length_append, ih, List.map_cons, List.sum_cons, List.length_append]
theorem sum_le_mul {l : List Nat} {B : Nat} (h : ∀ x ∈ l, x ≤ B) : l.sum ≤ B * l.length := by
  induction l with
  | nil => simp
  | cons x l ih =>
    have h1 := h x (by simp)
    have h2 := ih fun y hy => h y (by simp [hy])
    rw [List.sum_cons, List.length_cons, Nat.mul_add, Nat.mul_one]; omega
theorem join_len {xs : List (List UInt8)} {sep : List UInt8} {B : Nat} (h : ∀ x ∈ xs, x.length ≤ B) : (Lib.join xs sep).length ≤ (sep.length + B) * xs.length := by
  cases xs with
  | nil => simp [Lib.join_nil]
  | cons x r =>
    have h1 := h x (by simp)
    have h2 : ((r.map fun y => sep.length + y.length)).sum ≤ (sep.length + B) * (r.map fun y => sep.length + y.length).length := sum_le_mul fun y hy => by
      obtain ⟨z, hz, rfl⟩ := List.mem_map.1 hy
      have := h z (by simp [hz]); omega
    rw [Lib.join_cons, List.length_append, joinTail_len, List.length_cons, Nat.mul_add, Nat.mul_one]
    rw [List.length_map] at h2
    omega
theorem otcW_len {o : Otc} (h : OkO o) : (otcW o).length ≤ 50 := by
  have h1 := itoa_le3 h.r0 (by have := h.r7; omega)
  have h2 := itoa_le3 (n := o.wt) (by have := h.w1; omega) (by have := h.w16; omega)
  unfold otcW
  simp only [List.length_append, List.length_cons, List.length_nil]
  split <;> (simp; omega)
theorem str_sum (a b : List UInt8) (c : ByteArray) : S a ++ c ++ (⟨#[58]⟩ : ByteArray) ++ S b = S (a ++ c.data.toList ++ [58] ++ b) := by
  apply ByteArray.ext; apply Array.ext'
  simp [S, ByteArray.data_append]
set_option maxRecDepth 100000 in
set_option maxHeartbeats 1000000 in
theorem ch_Text (d : List Otc) (v : Value) (w : World) (hg : GlobN w) (h : Sl 3 elOtc w (· < w.heap.size) v d) : Calls Tryz.prog 49 #[v] w fun e w' => e = .returned (.tuple #[.string (S (textC d).1), .int .i64 (textC d).2]) ∧ Below w.heap.size w w' := by
  obtain ⟨z, hz⟩ : ∃ z, z = textC d := ⟨_, rfl⟩
  rw [← hz]
  unfold textC at hz
  have kc := ch_Check d v w h
  obtain ⟨A, c, rfl, hc, hc2⟩ := h.shape
  by_cases h0 : checkD d = 0
  · rw [if_neg (fun k => k h0)] at hz
    rw [h0] at kc
    have hok := checkD_ok h0
    have hl16 := hok.len.2
    have hl1 := hok.len.1
    have HOK := Lib.hid hok.each
    have KC := Lib.hid kc
    have HZ := Lib.hid hz
    have H := Lib.hid h
    have kd := fun (n : Int) (h0 : 0 ≤ n) (h1 : n ≤ 100) W (hW : Below w.heap.size w W) => text_Decimal n W (hg.below hW) (by omega) (by omega)
    have KD := Lib.hid kd
    clear kc hz h0 hok h hg kd
    go_enter Tryz.func49, Tryz.ntmps49
    go_wp2_with (go_at_call 39; refine KC.out.mono ?_; rintro e w2 ⟨rfl, hb2⟩; have HB2 := Lib.hid hb2; clear hb2)
    go_loopw [5, 16] (fun sv i wr => ∃ (k : Nat), k ≤ d.length ∧ i = .int .i64 k ∧ Below w2.heap.size w2 wr ∧ OwnSl 1 elStr 9 w2.heap.size wr sv ((d.take k).map otcW)) (fun _ i _ => d.length - (intOf i).toNat)
    case atStart => exact ⟨0, Nat.zero_le _, rfl, Below.refl _ _, OwnSl.nil _⟩
    case round =>
      obtain ⟨k, hk, rfl, hbw, hown⟩ := hrel
      have hb := HB2.out.trans (hbw.mono HB2.out.size)
      have HB := Lib.hid hb
      have HBW := Lib.hid hbw
      have HO := Lib.hid hown
      by_cases hlt : k < d.length
      · obtain ⟨b, o, rfl, hbl, y0', y1', y2'⟩ := otc_at H.out hlt
        have hoo := HOK.out _ (List.getElem_mem hlt)
        have htk : (d.take (k + 1)).map otcW = (d.take k).map otcW ++ [otcW d[k]] := by rw [List.take_succ_eq_append_getElem hlt, List.map_append]; rfl
        obtain ⟨⟨pr, pw, pt⟩, hp⟩ : ∃ p, p = d[k] := ⟨_, rfl⟩
        rw [← hp] at y0' y1' y2' hoo htk
        have hr0 := hoo.r0
        have hr7 := hoo.r7
        have hw1 := hoo.w1
        have hw16 := hoo.w16
        have y0 := (hb.cell (p := ⟨b, o + k * 3, none⟩) hbl).trans y0'
        have y1 := (hb.cell (p := ⟨b, o + k * 3 + 1, none⟩) hbl).trans y1'
        have y2 := (hb.cell (p := ⟨b, o + k * 3 + 2, none⟩) hbl).trans y2'
        dsimp only at y0 y1 y2 hr0 hr7 hw1 hw16
        have hlen : ((d.take k).map otcW).length = k := by simp; omega
        have k1 := fun W hW => KD.out pr hr0 (by omega) W hW
        have k2 := fun W hW => KD.out pt (by omega) (by omega) W hW
        have l1 := itoa_le3 hr0 (by omega)
        have l2 := itoa_le3 (n := pt) (by omega) (by omega)
        obtain ⟨t1, ht1⟩ : ∃ t1, t1 = Lib.itoa pr := ⟨_, rfl⟩
        obtain ⟨t2, ht2⟩ : ∃ t2, t2 = Lib.itoa pt := ⟨_, rfl⟩
        have hw : ∀ cb : ByteArray, cb.data.toList = (if pw = true then [87] else []) → S t1 ++ cb ++ (⟨#[58]⟩ : ByteArray) ++ S t2 = S (otcW ⟨pr, pw, pt⟩) := fun cb hcb => by
          rw [str_sum, hcb, ht1, ht2]; rfl
        rw [← ht1] at k1 l1
        rw [← ht2] at k2 l2
        have K1 := Lib.hid k1
        have K2 := Lib.hid k2
        have HTK := Lib.hid htk
        have HLN := Lib.hid hlen
        obtain ⟨l, hl⟩ : ∃ l, l = (d.take k).map otcW := ⟨_, rfl⟩
        rw [← hl] at HO HTK HLN
        obtain ⟨wa, hwa⟩ : ∃ wa, wa = wr.alloc (.cells #[.int .i64 pr, .bool pw, .int .i64 pt] 82) := ⟨_, rfl⟩
        have hka : Blk wa wr.heap.size 82 #[.int .i64 pr, .bool pw, .int .i64 pt] := by rw [hwa]; exact Blk.new wr _ _
        have hba : Below w2.heap.size w2 wa := by rw [hwa]; exact Below.alloc hbw hbw.size _
        have hoa : OwnSl 1 elStr 9 w2.heap.size wa u5 l := by rw [hwa]; exact HO.out.alloc elStr_good _
        have HWA := Lib.hid hwa
        have HKA := Lib.hid hka
        have HBA := Lib.hid hba
        have HOA := Lib.hid hoa
        obtain ⟨g, hgg⟩ : ∃ g, g = wr.heap.size := ⟨_, rfl⟩
        have HGG := Lib.hid hgg
        have HW := Lib.hid hw
        clear hb hbw hown hp hoo htk hlen y0' y1' y2' k1 k2 hwa hka hba hoa hgg hl ht1 ht2 hw
        cases pw
        · have hws := HW.out (⟨#[]⟩ : ByteArray) rfl
          have z1 : ((⟨#[]⟩ : ByteArray) : ByteArray).size ≤ 1 := by decide
          have z2 : (⟨#[58]⟩ : ByteArray).size = 1 := rfl
          have a1 := fun W => run_string_add_sum (P := Tryz.prog) W (S t1) (⟨#[]⟩ : ByteArray) (by rw [S_size]; omega)
          have a2 := fun W => run_string_add_sum (P := Tryz.prog) W (S t1 ++ (⟨#[]⟩ : ByteArray)) ⟨#[58]⟩ (by rw [ByteArray.size_append, S_size]; omega)
          have a3 := fun W => run_string_add_sum (P := Tryz.prog) W (S t1 ++ (⟨#[]⟩ : ByteArray) ++ ⟨#[58]⟩) (S t2) (by rw [ByteArray.size_append, ByteArray.size_append, S_size, S_size]; omega)
          obtain ⟨ow, how⟩ : ∃ ow, ow = otcW ⟨pr, false, pt⟩ := ⟨_, rfl⟩
          rw [← how] at HTK hws
          rw [hws] at a3
          have h63 : l.length + 1 ≤ maxLen := by rw [HLN.out]; simp [maxLen]; omega
          have h16b : (l.length + 1) * 16 ≤ 140737488355328 := by rw [HLN.out]; omega
          clear hws z1 z2 l1 l2 how HW
          go_wp2
          rw [← HWA.out, ← HGG.out]
          rw [← HGG.out] at HKA
          have NE := Lib.hid (show u5.ownBlock ≠ some g from fun e => by have := (HO.out.block g e).2; have := HGG.out; omega)
          have HOAD := Lib.hid (OwnG.keep elStr_good (w' := wa.drew) HOA.out (fun _ h => h.elim) (fun _ h => h) fun _ _ => rfl : OwnSl 1 elStr 9 w2.heap.size wa.drew u5 l)
          have x0 : wa.cell? ⟨g, 0, none⟩ = some (.int .i64 pr) := HKA.out.cell 0
          have x2 : wa.cell? ⟨g, 2, none⟩ = some (.int .i64 pt) := HKA.out.cell 2
          go_region_held3 (fun w' => w'.cell? ⟨g, 0, none⟩ = some (.int .i64 pr) ∧ w'.cell? ⟨g, 2, none⟩ = some (.int .i64 pt)) (first | exact ⟨x0, x2⟩ | go_keep) (first
            | (clear tokT; go_at_call 73; refine (K2.out _ (HB2.out.trans (HB3.out.mono HB2.out.size))).mono ?_; rintro e w4 ⟨rfl, hb4⟩; have hk4 := HK3.out.below hb4 HK3.out.lt; have x0 : w4.cell? ⟨g, 0, none⟩ = some (.int .i64 pr) := hk4.cell 0; have x2 : w4.cell? ⟨g, 2, none⟩ = some (.int .i64 pt) := hk4.cell 2; have HK4 := Lib.hid hk4; have HO4 := Lib.hid (HO3.out.below elStr_good hb4); have HB4 := Lib.hid (HB3.out.trans (hb4.mono HB3.out.size)); have tokA : True := trivial; clear hk4 hb4)
            | (go_at_call 73; refine (K1.out _ (HB2.out.trans ((Below.drew HBA.out).mono HB2.out.size))).mono ?_; rintro e w3 ⟨rfl, hb3⟩; have hk3 : Blk w3 g 82 #[.int .i64 pr, .bool false, .int .i64 pt] := Blk.below (w := wa.drew) HKA.out hb3 HKA.out.lt; have x0 : w3.cell? ⟨g, 0, none⟩ = some (.int .i64 pr) := hk3.cell 0; have x2 : w3.cell? ⟨g, 2, none⟩ = some (.int .i64 pt) := hk3.cell 2; have HK3 := Lib.hid hk3; have HO3 := Lib.hid (OwnSl.below elStr_good (w := wa.drew) HOAD.out hb3); have HB3 := Lib.hid ((Below.drew HBA.out).trans (hb3.mono (Below.drew HBA.out).size)); have tokT : True := trivial; clear hk3 hb3)
            | (clear tokA; refine step_append_el rfl (.tmp 22) (.tmp 33) _ rfl E_strs elStr_good w2.heap.size u5 l rfl (HO4.out.alloc elStr_good _) ⟨w4.heap.size, 0, none⟩ 1 [.string (S ow)] rfl ow rfl (cells_new _ _ _ _) (oneCells rfl) rfl h63 h16b (Below.alloc HB4.out HB4.out.size (.cells #[.string (S ow)] 9)).size ?_; intro g5 cap5 w5 hown5 hg5 hat5; have hbel5 : Below w2.heap.size w2 w5 := below_own (Below.alloc HB4.out HB4.out.size (.cells #[.string (S ow)] 9)) (HO4.out.alloc elStr_good (.cells #[.string (S ow)] 9)) hg5 (Nat.le_refl _) (Below.alloc HB4.out HB4.out.size (.cells #[.string (S ow)] 9)).size; rw [← HTK.out] at hown5; have hk5 := Blk.grown (HK4.out.alloc (.cells #[.string (S ow)] 9)) hg5 NE.out; have x0 : w5.cell? ⟨g, 0, none⟩ = some (.int .i64 pr) := hk5.cell 0; have x2 : w5.cell? ⟨g, 2, none⟩ = some (.int .i64 pt) := hk5.cell 2; have HO5 := Lib.hid hown5; have HB5 := Lib.hid hbel5; clear hown5 hbel5 hg5 hat5 hk5))
          all_goals go_wp2
          all_goals go_roundw
          case rel => exact ⟨k + 1, by omega, by go_num, HB5.out, HO5.out⟩
          case measure => simp [intOf]; omega
        · have hws := HW.out (⟨#[87]⟩ : ByteArray) rfl
          have z1 : ((⟨#[87]⟩ : ByteArray) : ByteArray).size ≤ 1 := by decide
          have z2 : (⟨#[58]⟩ : ByteArray).size = 1 := rfl
          have a1 := fun W => run_string_add_sum (P := Tryz.prog) W (S t1) (⟨#[87]⟩ : ByteArray) (by rw [S_size]; omega)
          have a2 := fun W => run_string_add_sum (P := Tryz.prog) W (S t1 ++ (⟨#[87]⟩ : ByteArray)) ⟨#[58]⟩ (by rw [ByteArray.size_append, S_size]; omega)
          have a3 := fun W => run_string_add_sum (P := Tryz.prog) W (S t1 ++ (⟨#[87]⟩ : ByteArray) ++ ⟨#[58]⟩) (S t2) (by rw [ByteArray.size_append, ByteArray.size_append, S_size, S_size]; omega)
          obtain ⟨ow, how⟩ : ∃ ow, ow = otcW ⟨pr, true, pt⟩ := ⟨_, rfl⟩
          rw [← how] at HTK hws
          rw [hws] at a3
          have h63 : l.length + 1 ≤ maxLen := by rw [HLN.out]; simp [maxLen]; omega
          have h16b : (l.length + 1) * 16 ≤ 140737488355328 := by rw [HLN.out]; omega
          clear hws z1 z2 l1 l2 how HW
          go_wp2
          rw [← HWA.out, ← HGG.out]
          rw [← HGG.out] at HKA
          have NE := Lib.hid (show u5.ownBlock ≠ some g from fun e => by have := (HO.out.block g e).2; have := HGG.out; omega)
          have HOAD := Lib.hid (OwnG.keep elStr_good (w' := wa.drew) HOA.out (fun _ h => h.elim) (fun _ h => h) fun _ _ => rfl : OwnSl 1 elStr 9 w2.heap.size wa.drew u5 l)
          have x0 : wa.cell? ⟨g, 0, none⟩ = some (.int .i64 pr) := HKA.out.cell 0
          have x2 : wa.cell? ⟨g, 2, none⟩ = some (.int .i64 pt) := HKA.out.cell 2
          go_region_held3 (fun w' => w'.cell? ⟨g, 0, none⟩ = some (.int .i64 pr) ∧ w'.cell? ⟨g, 2, none⟩ = some (.int .i64 pt)) (first | exact ⟨x0, x2⟩ | go_keep) (first
            | (clear tokT; go_at_call 73; refine (K2.out _ (HB2.out.trans (HB3.out.mono HB2.out.size))).mono ?_; rintro e w4 ⟨rfl, hb4⟩; have hk4 := HK3.out.below hb4 HK3.out.lt; have x0 : w4.cell? ⟨g, 0, none⟩ = some (.int .i64 pr) := hk4.cell 0; have x2 : w4.cell? ⟨g, 2, none⟩ = some (.int .i64 pt) := hk4.cell 2; have HK4 := Lib.hid hk4; have HO4 := Lib.hid (HO3.out.below elStr_good hb4); have HB4 := Lib.hid (HB3.out.trans (hb4.mono HB3.out.size)); have tokA : True := trivial; clear hk4 hb4)
            | (go_at_call 73; refine (K1.out _ (HB2.out.trans ((Below.drew HBA.out).mono HB2.out.size))).mono ?_; rintro e w3 ⟨rfl, hb3⟩; have hk3 : Blk w3 g 82 #[.int .i64 pr, .bool true, .int .i64 pt] := Blk.below (w := wa.drew) HKA.out hb3 HKA.out.lt; have x0 : w3.cell? ⟨g, 0, none⟩ = some (.int .i64 pr) := hk3.cell 0; have x2 : w3.cell? ⟨g, 2, none⟩ = some (.int .i64 pt) := hk3.cell 2; have HK3 := Lib.hid hk3; have HO3 := Lib.hid (OwnSl.below elStr_good (w := wa.drew) HOAD.out hb3); have HB3 := Lib.hid ((Below.drew HBA.out).trans (hb3.mono (Below.drew HBA.out).size)); have tokT : True := trivial; clear hk3 hb3)
            | (clear tokA; refine step_append_el rfl (.tmp 22) (.tmp 33) _ rfl E_strs elStr_good w2.heap.size u5 l rfl (HO4.out.alloc elStr_good _) ⟨w4.heap.size, 0, none⟩ 1 [.string (S ow)] rfl ow rfl (cells_new _ _ _ _) (oneCells rfl) rfl h63 h16b (Below.alloc HB4.out HB4.out.size (.cells #[.string (S ow)] 9)).size ?_; intro g5 cap5 w5 hown5 hg5 hat5; have hbel5 : Below w2.heap.size w2 w5 := below_own (Below.alloc HB4.out HB4.out.size (.cells #[.string (S ow)] 9)) (HO4.out.alloc elStr_good (.cells #[.string (S ow)] 9)) hg5 (Nat.le_refl _) (Below.alloc HB4.out HB4.out.size (.cells #[.string (S ow)] 9)).size; rw [← HTK.out] at hown5; have hk5 := Blk.grown (HK4.out.alloc (.cells #[.string (S ow)] 9)) hg5 NE.out; have x0 : w5.cell? ⟨g, 0, none⟩ = some (.int .i64 pr) := hk5.cell 0; have x2 : w5.cell? ⟨g, 2, none⟩ = some (.int .i64 pt) := hk5.cell 2; have HO5 := Lib.hid hown5; have HB5 := Lib.hid hbel5; clear hown5 hbel5 hg5 hat5 hk5))
          all_goals go_wp2
          all_goals go_roundw
          case rel => exact ⟨k + 1, by omega, by go_num, HB5.out, HO5.out⟩
          case measure => simp [intOf]; omega
      · obtain rfl : k = d.length := by omega
        have hsl := hown.sl elStr_good
        rw [List.take_of_length_le (Nat.le_refl _)] at hsl
        obtain ⟨A5, c5, rfl, hc5, hc6⟩ := hsl.shape
        have hml : (d.map otcW).length = d.length := by simp
        obtain ⟨jb, jo, hA5, hjb, _⟩ := hsl.str_at (k := 0) (by rw [hml]; omega)
        subst hA5
        have hcs : ∀ (j : Nat) x, ((d.map otcW).map S)[j]? = some x → wr.cell? ⟨jb, jo + j, none⟩ = some (.string x) := fun j x hj => by
          have hjl : j < (d.map otcW).length := by have := (List.getElem?_eq_some_iff.1 hj).1; simpa using this
          obtain ⟨b', o', e', _, hcell⟩ := hsl.str_at hjl
          injection e' with e'
          injection e' with e1 e2 e3
          subst e1
          subst e2
          rw [List.getElem?_map, List.getElem?_eq_getElem hjl] at hj
          simp only [Option.map_some, Option.some.injEq] at hj
          rw [← hj]; exact hcell
        have hxs : ((d.map otcW).map S).map (·.data.toList) = d.map otcW := by rw [List.map_map, show ((fun x : ByteArray => x.data.toList) ∘ S) = id from by funext x; rfl, List.map_id]
        have hxl : ((d.map otcW).map S).length = d.length := by simp
        have hjn := Tryz.strings_Join jb jo c5 ((d.map otcW).map S) ⟨#[32]⟩ wr hcs hjb.2 (by rw [hxl]; omega) (by rw [hxl, ← hml]; exact hc5) (by
          rw [hxs]
          have := join_len (xs := d.map otcW) (sep := [32]) (B := 50) fun x hx => by obtain ⟨o, ho, rfl⟩ := List.mem_map.1 hx; exact otcW_len (HOK.out o ho)
          rw [hml] at this
          have e : (⟨#[32]⟩ : ByteArray).data.toList = [32] := rfl
          rw [e]
          simp only [List.length_cons, List.length_nil] at this
          omega)
        rw [hxs, hxl] at hjn
        rw [hml]
        have HJ := Lib.hid hjn
        clear hbw hown hsl hcs hjn hxs hxl hjb hb
        go_wp2_with (go_at_call 74; refine HJ.out.mono ?_; rintro e w5 ⟨rfl, hb5⟩; have HB5 := Lib.hid (HB.out.trans (hb5.mono HB.out.size)); clear hb5)
        go_ret2
        exact ⟨by rw [HZ.out] <;> rfl, HB5.out⟩
  · rw [if_pos h0] at hz
    obtain ⟨z9, hz9⟩ : ∃ z9, z9 = checkD d := ⟨_, rfl⟩
    rw [← hz9] at kc hz h0
    have g1 : (z9 != 0) = true := by rw [bne_iff_ne]; exact h0
    have KC := Lib.hid kc
    have HZ := Lib.hid hz
    clear kc hz h0 h hz9 hg
    go_enter Tryz.func49, Tryz.ntmps49
    go_wp2_with (go_at_call 39; refine KC.out.mono ?_; rintro e w2 ⟨rfl, hb2⟩; have HB2 := Lib.hid hb2; clear hb2)
    go_ret2
    exact ⟨by rw [HZ.out] <;> rfl, HB2.out⟩
end Go.Proofs.YtjchapoggmipbaaGreatDoor

namespace Go.Proofs.YtjchapoggmipbaaGreatDoor
open Go.RowKit

theorem pieces_mem (c : UInt8) : ∀ (l : List UInt8), ∀ p ∈ pieces c l, p.length ≤ l.length := by
  intro l
  induction l with
  | nil => intro p hp; simp [pieces] at hp; subst hp; simp
  | cons x l ih =>
    intro p hp
    rw [pieces] at hp
    split at hp
    · rcases List.mem_cons.1 hp with rfl | hp
      · simp
      · have := ih p hp; simp; omega
    · cases hq : pieces c l with
      | nil => rw [hq] at hp; simp at hp; subst hp; simp
      | cons q r =>
        rw [hq] at hp
        rcases List.mem_cons.1 hp with rfl | hp
        · have := ih q (by rw [hq]; simp); simp; omega
        · have := ih p (by rw [hq]; simp [hp]); simp; omega
theorem cut_le (l sep : List UInt8) : (Lib.cut l sep).1.length ≤ l.length ∧ (Lib.cut l sep).2.1.length ≤ l.length := by
  unfold Lib.cut
  split
  · simp; omega
  · simp
theorem trimSuffix_le (l p : List UInt8) : (Lib.trimSuffix l p).length ≤ l.length := by unfold Lib.trimSuffix; split <;> simp <;> omega
theorem E_otc : ElemOf Tryz.prog 32 82 3 24 := ElemOf.mk (z := .agg #[.int .i64 0, .bool false, .int .i64 0]) Tryz.underlying32 (by kernel_rfl) rfl (by decide)
/-- Outcomes and an error, handed back. -/
def OtcPost (w : World) (r : List Otc × Int) (e : Ending) (w' : World) : Prop :=
  ∃ v, e = .returned (.tuple #[v, .int .i64 r.2]) ∧ Sl 3 elOtc w' (fun x => w.heap.size ≤ x ∧ x < w'.heap.size) v r.1 ∧ Below w.heap.size w w'
@[go_sem] theorem build_otc3 (x y : Int) (b : Bool) (w : World) : (Instr.build 82 #[(0, .int .i64 x), (1, .bool b), (2, .int .i64 y)]).run Tryz.prog w = .ok (.agg #[.int .i64 x, .bool b, .int .i64 y]) w := run_build w 82 _ _ (by kernel_rfl)
set_option maxRecDepth 100000 in
set_option maxHeartbeats 1000000 in
theorem ch_Parse (s : ByteArray) (w : World) (hg : GlobN w) (hs : s.size ≤ 1000000000) : Calls Tryz.prog 18 #[.string s] w (OtcPost w (parseC s.data.toList)) := by
  obtain ⟨z, hz⟩ : ∃ z, z = parseC s.data.toList := ⟨_, rfl⟩
  rw [← hz]
  unfold parseC at hz
  obtain ⟨ps, hps⟩ : ∃ ps, ps = pieces 32 s.data.toList := ⟨_, rfl⟩
  have ks := str_Split 32 s w hg.glob (by omega)
  have hplen := pieces_len 32 s.data.toList
  have hpmem := pieces_mem 32 s.data.toList
  have hsl : s.data.toList.length = s.size := by simp
  rw [← hps] at hz ks hplen hpmem
  rw [hsl] at hplen hpmem
  have KS := Lib.hid ks
  have HZ := Lib.hid hz
  have HG := Lib.hid hg
  have HPM := Lib.hid hpmem
  clear hz ks hg hps hpmem hsl
  go_enter Tryz.func18, Tryz.ntmps18
  go_wp2_with (go_at_call 45; refine KS.out.mono ?_; rintro e w1 ⟨v1, rfl, hs1, hb1⟩; obtain ⟨A, c, rfl, hc, hc2⟩ := hs1.shape; have HS1 := Lib.hid hs1; have HB1 := Lib.hid hb1; clear hs1 hb1)
  go_loopw [4, 20] (fun v i wr => ∃ k : Nat, k ≤ ps.length ∧ i = .int .i64 k ∧ Below w1.heap.size w1 wr ∧ OwnSl 3 elOtc 82 w1.heap.size wr v ((ps.take k).map pieceO) ∧ Hid ((ps.take k).all pieceOk = true)) (fun _ i _ => ps.length - (intOf i).toNat)
  case atStart => exact ⟨0, Nat.zero_le _, rfl, Below.refl _ _, OwnSl.nil _, Lib.hid rfl⟩
  case round =>
    obtain ⟨k, hk, rfl, hbw, hown, hall⟩ := hrel
    have hbb := HB1.out.trans (hbw.mono HB1.out.size)
    have HBB := Lib.hid hbb
    have HBW := Lib.hid hbw
    have HO := Lib.hid hown
    by_cases hlt : k < ps.length
    · obtain ⟨pb, po, rfl, hpF, p0'⟩ := HS1.out.str_at hlt
      have p0 := (hbw.cell (p := ⟨pb, po + k, none⟩) hpF.2).trans p0'
      have hpl := HPM.out _ (List.getElem_mem hlt)
      have htk : ps.take (k + 1) = ps.take k ++ [ps[k]] := List.take_succ_eq_append_getElem hlt
      have hbad : pieceOk ps[k] = false → ps.all pieceOk = false := fun h => by
        rw [Bool.eq_false_iff]; intro h2
        have := List.all_eq_true.1 h2 _ (List.getElem_mem hlt)
        rw [h] at this; cases this
      obtain ⟨p, hp⟩ : ∃ p, p = ps[k] := ⟨_, rfl⟩
      rw [← hp] at p0 hpl htk hbad
      have c1 := cut_le p [58]
      have kc : ∀ W, Below w.heap.size w W → Calls Tryz.prog 46 #[.string (S p), .string ⟨#[58]⟩] W fun e W' => e = .returned (.tuple #[.string (S (Lib.cut p [58]).1), .string (S (Lib.cut p [58]).2.1), .bool (Lib.cut p [58]).2.2]) ∧ Below W.heap.size W W' := fun W hW => by
        refine (Tryz.strings_Cut_shaped (S p) ⟨#[58]⟩ W (HG.out.below hW).glob.shaped (by rw [S_size]; omega)).mono ?_
        rintro e W' ⟨rfl, n, rfl⟩
        exact ⟨rfl, Below.drewN_ (Below.refl _ _) _⟩
      have kx : ∀ W, Calls Tryz.prog 47 #[.string (S (Lib.cut p [58]).1), .string ⟨#[87]⟩] W fun e W' => e = .returned (.tuple #[.string (S (partA p)), .bool (partW p)]) ∧ W = W' := fun W => by
        refine (Tryz.strings_CutSuffix (S (Lib.cut p [58]).1) ⟨#[87]⟩ W (by rw [S_size]; omega)).mono ?_
        rintro e W' ⟨rfl, rfl⟩
        exact ⟨rfl, rfl⟩
      have hpa : (partA p).length ≤ 1000000000 := by have := trimSuffix_le (Lib.cut p [58]).1 [87]; unfold partA; omega
      have hpb : (partB p).length ≤ 1000000000 := by unfold partB; omega
      have kn1 := fun W (hW : Below w.heap.size w W) => text_Number (S (partA p)) 0 7 W (HG.out.below hW) (by rw [S_size]; omega)
      have kn2 := fun W (hW : Below w.heap.size w W) => text_Number (S (partB p)) 1 16 W (HG.out.below hW) (by rw [S_size]; omega)
      simp only [S_data] at kn1 kn2
      have hpo : pieceO p = ⟨(numberS (partA p) 0 7).1, partW p, (numberS (partB p) 1 16).1⟩ := rfl
      have hpk : pieceOk p = (decide ((numberS (partA p) 0 7).2 = 0) && decide ((numberS (partB p) 1 16).2 = 0)) := rfl
      have hcb : (Lib.cut p [58]).2.1 = partB p := rfl
      rw [hcb] at kc
      obtain ⟨⟨n1, e1⟩, hn1⟩ : ∃ q, q = numberS (partA p) 0 7 := ⟨_, rfl⟩
      obtain ⟨⟨n2, e2⟩, hn2⟩ : ∃ q, q = numberS (partB p) 1 16 := ⟨_, rfl⟩
      rw [← hn1] at kn1 hpo hpk
      rw [← hn2] at kn2 hpo hpk
      dsimp only at kn1 kn2 hpo hpk
      obtain ⟨pa, hpae⟩ : ∃ pa, pa = partA p := ⟨_, rfl⟩
      obtain ⟨pbb, hpbe⟩ : ∃ pb, pb = partB p := ⟨_, rfl⟩
      obtain ⟨pw, hpwe⟩ : ∃ pw, pw = partW p := ⟨_, rfl⟩
      obtain ⟨ca, hcae⟩ : ∃ ca, ca = (Lib.cut p [58]).1 := ⟨_, rfl⟩
      obtain ⟨cw, hcwe⟩ : ∃ cw, cw = (Lib.cut p [58]).2.2 := ⟨_, rfl⟩
      rw [← hcae] at kc kx
      rw [← hcwe, ← hpbe] at kc
      rw [← hpae, ← hpwe] at kx
      rw [← hpae] at kn1
      rw [← hpbe] at kn2
      rw [← hpwe] at hpo
      have KC := Lib.hid kc
      have KX := Lib.hid kx
      have KN1 := Lib.hid kn1
      have KN2 := Lib.hid kn2
      have HTK := Lib.hid htk
      have HPO := Lib.hid hpo
      have HPK := Lib.hid hpk
      have HBAD := Lib.hid hbad
      have hlen : ((ps.take k).map pieceO).length = k := by simp; omega
      have HLN := Lib.hid hlen
      clear hbw hown hbb hpl htk hbad c1 kc kx hpa hpb kn1 kn2 hpo hpk hcb hn1 hn2 hpae hpbe hpwe hcae hcwe hp p0' hlen
      by_cases he1 : e1 = 0
      · by_cases he2 : e2 = 0
        · have HOKP := Lib.hid (show pieceOk p = true by rw [HPK.out, he1, he2]; rfl)
          subst he1
          subst he2
          go_wp2_with (first
            | (go_at_call 46; refine (KC.out _ HBB.out).mono ?_; rintro e w2 ⟨rfl, hb2⟩; have HB2 := Lib.hid (HBB.out.trans (hb2.mono HBB.out.size)); have HO2 := Lib.hid (HO.out.below elOtc_good hb2); have HC2 := Lib.hid (HBW.out.trans (hb2.mono HBW.out.size)); clear hb2)
            | (go_at_call 47; refine (KX.out _).mono ?_; rintro e w3 ⟨rfl, rfl⟩)
            | (go_at_call 48; clear tokN; refine (KN2.out _ HB4.out).mono ?_; rintro e w5 ⟨rfl, hb5⟩; have HB5 := Lib.hid (HB4.out.trans (hb5.mono HB4.out.size)); have HO5 := Lib.hid (HO4.out.below elOtc_good hb5); have HC5 := Lib.hid (HC4.out.trans (hb5.mono HC4.out.size)); clear hb5)
            | (go_at_call 48; refine (KN1.out _ HB2.out).mono ?_; rintro e w4 ⟨rfl, hb4⟩; have HB4 := Lib.hid (HB2.out.trans (hb4.mono HB2.out.size)); have HO4 := Lib.hid (HO2.out.below elOtc_good hb4); have HC4 := Lib.hid (HC2.out.trans (hb4.mono HC2.out.size)); have tokN : True := trivial; clear hb4)
            | (at_builtin; refine wpList_append_sl _ rfl (.tmp 51) (.tmp 56) _ rfl E_otc elOtc_good w1.heap.size _ ((ps.take k).map pieceO) rfl (HO5.out.alloc elOtc_good _) ⟨w5.heap.size, 0, none⟩ 1 [.int .i64 n1, .bool pw, .int .i64 n2] rfl ⟨n1, pw, n2⟩ rfl (cells_new _ _ _ _) (oneCells rfl) rfl (by rw [HLN.out]; simp only [maxLen]; omega) (by rw [HLN.out]; omega) (by have := HC5.out.size; simp; omega) ?_; intro v6 w6 hown6 hg6 hat6; have hb6 : Below w1.heap.size w1 w6 := below_own (Below.alloc HC5.out HC5.out.size (.cells #[.int .i64 n1, .bool pw, .int .i64 n2] 82)) (HO5.out.alloc elOtc_good (.cells #[.int .i64 n1, .bool pw, .int .i64 n2] 82)) hg6 (Nat.le_refl _) (by have := HC5.out.size; simp; omega); have HO6 := Lib.hid hown6; have HB6 := Lib.hid hb6; clear hown6 hg6 hat6 hb6))
          go_roundw
          case rel => exact ⟨k + 1, by omega, by go_num, HB6.out, by rw [HTK.out, List.map_append]; show OwnSl 3 elOtc _ _ _ _ ((ps.take k).map pieceO ++ [pieceO p]); rw [HPO.out]; exact HO6.out, Lib.hid (by rw [HTK.out, List.all_append, hall.out]; simp [HOKP.out])⟩
          case measure => simp [intOf]; omega
        · have HZ2 := Lib.hid (show z = ([], 4) by rw [HZ.out, if_pos (HBAD.out (by rw [HPK.out, he1, decide_eq_false he2, Bool.and_false]))])
          have g2 : (e2 != 0) = true := by rw [bne_iff_ne]; exact he2
          subst he1
          clear he2
          go_wp2_with (first
            | (go_at_call 46; refine (KC.out _ HBB.out).mono ?_; rintro e w2 ⟨rfl, hb2⟩; have HB2 := Lib.hid (HBB.out.trans (hb2.mono HBB.out.size)); clear hb2)
            | (go_at_call 47; refine (KX.out _).mono ?_; rintro e w3 ⟨rfl, rfl⟩)
            | (go_at_call 48; clear tokN; refine (KN2.out _ HB4.out).mono ?_; rintro e w5 ⟨rfl, hb5⟩; have HB5 := Lib.hid (HB4.out.trans (hb5.mono HB4.out.size)); clear hb5)
            | (go_at_call 48; refine (KN1.out _ HB2.out).mono ?_; rintro e w4 ⟨rfl, hb4⟩; have HB4 := Lib.hid (HB2.out.trans (hb4.mono HB2.out.size)); have tokN : True := trivial; clear hb4))
          go_ret2
          exact ⟨_, by rw [HZ2.out] <;> rfl, by rw [HZ2.out]; exact Sl.nil _ _, HB5.out⟩
      · have HZ2 := Lib.hid (show z = ([], 4) by rw [HZ.out, if_pos (HBAD.out (by rw [HPK.out, decide_eq_false he1, Bool.false_and]))])
        have g1 : (e1 != 0) = true := by rw [bne_iff_ne]; exact he1
        clear he1
        go_wp2_with (first
          | (go_at_call 46; refine (KC.out _ HBB.out).mono ?_; rintro e w2 ⟨rfl, hb2⟩; have HB2 := Lib.hid (HBB.out.trans (hb2.mono HBB.out.size)); clear hb2)
          | (go_at_call 47; refine (KX.out _).mono ?_; rintro e w3 ⟨rfl, rfl⟩)
          | (go_at_call 48; clear tokN; refine (KN2.out _ HB4.out).mono ?_; rintro e w5 ⟨rfl, hb5⟩; have HB5 := Lib.hid (HB4.out.trans (hb5.mono HB4.out.size)); clear hb5)
          | (go_at_call 48; refine (KN1.out _ HB2.out).mono ?_; rintro e w4 ⟨rfl, hb4⟩; have HB4 := Lib.hid (HB2.out.trans (hb4.mono HB2.out.size)); have tokN : True := trivial; clear hb4))
        go_ret2
        exact ⟨_, by rw [HZ2.out] <;> rfl, by rw [HZ2.out]; exact Sl.nil _ _, HB5.out⟩
    · obtain rfl : k = ps.length := by omega
      have hsl := hown.sl elOtc_good
      have ha := hall.out
      rw [List.take_of_length_le (Nat.le_refl _)] at hsl ha
      have hz1 := HZ.out
      rw [ha, if_neg (by simp)] at hz1
      obtain ⟨d, hd⟩ : ∃ d, d = ps.map pieceO := ⟨_, rfl⟩
      rw [← hd] at hsl hz1
      obtain ⟨B, c5, rfl, hc5, hc6⟩ := hsl.shape
      have kt := ch_Text d _ wr (HG.out.below hbb) (hsl.keep elOtc_good (Same.refl _ _) fun b h => h.2)
      obtain ⟨⟨t, et⟩, hte⟩ : ∃ q, q = textC d := ⟨_, rfl⟩
      rw [← hte] at kt hz1
      dsimp only at kt hz1
      have KT := Lib.hid kt
      have HSL := Lib.hid hsl
      have hz11 := HB1.out.size
      have HZ11 := Lib.hid hz11
      clear hbw hown hbb hsl ha kt hte hd hall hz11
      by_cases het : et = 0
      · by_cases hts : t = s.data.toList
        · have HZ2 := Lib.hid (show z = (d, 0) by rw [hz1, if_neg (fun h => h.elim (fun h => h het) (fun h => h hts))])
          have g1 : (t == s.toList) = true := by rw [ByteArray.toList_eq]; exact beq_iff_eq.2 hts
          subst het
          clear hz1 hts
          go_wp2_with (go_at_call 49; refine KT.out.mono ?_; rintro e w2 ⟨rfl, hb2⟩; have HB2 := Lib.hid hb2; clear hb2)
          go_ret2
          refine ⟨_, by rw [HZ2.out] <;> rfl, ?_, HBB.out.trans (HB2.out.mono HBB.out.size)⟩
          rw [HZ2.out]
          exact HSL.out.keep elOtc_good (Same.below HB2.out fun b h => h.2) fun b h => ⟨by have := h.1; have := HZ11.out; omega, Nat.lt_of_lt_of_le h.2 HB2.out.size⟩
        · have HZ2 := Lib.hid (show z = ([], 4) by rw [hz1, if_pos (.inr hts)])
          have g1 : (t == s.toList) = false := by rw [ByteArray.toList_eq]; exact beq_eq_false_iff_ne.2 hts
          subst het
          clear hz1 hts
          go_wp2_with (go_at_call 49; refine KT.out.mono ?_; rintro e w2 ⟨rfl, hb2⟩; have HB2 := Lib.hid hb2; clear hb2)
          go_ret2
          exact ⟨_, by rw [HZ2.out] <;> rfl, by rw [HZ2.out]; exact Sl.nil _ _, HBB.out.trans (HB2.out.mono HBB.out.size)⟩
      · have HZ2 := Lib.hid (show z = ([], 4) by rw [hz1, if_pos (.inl het)])
        have g1 : (et != 0) = true := by rw [bne_iff_ne]; exact het
        clear hz1 het
        go_wp2_with (go_at_call 49; refine KT.out.mono ?_; rintro e w2 ⟨rfl, hb2⟩; have HB2 := Lib.hid hb2; clear hb2)
        go_ret2
        exact ⟨_, by rw [HZ2.out] <;> rfl, by rw [HZ2.out]; exact Sl.nil _ _, HBB.out.trans (HB2.out.mono HBB.out.size)⟩
end Go.Proofs.YtjchapoggmipbaaGreatDoor

namespace Go.Proofs.YtjchapoggmipbaaGreatDoor
open Go.RowKit

theorem flat_lenG {css : List (List Value)} {size : Nat} (h : ∀ cs ∈ css, cs.length = size) : css.flatten.length = css.length * size := by
  induction css with
  | nil => simp
  | cons x css ih => rw [List.flatten_cons, List.length_append, ih (fun cs hc => h cs (by simp [hc])), h x (by simp), List.length_cons, Nat.succ_mul]; omega

/-- The cells of a slice that is not empty. -/
theorem Sl.rowsG {α : Type} {size : Nat} {R : World → (Nat → Prop) → List Value → α → Prop} {w : World} {F : Nat → Prop} {b o n c : Nat} {l : List α} (h : Sl size R w F (.slice (some ⟨b, o, none⟩) n c) l) (hs : 0 < size) :
    ∃ css : List (List Value), css.length = l.length ∧ (∀ cs ∈ css, cs.length = size) ∧ (∀ j u, css.flatten[j]? = some u → w.cell? ⟨b, o + j, none⟩ = some u) ∧
      (∀ (i : Nat) (a : α) (cs : List Value), l[i]? = some a → css[i]? = some cs → R w F cs a) := by
  have key : ∀ m, m ≤ l.length → ∃ css : List (List Value), css.length = m ∧ (∀ cs ∈ css, cs.length = size) ∧ (∀ j u, css.flatten[j]? = some u → w.cell? ⟨b, o + j, none⟩ = some u) ∧
      (∀ (i : Nat) (a : α) (cs : List Value), l[i]? = some a → css[i]? = some cs → R w F cs a) := by
    intro m
    induction m with
    | zero => intro _; exact ⟨[], rfl, by simp, by simp, by simp⟩
    | succ m ih =>
      intro hm
      obtain ⟨css, h1, h2, h3, h4⟩ := ih (by omega)
      obtain ⟨b', o', cs, e, hF, hcl, hcc, hel⟩ := h.at (k := m) (by omega)
      simp only [Option.some.injEq, Addr.mk.injEq] at e
      obtain ⟨rfl, rfl, _⟩ := e
      have hfl : css.flatten.length = m * size := by
        rw [flat_lenG h2, h1]
      refine ⟨css ++ [cs], by simp [h1], ?_, ?_, ?_⟩
      · intro c hc
        rcases List.mem_append.1 hc with hc | hc
        · exact h2 c hc
        · simp at hc; subst hc; exact hcl
      · intro j u hu
        rw [List.flatten_append, List.flatten_singleton] at hu
        by_cases hj : j < css.flatten.length
        · rw [List.getElem?_append_left hj] at hu; exact h3 j u hu
        · rw [List.getElem?_append_right (by omega)] at hu
          have := hcc (j - css.flatten.length) u hu
          rw [hfl] at this hj
          rw [show o + m * size + (j - m * size) = o + j from by omega] at this
          exact this
      · intro i a c hi hc
        by_cases hil : i < css.length
        · rw [List.getElem?_append_left hil] at hc; exact h4 i a c hi hc
        · have hi2 := (List.getElem?_eq_some_iff.1 hc).1
          have : i = m := by simp at hi2; omega
          subst this
          rw [List.getElem?_append_right (by omega)] at hc
          rw [h1, Nat.sub_self] at hc
          simp at hc; subst hc
          rw [List.getElem?_eq_getElem (by omega)] at hi
          obtain rfl := Option.some.inj hi
          exact hel
  exact key l.length (Nat.le_refl _)

/-- append of a whole slice onto an empty row just made: the row is the call's own. -/
theorem step_append_mine {P : Program} {ops : Array Oper} {o : Oper} {a : Act} {w : World} {K : Act → World → Prop} {Q : Exit → Act → World → Prop} {E : Prop} (hgd : o.guard = none) (s x : Operand) (t : TypeId)
    (ho : o.op = .call { callee := .builtin .append, args := #[s, x], argTypes := #[t, t] })
    {e : TypeId} {size bytes : Nat} (hE : ElemOf P t e size bytes) {α : Type} {R : World → (Nat → Prop) → List Value → α → Prop} (hR : Good R)
    (base : Nat) (ad0 : Addr) (l' : List α) (hs : a.eval s = .slice (some ad0) 0 0) (hown : OwnG size R e base w (.slice (some ad0) 0 0) NoG [])
    (F : Nat → Prop) (A : Option Addr) (n c : Nat) (hx : a.eval x = .slice A n c) (hsl : Sl size R w F (.slice A n c) l')
    (hRF : ∀ w G G' cs x, R w G cs x → R w G' cs x)
    (h1 : ∀ w F cs x, R w F cs x → ∀ u ∈ cs, u.oneCell' = true)
    (h63 : l'.length ≤ maxLen) (hbytes : l'.length * bytes ≤ 140737488355328) (hbase : base ≤ w.heap.size)
    (h : ∀ A' c' w', OwnSl size R e base w' (.slice A' n c') l' → Below base w w' → K (a.put o.dst (.slice A' n c')) w') :
    if Region.wanted o (yielded ops a.tmps) = true then Oper.wp P o a w K Q else E := by
  have hw : Region.wanted o (yielded ops a.tmps) = true := by simp [Region.wanted, hgd]
  rw [if_pos hw]
  have hown0 := hown
  obtain ⟨i, z, e1, e2, e3, e4, e5, e6, e7⟩ := hE
  obtain ⟨A', c', hv, hlc, hcm, hA⟩ := hsl
  injection hv with hv1 hv2 hv3
  subst hv2; subst hv3
  by_cases h0 : 0 < l'.length
  · obtain ⟨b, o', hab, hFb, _⟩ := hA h0
    obtain ⟨css', hl', hsz', hcell', hel''⟩ := Sl.rowsG (l := l') (b := b) (o := o') (n := l'.length) (c := c) ⟨A', c, by rw [← hab], hlc, hcm, hA⟩ e7
    rw [hv1, hab] at hx
    obtain ⟨css, hlen, ho', hsz, hel'⟩ := hown
    have hcss : css = [] := List.eq_nil_of_length_eq_zero (by simpa using hlen)
    subst hcss
    obtain ⟨v', w', hr, h2, h3, _, h4⟩ := run_append_own_at (P := P) w base t o.type e i z size bytes e1 e2 e3 e4 e5 e6 e7 (.slice (some ad0) 0 0) 0 [] ho' ⟨b, o', none⟩ l'.length c css'.flatten (by rw [flat_lenG hsz', hl'])
      (fun j u hu => by rw [show (⟨b, o', none⟩ : Addr).add j = ⟨b, o' + j, none⟩ from Addr.add_lit b o' j]; exact hcell' j u hu) (fun u hu => by
        obtain ⟨cs, hc, hu'⟩ := List.mem_flatten.1 hu
        obtain ⟨k, hk⟩ := List.mem_iff_getElem?.1 hc
        have hil : k < l'.length := by have := (List.getElem?_eq_some_iff.1 hk).1; omega
        exact h1 w F cs _ (hel'' k l'[k] cs (List.getElem?_eq_getElem hil) hk) u hu') (by omega) (by simpa using hbytes) hbase
    have hnew : OwnSl size R e base w' v' l' := by
      refine ⟨css', hl', by simpa using h2, hsz', fun k x cs hk hc => ?_⟩
      exact hR.keep (G := NoG) (hRF _ F NoG _ _ (hel'' k x cs hk hc)) (fun _ h => h.elim) fun _ h => h
    have hsl' := hnew.sl hR
    obtain ⟨A2, c2, hv2, _⟩ := hsl'.shape
    subst hv2
    unfold Oper.wp execOp
    simp only [ho, resolve, invoke, builtin, Sem.run_bind, Sem.run_pure, Result.andThen_ok, List.map_toArray, List.map_cons, List.map_nil, hs, hx, hr]
    exact h _ _ _ hnew (below_own (Below.refl base w) hown0 h3 (Nat.le_refl _) hbase)
  · have hn : l' = [] := List.eq_nil_of_length_eq_zero (by omega)
    subst hn
    have hr : (Builtin.append_ #[t, t] o.type #[.slice (some ad0) 0 0, .slice A 0 c]).run P w = .ok (.slice (some ad0) 0 0) w := by
      cases A with
      | none => exact run_append_nothing w t t o.type e i e1 e2 (some ad0) 0 0 (Nat.le_refl _) _ (Src.ofNil w e1 c)
      | some ad => exact run_append_nothing w t t o.type e i e1 e2 (some ad0) 0 0 (Nat.le_refl _) _ (Src.ofSlice w e1 ad 0 c [] (by simp) (by simp) (by simp))
    simp only [List.length_nil] at hx h hr ⊢
    unfold Oper.wp execOp
    simp only [ho, resolve, invoke, builtin, Sem.run_bind, Sem.run_pure, Result.andThen_ok, List.map_toArray, List.map_cons, List.map_nil, hs, hx, hr]
    exact h (some ad0) 0 w hown0 (Below.refl _ _)
theorem flat_setG {α : Type} {size : Nat} : ∀ (css : List (List α)) (i j : Nat) (u : α), (∀ cs ∈ css, cs.length = size) → j < size → ∀ (hi : i < css.length), (css.set i (css[i].set j u)).flatten = css.flatten.set (i * size + j) u
  | cs :: css, 0, j, u, h, hj, _ => by
    have h0 := h cs (by simp)
    simp only [List.set_cons_zero, List.getElem_cons_zero, List.flatten_cons, Nat.zero_mul, Nat.zero_add]
    rw [List.set_append_left _ _ (by omega)]
  | cs :: css, i + 1, j, u, h, hj, hi => by
    have h0 := h cs (by simp)
    have ih := flat_setG css i j u (fun c hc => h c (by simp [hc])) hj (by simpa using hi)
    simp only [List.set_cons_succ, List.getElem_cons_succ, List.flatten_cons, ih]
    rw [List.set_append_right _ _ (by rw [h0, Nat.succ_mul]; omega), h0]
    congr 2
    rw [Nat.succ_mul]; omega
/-- A store into an element of a row of the call's own. -/
theorem OwnG.put {α : Type} {size e base : Nat} {R : World → (Nat → Prop) → List Value → α → Prop} {G : Nat → Prop} {w : World} {g n cap : Nat} {l : List α} (h : OwnG size R e base w (.slice (some ⟨g, 0, none⟩) n cap) G l)
    (hRw : ∀ w' cs a, R w G cs a → R w' G cs a) {i j : Nat} (hi : i < l.length) (hj : j < size) (u : Value) (a' : α) (hset : ∀ cs w', R w G cs l[i] → R w' G (cs.set j u) a') :
    OwnG size R e base (w.setCell ⟨g, i * size + j, none⟩ u) (.slice (some ⟨g, 0, none⟩) n cap) G (l.set i a') := by
  obtain ⟨css, hlen, ho, hsz, hel⟩ := h
  have hn : n = l.length := by
    rcases ho.2 with ⟨hv, _⟩ | ⟨g', cap', cur, hv, _⟩
    · cases hv
    · injection hv
  subst hn
  have hic : i < css.length := by omega
  have hst := (ho.stored (i * size + j) u).1
  rw [← flat_setG css i j u hsz hj hic] at hst
  refine ⟨css.set i (css[i].set j u), by simp [hlen], by simpa using hst, ?_, ?_⟩
  · intro cs hc
    rcases List.mem_or_eq_of_mem_set hc with h | h
    · exact hsz cs h
    · rw [h, List.length_set]; exact hsz _ (List.getElem_mem hic)
  · intro k a cs hk hc
    by_cases hki : k = i
    · subst hki
      rw [List.getElem?_set_self hi] at hk
      rw [List.getElem?_set_self hic] at hc
      obtain rfl := Option.some.inj hk
      obtain rfl := Option.some.inj hc
      exact hset _ _ (hel k _ _ (List.getElem?_eq_getElem hi) (List.getElem?_eq_getElem hic))
    · rw [List.getElem?_set_ne (fun e => hki e.symm)] at hk hc
      exact hRw _ _ _ (hel k a cs hk hc)
/-- The same at a list of operations. -/
theorem wpList_append_mine {P : Program} {ops : Array Oper} {rest : List Oper} {o : Oper} {a : Act} {w : World} {Q : Exit → Act → World → Prop} (hgd : o.guard = none) (s x : Operand) (t : TypeId)
    (ho : o.op = .call { callee := .builtin .append, args := #[s, x], argTypes := #[t, t] })
    {e : TypeId} {size bytes : Nat} (hE : ElemOf P t e size bytes) {α : Type} {R : World → (Nat → Prop) → List Value → α → Prop} (hR : Good R)
    (base : Nat) (ad0 : Addr) (l' : List α) (hs : a.eval s = .slice (some ad0) 0 0) (hown : OwnG size R e base w (.slice (some ad0) 0 0) NoG [])
    (F : Nat → Prop) (A : Option Addr) (n c : Nat) (hx : a.eval x = .slice A n c) (hsl : Sl size R w F (.slice A n c) l')
    (hRF : ∀ w G G' cs x, R w G cs x → R w G' cs x)
    (h1 : ∀ w F cs x, R w F cs x → ∀ u ∈ cs, u.oneCell' = true)
    (h63 : l'.length ≤ maxLen) (hbytes : l'.length * bytes ≤ 140737488355328) (hbase : base ≤ w.heap.size)
    (h : ∀ A' c' w', OwnSl size R e base w' (.slice A' n c') l' → Below base w w' → wpList P ops Q rest (a.put o.dst (.slice A' n c')) w') : wpList P ops Q (o :: rest) a w := by
  refine wpList_plain hgd fun K hK => ?_
  have := step_append_mine (ops := ops) (K := K) (Q := Q) (E := True) hgd s x t ho hE hR base ad0 l' hs hown F A n c hx hsl hRF h1 h63 hbytes hbase fun A' c' w' h2 h3 => hK _ _ (h A' c' w' h2 h3)
  rwa [if_pos (by simp [Region.wanted, hgd])] at this
end Go.Proofs.YtjchapoggmipbaaGreatDoor
