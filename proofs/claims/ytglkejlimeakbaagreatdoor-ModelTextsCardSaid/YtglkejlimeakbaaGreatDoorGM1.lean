/- Several texts of this family in one: P50 P51 H1 H2 H3 P52 H4 W6 P60 P61 P63 J0 W7 T5 T7 N3 P53 S1 C. -/
import Derived.Test.YtglkejlimeakbaaGreatDoorGM0
import Derived.IntWalk
import Derived.BigQuiet
import Derived.Deep.RegionHeld3
import Derived.Deep.OwnRows
import Derived.Deep.Slices
import Derived.Shelf.Strings.Builder1
import Derived.Lib.OthersKept
import Derived.Lib.AtoiErrMem
import Derived.Shelf.Strings.SlTrimAscii
import Derived.Lib.AppendIntMem
import Derived.Lib.Repeat
import Derived.Lib.Join
import Derived.Lib.IndexMore
set_option linter.unusedSimpArgs false
set_option linter.unusedVariables false
namespace Go.Proofs.YtglkejlimeakbaaGreatDoor

structure Otc where
  runs : Int
  wick : Bool
  wt : Int
structure Spr where
  balls : Int
  ws : List Int
/-- How the program compares two outcomes. -/
def ordS (a b : Otc) : Int :=
  if a.runs ≠ b.runs then (if a.runs < b.runs then -1 else 1) else if a.wick = b.wick then 0 else if b.wick = true then -1 else 1
def befB (a b : Otc) : Bool := decide (ordS a b < 0)
def badO (o : Otc) : Bool := decide (o.runs < 0) || decide (7 < o.runs) || decide (o.wt < 1) || decide (16 < o.wt)
def otcErr (prev : Option Otc) (o : Otc) : Int :=
  if badO o = true then 2 else match prev with
    | none => 0
    | some p => if befB p o = true then 0 else 8
/-- The first error of the outcomes behind prev, the weights so far being sum. -/
def otcsF : Option Otc → Int → List Otc → Int
  | _, sum, [] => if sum = 16 then 0 else 12
  | prev, sum, o :: r => if otcErr prev o ≠ 0 then otcErr prev o else otcsF (some o) (sum + o.wt) r
def checkD (d : List Otc) : Int := if d.length = 0 then 6 else if 16 < d.length then 9 else otcsF none 0 d
def sumI (l : List Int) : Int := l.foldr (· + ·) 0
theorem sumI_nil : sumI [] = 0 := rfl
theorem sumI_cons (x : Int) (l : List Int) : sumI (x :: l) = x + sumI l := rfl
theorem sumI_app (l m : List Int) : sumI (l ++ m) = sumI l + sumI m := by
  induction l with
  | nil => rw [List.nil_append, sumI_nil]; omega
  | cons x l ih => rw [List.cons_append, sumI_cons, sumI_cons, ih]; omega
theorem sumI_take_le {l : List Int} (h : ∀ x ∈ l, 0 ≤ x) (k : Nat) : 0 ≤ sumI (l.take k) ∧ sumI (l.take k) ≤ sumI l := by
  have e := sumI_app (l.take k) (l.drop k)
  rw [List.take_append_drop] at e
  have pos : ∀ m : List Int, (∀ x ∈ m, 0 ≤ x) → 0 ≤ sumI m := by
    intro m
    induction m with
    | nil => intro _; simp [sumI_nil]
    | cons x m ih => intro hm; rw [sumI_cons]; have := hm x (by simp); have := ih fun y hy => hm y (by simp [hy]); omega
  have h1 := pos (l.take k) fun x hx => h x (List.mem_of_mem_take hx)
  have h2 := pos (l.drop k) fun x hx => h x (List.mem_of_mem_drop hx)
  omega
def unitV (n : Nat) : Int := 16 ^ n
/-- The first error of a spread. -/
def checkP (s : Spr) : Int :=
  if s.balls < 0 ∨ 12 < s.balls then 2
  else if s.ws.length = 0 then 6
  else if 7 * s.balls + 1 < (s.ws.length : Int) then 9
  else if s.ws.all (fun x => decide (0 ≤ x) && decide (x ≤ unitV s.balls.toNat)) = false then 2
  else if s.ws.getLast? = some 0 then 4
  else if sumI s.ws = unitV s.balls.toNat then 0 else 12
/-- Entries from 0 on, with a sum u. -/
structure Fine (l : List Int) (u : Int) : Prop where
  pos : ∀ x ∈ l, 0 ≤ x
  sum : sumI l = u
theorem mem_le_sum {l : List Int} (h : ∀ x ∈ l, 0 ≤ x) : ∀ x ∈ l, x ≤ sumI l := by
  induction l with
  | nil => intro x hx; cases hx
  | cons y l ih =>
    intro x hx
    rw [sumI_cons]
    have h0 := h y (by simp)
    have h1 := (sumI_take_le (l := l) (fun z hz => h z (by simp [hz])) 0).2
    rw [List.take_zero, sumI_nil] at h1
    rcases List.mem_cons.1 hx with rfl | hx
    · omega
    · have := ih (fun z hz => h z (by simp [hz])) x hx; omega
end Go.Proofs.YtglkejlimeakbaaGreatDoor

namespace Go.Proofs.YtglkejlimeakbaaGreatDoor

/-- The outcome ahead of the k-th. -/
def prevO (l : List Otc) (k : Nat) : Option Otc := if k = 0 then none else l[k - 1]?
theorem prevO_zero (l : List Otc) : prevO l 0 = none := rfl
theorem prevO_succ {l : List Otc} {k : Nat} (h : k ≠ 0) (hk : k - 1 < l.length) : prevO l k = some l[k - 1] := by unfold prevO; rw [if_neg h, List.getElem?_eq_getElem hk]
theorem otcsF_at {l : List Otc} {k : Nat} (s : Int) (h : k < l.length) :
    otcsF (prevO l k) s (l.drop k) = if otcErr (prevO l k) l[k] ≠ 0 then otcErr (prevO l k) l[k] else otcsF (prevO l (k + 1)) (s + l[k].wt) (l.drop (k + 1)) := by
  rw [List.drop_eq_getElem_cons h, otcsF]
  have : prevO l (k + 1) = some l[k] := by unfold prevO; rw [if_neg (by omega), Nat.add_sub_cancel, List.getElem?_eq_getElem h]
  rw [this]
theorem otcsF_end {l : List Otc} {k : Nat} (p : Option Otc) (s : Int) (h : l.length ≤ k) : otcsF p s (l.drop k) = if s = 16 then 0 else 12 := by rw [List.drop_of_length_le h, otcsF]
theorem otcErr_bad {p : Option Otc} {o : Otc} (h : badO o = true) : otcErr p o = 2 := by unfold otcErr; rw [if_pos h]
theorem otcErr_none {o : Otc} (h : badO o = false) : otcErr none o = 0 := by unfold otcErr; rw [if_neg (by simp [h])]
theorem otcErr_some {p o : Otc} (h : badO o = false) : otcErr (some p) o = if befB p o = true then 0 else 8 := by unfold otcErr; rw [if_neg (by simp [h])]
/-- The ways through the test of an outcome. -/
theorem badO_ways (o : Otc) : (badO o = true ∧ ((decide (o.runs < 0) = true) ∨ (decide (o.runs < 0) = false ∧ decide (7 < o.runs) = true) ∨ (decide (o.runs < 0) = false ∧ decide (7 < o.runs) = false ∧ decide (o.wt < 1) = true) ∨ (decide (o.runs < 0) = false ∧ decide (7 < o.runs) = false ∧ decide (o.wt < 1) = false ∧ decide (16 < o.wt) = true)))
    ∨ (badO o = false ∧ decide (o.runs < 0) = false ∧ decide (7 < o.runs) = false ∧ decide (o.wt < 1) = false ∧ decide (16 < o.wt) = false) := by
  unfold badO
  cases decide (o.runs < 0) <;> cases decide (7 < o.runs) <;> cases decide (o.wt < 1) <;> cases decide (16 < o.wt) <;> simp
structure OkO (o : Otc) : Prop where
  r0 : 0 ≤ o.runs
  r7 : o.runs ≤ 7
  w1 : 1 ≤ o.wt
  w16 : o.wt ≤ 16
theorem badO_no {o : Otc} (h : badO o = false) : OkO o := by
  unfold badO at h
  simp at h
  obtain ⟨⟨⟨a, b⟩, c⟩, d⟩ := h
  exact ⟨by omega, by omega, by omega, by omega⟩
theorem bef_runs {a b : Otc} (h : befB a b = true) : a.runs ≤ b.runs := by
  unfold befB ordS at h
  simp only [decide_eq_true_eq] at h
  repeat' split at h
  all_goals omega
theorem otcsF_ok : ∀ (l : List Otc) (p : Option Otc) (s : Int), otcsF p s l = 0 →
    (∀ o ∈ l, OkO o) ∧ s + sumI (l.map (·.wt)) = 16 ∧ (∀ a ∈ l, ∀ b, l.getLast? = some b → a.runs ≤ b.runs) ∧ (∀ q, p = some q → ∀ b, l.getLast? = some b → q.runs ≤ b.runs) := by
  intro l
  induction l with
  | nil =>
    intro p s h
    rw [otcsF] at h
    refine ⟨(fun o ho => by cases ho), ?_, (fun a ha => by cases ha), (fun q hq b hb => by cases hb)⟩
    rw [List.map_nil, sumI_nil]
    split at h
    · omega
    · cases h
  | cons o l ih =>
    intro p s h
    rw [otcsF] at h
    by_cases he : otcErr p o = 0
    · rw [if_neg (fun k => k he)] at h
      obtain ⟨h1, h2, h3, h4⟩ := ih _ _ h
      have hb : badO o = false := by
        cases hb : badO o
        · rfl
        · rw [otcErr_bad hb] at he; cases he
      have hlast : ∀ b, (o :: l).getLast? = some b → o.runs ≤ b.runs := by
        intro b hb'
        cases l with
        | nil => simp at hb'; rw [hb']; exact Int.le_refl _
        | cons x l => rw [List.getLast?_cons_cons] at hb'; exact h4 o rfl b hb'
      refine ⟨?_, ?_, ?_, ?_⟩
      · intro x hx
        rcases List.mem_cons.1 hx with rfl | hx
        · exact badO_no hb
        · exact h1 x hx
      · rw [List.map_cons, sumI_cons]; omega
      · intro a ha b hb'
        rcases List.mem_cons.1 ha with rfl | ha
        · exact hlast b hb'
        · cases l with
          | nil => cases ha
          | cons x l => rw [List.getLast?_cons_cons] at hb'; exact h3 a ha b hb'
      · intro q hq b hb'
        subst hq
        rw [otcErr_some hb] at he
        have hbq : befB q o = true := by
          cases hx : befB q o
          · rw [hx] at he; simp at he
          · rfl
        have := bef_runs hbq
        have := hlast b hb'
        omega
    · rw [if_pos he] at h; exact absurd h he
/-- What an accepted distribution is. -/
structure OkD (d : List Otc) : Prop where
  len : 1 ≤ d.length ∧ d.length ≤ 16
  each : ∀ o ∈ d, OkO o
  sum : sumI (d.map (·.wt)) = 16
  last : ∀ a ∈ d, ∀ b, d.getLast? = some b → a.runs ≤ b.runs
theorem checkD_ok {d : List Otc} (h : checkD d = 0) : OkD d := by
  unfold checkD at h
  by_cases h0 : d.length = 0
  · rw [if_pos h0] at h; cases h
  · rw [if_neg h0] at h
    by_cases h1 : 16 < d.length
    · rw [if_pos h1] at h; cases h
    · rw [if_neg h1] at h
      obtain ⟨a, b, c, _⟩ := otcsF_ok _ _ _ h
      exact ⟨by omega, a, by omega, c⟩
/-- What an accepted spread is. -/
structure OkP (n : Nat) (ws : List Int) : Prop where
  n12 : n ≤ 12
  len : 1 ≤ ws.length ∧ ws.length ≤ 7 * n + 1
  fine : Fine ws (unitV n)
  last : ws.getLast? ≠ some 0
theorem OkP.ne {n : Nat} {ws : List Int} (h : OkP n ws) : ws ≠ [] := by intro e; have := h.len.1; rw [e] at this; simp at this
theorem OkP.check {n : Nat} {ws : List Int} (h : OkP n ws) : checkP ⟨(n : Int), ws⟩ = 0 := by
  unfold checkP
  have hl := h.len
  have h12 := h.n12
  simp only [Int.toNat_natCast]
  rw [if_neg (by omega), if_neg (by omega), if_neg (by omega), if_neg ?_, if_neg h.last, if_pos h.fine.sum]
  have : (ws.all fun x => decide (0 ≤ x) && decide (x ≤ unitV n)) = true := by
    rw [List.all_eq_true]
    intro x hx
    have h1 := h.fine.pos x hx
    have h2 := mem_le_sum h.fine.pos x hx
    rw [h.fine.sum] at h2
    simp [h1, h2]
  rw [this]; simp
end Go.Proofs.YtglkejlimeakbaaGreatDoor

namespace Go.Proofs.YtglkejlimeakbaaGreatDoor
open Go.RowKit

def elOtc (_ : World) (_ : Nat → Prop) (cs : List Value) (o : Otc) : Prop := cs = [.int .i64 o.runs, .bool o.wick, .int .i64 o.wt]
theorem elOtc_good : Good elOtc := ⟨fun h _ _ => h⟩
/-- The outcome k of a list that lies. -/
theorem otc_at {w : World} {F : Nat → Prop} {A : Option Addr} {n c : Nat} {l : List Otc} (h : Sl 3 elOtc w F (.slice A n c) l) {k : Nat} (hk : k < l.length) :
    ∃ b o, A = some ⟨b, o, none⟩ ∧ F b ∧ w.cell? ⟨b, o + k * 3, none⟩ = some (.int .i64 l[k].runs) ∧ w.cell? ⟨b, o + k * 3 + 1, none⟩ = some (.bool l[k].wick) ∧ w.cell? ⟨b, o + k * 3 + 2, none⟩ = some (.int .i64 l[k].wt) := by
  obtain ⟨b, o, cs, h1, h2, h3, h4, h5⟩ := h.at hk
  have h5' : cs = [.int .i64 l[k].runs, .bool l[k].wick, .int .i64 l[k].wt] := h5
  subst h5'
  have y0 := h4 0 _ rfl
  rw [Nat.add_zero] at y0
  exact ⟨b, o, h1, h2, y0, h4 1 _ rfl, h4 2 _ rfl⟩
def outV (o : Otc) : Value := .agg #[.int .i64 o.runs, .bool o.wick, .int .i64 o.wt]
def cmpI (a b : Int) : Int := if a < b then -1 else if b < a then 1 else 0
set_option maxRecDepth 100000 in
theorem cmp_nan (a : Int) (w : World) : Calls Tryz.prog 173 #[.int .i64 a] w fun e w' => e = .returned (.bool false) ∧ w = w' := by
  go_enter Tryz.func173, Tryz.ntmps173
  go_wp2
  go_ret
  exact ⟨ret_b (by simp), rfl⟩
set_option maxRecDepth 100000 in
theorem cmp_intE (a b : Int) (w : World) : Calls Tryz.prog 143 #[.int .i64 a, .int .i64 b] w fun e w' => e = .returned (.int .i64 (cmpI a b)) ∧ w = w' := by
  unfold cmpI
  by_cases h1 : a < b
  · rw [if_pos h1]
    go_enter Tryz.func143, Tryz.ntmps143
    go_wp2_with (go_at_call 173; refine (cmp_nan _ _).mono ?_; rintro e w2 ⟨rfl, rfl⟩)
    go_ret
    exact ⟨rfl, rfl⟩
  · rw [if_neg h1]
    by_cases h2 : b < a
    · rw [if_pos h2]
      go_enter Tryz.func143, Tryz.ntmps143
      go_wp2_with (go_at_call 173; refine (cmp_nan _ _).mono ?_; rintro e w2 ⟨rfl, rfl⟩)
      go_ret
      exact ⟨rfl, rfl⟩
    · rw [if_neg h2]
      go_enter Tryz.func143, Tryz.ntmps143
      go_wp2_with (go_at_call 173; refine (cmp_nan _ _).mono ?_; rintro e w2 ⟨rfl, rfl⟩)
      go_ret
      exact ⟨rfl, rfl⟩
set_option maxRecDepth 100000 in
set_option maxHeartbeats 1000000 in
theorem ch_orderE (a b : Otc) (w : World) : Calls Tryz.prog 120 #[outV a, outV b] w fun e w' => e = .returned (.int .i64 (ordS a b)) ∧ w' = (w.alloc (.cells #[.int .i64 a.runs, .bool a.wick, .int .i64 a.wt] 119)).alloc (.cells #[.int .i64 b.runs, .bool b.wick, .int .i64 b.wt] 119) := by
  unfold outV
  by_cases hr : a.runs = b.runs
  · have e1 : (a.runs != b.runs) = false := by rw [hr]; simp
    obtain ⟨ar, aw, at_⟩ := a
    obtain ⟨br, bw, bt⟩ := b
    dsimp only at hr e1 ⊢
    have hz : ordS ⟨ar, aw, at_⟩ ⟨br, bw, bt⟩ = if aw = bw then 0 else if bw = true then -1 else 1 := by unfold ordS; rw [if_neg (fun k => k hr)]
    rw [hz]
    clear hz hr
    cases aw <;> cases bw
    all_goals
      go_enter Tryz.func120, Tryz.ntmps120
      go_wp2
      go_ret
      exact ⟨rfl, rfl⟩
  · have e1 : (a.runs != b.runs) = true := by rw [bne_iff_ne]; exact hr
    have hz : ordS a b = cmpI a.runs b.runs := by
      unfold ordS cmpI; rw [if_pos hr]
      by_cases h : a.runs < b.runs
      · rw [if_pos h, if_pos h]
      · rw [if_neg h, if_neg h, if_pos (by omega)]
    rw [hz]
    clear hz hr
    go_enter Tryz.func120, Tryz.ntmps120
    go_wp2_with (go_at_call 143; refine (cmp_intE _ _ _).mono ?_; rintro e w2 ⟨rfl, rfl⟩)
    all_goals go_ret
    all_goals exact ⟨rfl, rfl⟩
theorem ch_order (a b : Otc) (w : World) : Calls Tryz.prog 120 #[outV a, outV b] w fun e w' => e = .returned (.int .i64 (ordS a b)) ∧ Below w.heap.size w w' :=
  (ch_orderE a b w).mono fun e w' h => ⟨h.1, by rw [h.2]; exact Below.alloc (Below.alloc (Below.refl _ _) (Nat.le_refl _) _) (by simp) _⟩
set_option maxRecDepth 100000 in
set_option maxHeartbeats 1000000 in
theorem ref_Before (a b : Otc) (w : World) : Calls Tryz.prog 129 #[outV a, outV b] w fun e w' => e = .returned (.bool (befB a b)) ∧ Below w.heap.size w w' := by
  unfold outV
  have hend : Below w.heap.size w ((w.alloc (.cells #[.int .i64 a.runs, .bool a.wick, .int .i64 a.wt] 119)).alloc (.cells #[.int .i64 b.runs, .bool b.wick, .int .i64 b.wt] 119)) := Below.alloc (Below.alloc (Below.refl _ _) (Nat.le_refl _) _) (by simp) _
  obtain ⟨ar, aw, at_⟩ := a
  obtain ⟨br, bw, bt⟩ := b
  have HE := Lib.hid hend
  clear hend
  dsimp only at HE ⊢
  obtain ⟨z, hz⟩ : ∃ z, z = befB ⟨ar, aw, at_⟩ ⟨br, bw, bt⟩ := ⟨_, rfl⟩
  rw [← hz]
  unfold befB ordS at hz
  by_cases h1 : ar < br
  · have e1 : decide (ar < br) = true := decide_eq_true h1
    have HZ := Lib.hid (show z = true by rw [hz]; simp only; rw [if_pos (by omega), if_pos h1]; rfl)
    clear hz h1
    go_enter Tryz.func129, Tryz.ntmps129
    go_wp2
    go_ret
    exact ⟨ret_b HZ.out.symm, HE.out⟩
  · have e1 : decide (ar < br) = false := decide_eq_false h1
    by_cases h2 : ar = br
    · have e2 : (ar == br) = true := beq_iff_eq.2 h2
      have HZ := Lib.hid (show z = (!aw && bw) by rw [hz]; simp only; rw [if_neg (fun k => k h2)]; cases aw <;> cases bw <;> rfl)
      clear hz h1 h2
      cases aw <;> cases bw
      all_goals
        go_enter Tryz.func129, Tryz.ntmps129
        go_wp2
        go_ret
        exact ⟨ret_b HZ.out.symm, HE.out⟩
    · have e2 : (ar == br) = false := beq_eq_false_iff_ne.2 h2
      have HZ := Lib.hid (show z = false by rw [hz]; simp only; rw [if_pos h2, if_neg h1]; rfl)
      clear hz h1 h2
      go_enter Tryz.func129, Tryz.ntmps129
      go_wp2
      go_ret
      exact ⟨ret_b HZ.out.symm, HE.out⟩
end Go.Proofs.YtglkejlimeakbaaGreatDoor

namespace Go.Proofs.YtglkejlimeakbaaGreatDoor
open Go.RowKit

theorem befB_neg (a b : Otc) : decide (0 ≤ ordS a b) = !befB a b := by
  unfold befB
  by_cases h : ordS a b < 0
  · rw [decide_eq_true h, decide_eq_false (by omega)]; rfl
  · rw [decide_eq_false h, decide_eq_true (by omega)]; rfl
set_option maxRecDepth 100000 in
set_option maxHeartbeats 2000000 in
theorem ch_Check (d : List Otc) (v : Value) (w : World) (h : Sl 3 elOtc w (· < w.heap.size) v d) : Calls Tryz.prog 78 #[v] w fun e w' => e = .returned (.int .i64 (checkD d)) ∧ Below w.heap.size w w' := by
  obtain ⟨z, hz⟩ : ∃ z, z = checkD d := ⟨_, rfl⟩
  rw [← hz]
  unfold checkD at hz
  obtain ⟨A, c, rfl, hc, hc2⟩ := h.shape
  by_cases h0 : d.length = 0
  · rw [if_pos h0] at hz
    have HZ := Lib.hid hz
    clear hz h
    go_enter Tryz.func78, Tryz.ntmps78
    have e0 : ((d.length : Int) == 0) = true := by rw [h0]; rfl
    clear h0
    go_wp2
    go_ret
    exact ⟨ret_i HZ.out.symm, Below.refl _ _⟩
  · rw [if_neg h0] at hz
    have e0 : ((d.length : Int) == 0) = false := by rw [beq_eq_false_iff_ne]; omega
    by_cases h16 : 16 < d.length
    · rw [if_pos h16] at hz
      have HZ := Lib.hid hz
      have h16' : (16 : Int) < (d.length : Int) := by omega
      clear hz h h0
      go_enter Tryz.func78, Tryz.ntmps78
      go_wp2
      go_ret
      exact ⟨ret_i HZ.out.symm, Below.refl _ _⟩
    · rw [if_neg h16] at hz
      have h16' : (d.length : Int) ≤ 16 := by omega
      have HZ := Lib.hid hz
      have H := Lib.hid h
      clear hz h h0 h16
      go_enter Tryz.func78, Tryz.ntmps78
      go_wp2
      go_loopw [3, 16] (fun sv i wr => ∃ (k : Nat) (s : Int), k ≤ d.length ∧ i = .int .i64 k ∧ sv = .int .i64 s ∧ 0 ≤ s ∧ s ≤ 16 * k ∧ Below w.heap.size w wr ∧ Hid (z = otcsF (prevO d k) s (d.drop k)))
        (fun _ i _ => d.length - (intOf i).toNat)
      case atStart => exact ⟨0, 0, Nat.zero_le _, rfl, rfl, by omega, by omega, Below.refl _ _, HZ.out⟩
      case round =>
        obtain ⟨k, s, hk, rfl, rfl, hs0, hs1, hb, hzz⟩ := hrel
        have HB := Lib.hid hb
        by_cases hlt : k < d.length
        · obtain ⟨b, o, rfl, hbl, y0', y1', y2'⟩ := otc_at H.out hlt
          have hzz' := hzz.out
          rw [otcsF_at s hlt] at hzz'
          obtain ⟨⟨pr, pw, pt⟩, hp⟩ : ∃ p, p = d[k] := ⟨_, rfl⟩
          rw [← hp] at y0' y1' y2' hzz'
          have y0 := (hb.cell (p := ⟨b, o + k * 3, none⟩) hbl).trans y0'
          have y1 := (hb.cell (p := ⟨b, o + k * 3 + 1, none⟩) hbl).trans y1'
          have y2 := (hb.cell (p := ⟨b, o + k * 3 + 2, none⟩) hbl).trans y2'
          dsimp only at y0 y1 y2
          clear y0' y1' y2' hzz
          have hbw : b < wr.heap.size := Nat.lt_of_lt_of_le hbl hb.size
          rcases badO_ways ⟨pr, pw, pt⟩ with ⟨hB, hw⟩ | ⟨hB, e1, e2, e3, e4⟩
          · have hz2 : z = 2 := by rw [hzz', otcErr_bad hB]; rfl
            have HZZ := Lib.hid hz2
            clear hb hzz' hp hz2 hB hbw
            rcases hw with e1 | ⟨e1, e2⟩ | ⟨e1, e2, e3⟩ | ⟨e1, e2, e3, e4⟩
            all_goals
              dsimp only at *
              go_wp2
              go_ret
              exact ⟨ret_i HZZ.out.symm, Below.alloc HB.out HB.out.size _⟩
          · have hok := badO_no hB
            have hw1 := hok.w1
            have hw16 := hok.w16
            dsimp only at e1 e2 e3 e4 hw1 hw16
            by_cases hk0 : k = 0
            · have hz2 : z = otcsF (prevO d (k + 1)) (s + pt) (d.drop (k + 1)) := by
                rw [hzz', hk0, prevO_zero, otcErr_none hB]; rfl
              have HZZ := Lib.hid hz2
              have g1 : decide ((0 : Int) < (k : Int)) = false := decide_eq_false (by omega)
              have g2 : decide (0 < k) = false := decide_eq_false (by omega)
              clear hb hzz' hp hz2 hB hk0 hok hbw
              go_wp2
              go_quiet (fail)
              go_wp2
              go_roundw
              case rel => exact ⟨k + 1, _, by omega, by go_num, rfl, by omega, by omega, Below.drewN_ (Below.alloc HB.out HB.out.size _) _, HZZ.out⟩
              case measure => simp [intOf]; omega
            · obtain ⟨b', o', hbo, hbl', q0', q1', q2'⟩ := otc_at H.out (k := k - 1) (by omega)
              simp only [Option.some.injEq, Addr.mk.injEq] at hbo
              obtain ⟨rfl, rfl, _⟩ := hbo
              obtain ⟨x, hx⟩ : ∃ x, x = d[k - 1]'(by omega) := ⟨_, rfl⟩
              have hz2 : z = if (if befB x ⟨pr, pw, pt⟩ = true then (0 : Int) else 8) ≠ 0 then (if befB x ⟨pr, pw, pt⟩ = true then (0 : Int) else 8) else otcsF (prevO d (k + 1)) (s + pt) (d.drop (k + 1)) := by
                rw [hzz', prevO_succ hk0 (by omega), otcErr_some hB, ← hx]
              rw [← hx] at q0' q1' q2'
              have q0 := (hb.cell (p := ⟨b, o + (k - 1) * 3, none⟩) hbl).trans q0'
              have q1 := (hb.cell (p := ⟨b, o + (k - 1) * 3 + 1, none⟩) hbl).trans q1'
              have q2 := (hb.cell (p := ⟨b, o + (k - 1) * 3 + 2, none⟩) hbl).trans q2'
              have g1 : decide ((0 : Int) < (k : Int)) = true := decide_eq_true (by omega)
              have g2 : decide (0 < k) = true := decide_eq_true (by omega)
              have s1 : IntKind.i64.wrap ((k : Int) - 1) = (k : Int) - 1 := IntWalk.i64_in _ (by omega)
              have s2 : (0 : Int) ≤ (k : Int) - 1 := by omega
              have s2' : (1 : Int) ≤ (k : Int) := by omega
              have s3 : ((k : Int) - 1).toNat = k - 1 := by omega
              have s4 : (k : Int) - 1 < (d.length : Int) := by omega
              obtain ⟨wa, hwa⟩ : ∃ wa, wa = wr.alloc (.cells #[.int .i64 pr, .bool pw, .int .i64 pt] 119) := ⟨_, rfl⟩
              have hka : Blk wa wr.heap.size 119 #[.int .i64 pr, .bool pw, .int .i64 pt] := by rw [hwa]; exact Blk.new wr _ _
              have hba : Below wr.heap.size wr wa := by rw [hwa]; exact Below.alloc (Below.refl _ _) (Nat.le_refl _) _
              have z0 := (hba.cell (p := ⟨b, o + (k - 1) * 3, none⟩) hbw).trans q0
              have z1 := (hba.cell (p := ⟨b, o + (k - 1) * 3 + 1, none⟩) hbw).trans q1
              have z2 := (hba.cell (p := ⟨b, o + (k - 1) * 3 + 2, none⟩) hbw).trans q2
              have HBA := Lib.hid (HB.out.trans (hba.mono HB.out.size))
              have HWA := Lib.hid hwa
              have HKA := Lib.hid hka
              obtain ⟨g, hg⟩ : ∃ g, g = wr.heap.size := ⟨_, rfl⟩
              have HGG := Lib.hid hg
              cases hbf : befB x ⟨pr, pw, pt⟩
              · have HZZ := Lib.hid (show z = 8 by rw [hz2, hbf]; simp)
                have g3 : decide (0 ≤ ordS x ⟨pr, pw, pt⟩) = true := by rw [befB_neg, hbf]; rfl
                clear hb hzz' hp hz2 hB hk0 hok hx q0 q1 q2 q0' q1' q2' hwa hka hba hg hbf hbl'
                go_wp2
                rw [← HWA.out, ← HGG.out]
                rw [← HGG.out] at HKA
                have x0 : wa.cell? ⟨g, 0, none⟩ = some (.int .i64 pr) := HKA.out.cell 0
                have x1 : wa.cell? ⟨g, 1, none⟩ = some (.bool pw) := HKA.out.cell 1
                have x2 : wa.cell? ⟨g, 2, none⟩ = some (.int .i64 pt) := HKA.out.cell 2
                go_region_held3 (fun w' => (w'.cell? ⟨b, o + (k - 1) * 3, none⟩ = some (.int .i64 x.runs) ∧ w'.cell? ⟨b, o + (k - 1) * 3 + 1, none⟩ = some (.bool x.wick) ∧ w'.cell? ⟨b, o + (k - 1) * 3 + 2, none⟩ = some (.int .i64 x.wt)) ∧ w'.cell? ⟨g, 0, none⟩ = some (.int .i64 pr) ∧ w'.cell? ⟨g, 1, none⟩ = some (.bool pw) ∧ w'.cell? ⟨g, 2, none⟩ = some (.int .i64 pt)) (first | exact ⟨⟨z0, z1, z2⟩, x0, x1, x2⟩ | go_keep) ((go_at_call 120; refine (ch_order x ⟨pr, pw, pt⟩ _).mono ?_; rintro e w3 ⟨rfl, hb3⟩; have hzw := (Below.drew HBA.out).size; have hk3 : Blk w3 g 119 #[.int .i64 pr, .bool pw, .int .i64 pt] := Blk.below (w := wa.drew) HKA.out hb3 HKA.out.lt; have x0 : w3.cell? ⟨g, 0, none⟩ = some (.int .i64 pr) := hk3.cell 0; have x1 : w3.cell? ⟨g, 1, none⟩ = some (.bool pw) := hk3.cell 1; have x2 : w3.cell? ⟨g, 2, none⟩ = some (.int .i64 pt) := hk3.cell 2; have hbwa : b < wa.heap.size := Nat.lt_of_lt_of_le hbl hzw; have z0 := (hb3.cell (p := ⟨b, o + (k - 1) * 3, none⟩) hbwa).trans z0; have z1 := (hb3.cell (p := ⟨b, o + (k - 1) * 3 + 1, none⟩) hbwa).trans z1; have z2 := (hb3.cell (p := ⟨b, o + (k - 1) * 3 + 2, none⟩) hbwa).trans z2; have HB3 := Lib.hid ((Below.drew HBA.out).trans (hb3.mono hzw)); clear hk3 hb3 hzw hbwa))
                all_goals go_wp2
                all_goals go_ret
                all_goals exact ⟨ret_i HZZ.out.symm, HB3.out⟩
              · have HZZ := Lib.hid (show z = otcsF (prevO d (k + 1)) (s + pt) (d.drop (k + 1)) by rw [hz2, hbf]; simp)
                have g3 : decide (0 ≤ ordS x ⟨pr, pw, pt⟩) = false := by rw [befB_neg, hbf]; rfl
                clear hb hzz' hp hz2 hB hk0 hok hx q0 q1 q2 q0' q1' q2' hwa hka hba hg hbf hbl'
                go_wp2
                rw [← HWA.out, ← HGG.out]
                rw [← HGG.out] at HKA
                have x0 : wa.cell? ⟨g, 0, none⟩ = some (.int .i64 pr) := HKA.out.cell 0
                have x1 : wa.cell? ⟨g, 1, none⟩ = some (.bool pw) := HKA.out.cell 1
                have x2 : wa.cell? ⟨g, 2, none⟩ = some (.int .i64 pt) := HKA.out.cell 2
                go_region_held3 (fun w' => (w'.cell? ⟨b, o + (k - 1) * 3, none⟩ = some (.int .i64 x.runs) ∧ w'.cell? ⟨b, o + (k - 1) * 3 + 1, none⟩ = some (.bool x.wick) ∧ w'.cell? ⟨b, o + (k - 1) * 3 + 2, none⟩ = some (.int .i64 x.wt)) ∧ w'.cell? ⟨g, 0, none⟩ = some (.int .i64 pr) ∧ w'.cell? ⟨g, 1, none⟩ = some (.bool pw) ∧ w'.cell? ⟨g, 2, none⟩ = some (.int .i64 pt)) (first | exact ⟨⟨z0, z1, z2⟩, x0, x1, x2⟩ | go_keep) ((go_at_call 120; refine (ch_order x ⟨pr, pw, pt⟩ _).mono ?_; rintro e w3 ⟨rfl, hb3⟩; have hzw := (Below.drew HBA.out).size; have hk3 : Blk w3 g 119 #[.int .i64 pr, .bool pw, .int .i64 pt] := Blk.below (w := wa.drew) HKA.out hb3 HKA.out.lt; have x0 : w3.cell? ⟨g, 0, none⟩ = some (.int .i64 pr) := hk3.cell 0; have x1 : w3.cell? ⟨g, 1, none⟩ = some (.bool pw) := hk3.cell 1; have x2 : w3.cell? ⟨g, 2, none⟩ = some (.int .i64 pt) := hk3.cell 2; have hbwa : b < wa.heap.size := Nat.lt_of_lt_of_le hbl hzw; have z0 := (hb3.cell (p := ⟨b, o + (k - 1) * 3, none⟩) hbwa).trans z0; have z1 := (hb3.cell (p := ⟨b, o + (k - 1) * 3 + 1, none⟩) hbwa).trans z1; have z2 := (hb3.cell (p := ⟨b, o + (k - 1) * 3 + 2, none⟩) hbwa).trans z2; have HB3 := Lib.hid ((Below.drew HBA.out).trans (hb3.mono hzw)); clear hk3 hb3 hzw hbwa))
                all_goals go_wp2
                all_goals go_roundw
                case rel => exact ⟨k + 1, _, by omega, by go_num, rfl, by omega, by omega, HB3.out, HZZ.out⟩
                case measure => simp [intOf]; omega
        · have hzz' := hzz.out
          rw [otcsF_end _ _ (by omega)] at hzz'
          clear hb hzz
          by_cases h16s : s = 16
          · rw [if_pos h16s] at hzz'
            have HZZ := Lib.hid hzz'
            have g1 : (s != 16) = false := by rw [h16s]; rfl
            clear hzz' h16s
            go_wp2
            go_ret
            exact ⟨ret_i HZZ.out.symm, HB.out⟩
          · rw [if_neg h16s] at hzz'
            have HZZ := Lib.hid hzz'
            have g1 : (s != 16) = true := by rw [bne_iff_ne]; exact h16s
            clear hzz' h16s
            go_wp2
            go_ret
            exact ⟨ret_i HZZ.out.symm, HB.out⟩

set_option maxRecDepth 100000 in
set_option maxHeartbeats 2000000 in
theorem ref_CCheck (d : List Otc) (v : Value) (w : World) (h : Sl 3 elOtc w (· < w.heap.size) v d) : Calls Tryz.prog 93 #[v] w fun e w' => e = .returned (.int .i64 (checkD d)) ∧ Below w.heap.size w w' := by
  obtain ⟨z, hz⟩ : ∃ z, z = checkD d := ⟨_, rfl⟩
  rw [← hz]
  unfold checkD at hz
  obtain ⟨A, c, rfl, hc, hc2⟩ := h.shape
  by_cases h0 : d.length = 0
  · rw [if_pos h0] at hz
    have HZ := Lib.hid hz
    clear hz h
    go_enter Tryz.func93, Tryz.ntmps93
    have e0 : ((d.length : Int) == 0) = true := by rw [h0]; rfl
    clear h0
    go_wp2
    go_ret
    exact ⟨ret_i HZ.out.symm, Below.refl _ _⟩
  · rw [if_neg h0] at hz
    have e0 : ((d.length : Int) == 0) = false := by rw [beq_eq_false_iff_ne]; omega
    by_cases h16 : 16 < d.length
    · rw [if_pos h16] at hz
      have HZ := Lib.hid hz
      have h16' : (16 : Int) < (d.length : Int) := by omega
      clear hz h h0
      go_enter Tryz.func93, Tryz.ntmps93
      go_wp2
      go_ret
      exact ⟨ret_i HZ.out.symm, Below.refl _ _⟩
    · rw [if_neg h16] at hz
      have h16' : (d.length : Int) ≤ 16 := by omega
      have HZ := Lib.hid hz
      have H := Lib.hid h
      clear hz h h0 h16
      go_enter Tryz.func93, Tryz.ntmps93
      go_wp2
      go_loopw [3, 14] (fun sv i wr => ∃ (k : Nat) (s : Int), k ≤ d.length ∧ i = .int .i64 k ∧ sv = .int .i64 s ∧ 0 ≤ s ∧ s ≤ 16 * k ∧ Below w.heap.size w wr ∧ Hid (z = otcsF (prevO d k) s (d.drop k)))
        (fun _ i _ => d.length - (intOf i).toNat)
      case atStart => exact ⟨0, 0, Nat.zero_le _, rfl, rfl, by omega, by omega, Below.refl _ _, HZ.out⟩
      case round =>
        obtain ⟨k, s, hk, rfl, rfl, hs0, hs1, hb, hzz⟩ := hrel
        have HB := Lib.hid hb
        by_cases hlt : k < d.length
        · obtain ⟨b, o, rfl, hbl, y0', y1', y2'⟩ := otc_at H.out hlt
          have hzz' := hzz.out
          rw [otcsF_at s hlt] at hzz'
          obtain ⟨⟨pr, pw, pt⟩, hp⟩ : ∃ p, p = d[k] := ⟨_, rfl⟩
          rw [← hp] at y0' y1' y2' hzz'
          have y0 := (hb.cell (p := ⟨b, o + k * 3, none⟩) hbl).trans y0'
          have y1 := (hb.cell (p := ⟨b, o + k * 3 + 1, none⟩) hbl).trans y1'
          have y2 := (hb.cell (p := ⟨b, o + k * 3 + 2, none⟩) hbl).trans y2'
          dsimp only at y0 y1 y2
          clear y0' y1' y2' hzz
          have hbw : b < wr.heap.size := Nat.lt_of_lt_of_le hbl hb.size
          rcases badO_ways ⟨pr, pw, pt⟩ with ⟨hB, hw⟩ | ⟨hB, e1, e2, e3, e4⟩
          · have hz2 : z = 2 := by rw [hzz', otcErr_bad hB]; rfl
            have HZZ := Lib.hid hz2
            clear hb hzz' hp hz2 hB hbw
            rcases hw with e1 | ⟨e1, e2⟩ | ⟨e1, e2, e3⟩ | ⟨e1, e2, e3, e4⟩
            all_goals
              dsimp only at *
              go_wp2
              go_ret
              exact ⟨ret_i HZZ.out.symm, Below.alloc HB.out HB.out.size _⟩
          · have hok := badO_no hB
            have hw1 := hok.w1
            have hw16 := hok.w16
            dsimp only at e1 e2 e3 e4 hw1 hw16
            by_cases hk0 : k = 0
            · have hz2 : z = otcsF (prevO d (k + 1)) (s + pt) (d.drop (k + 1)) := by
                rw [hzz', hk0, prevO_zero, otcErr_none hB]; rfl
              have HZZ := Lib.hid hz2
              have g1 : decide ((0 : Int) < (k : Int)) = false := decide_eq_false (by omega)
              have g2 : decide (0 < k) = false := decide_eq_false (by omega)
              clear hb hzz' hp hz2 hB hk0 hok hbw
              go_wp2
              go_quiet (fail)
              go_wp2
              go_roundw
              case rel => exact ⟨k + 1, _, by omega, by go_num, rfl, by omega, by omega, Below.drewN_ (Below.alloc HB.out HB.out.size _) _, HZZ.out⟩
              case measure => simp [intOf]; omega
            · obtain ⟨b', o', hbo, hbl', q0', q1', q2'⟩ := otc_at H.out (k := k - 1) (by omega)
              simp only [Option.some.injEq, Addr.mk.injEq] at hbo
              obtain ⟨rfl, rfl, _⟩ := hbo
              obtain ⟨x, hx⟩ : ∃ x, x = d[k - 1]'(by omega) := ⟨_, rfl⟩
              have hz2 : z = if (if befB x ⟨pr, pw, pt⟩ = true then (0 : Int) else 8) ≠ 0 then (if befB x ⟨pr, pw, pt⟩ = true then (0 : Int) else 8) else otcsF (prevO d (k + 1)) (s + pt) (d.drop (k + 1)) := by
                rw [hzz', prevO_succ hk0 (by omega), otcErr_some hB, ← hx]
              rw [← hx] at q0' q1' q2'
              have q0 := (hb.cell (p := ⟨b, o + (k - 1) * 3, none⟩) hbl).trans q0'
              have q1 := (hb.cell (p := ⟨b, o + (k - 1) * 3 + 1, none⟩) hbl).trans q1'
              have q2 := (hb.cell (p := ⟨b, o + (k - 1) * 3 + 2, none⟩) hbl).trans q2'
              have g1 : decide ((0 : Int) < (k : Int)) = true := decide_eq_true (by omega)
              have g2 : decide (0 < k) = true := decide_eq_true (by omega)
              have s1 : IntKind.i64.wrap ((k : Int) - 1) = (k : Int) - 1 := IntWalk.i64_in _ (by omega)
              have s2 : (0 : Int) ≤ (k : Int) - 1 := by omega
              have s2' : (1 : Int) ≤ (k : Int) := by omega
              have s3 : ((k : Int) - 1).toNat = k - 1 := by omega
              have s4 : (k : Int) - 1 < (d.length : Int) := by omega
              obtain ⟨wa, hwa⟩ : ∃ wa, wa = wr.alloc (.cells #[.int .i64 pr, .bool pw, .int .i64 pt] 119) := ⟨_, rfl⟩
              have hka : Blk wa wr.heap.size 119 #[.int .i64 pr, .bool pw, .int .i64 pt] := by rw [hwa]; exact Blk.new wr _ _
              have hba : Below wr.heap.size wr wa := by rw [hwa]; exact Below.alloc (Below.refl _ _) (Nat.le_refl _) _
              have z0 := (hba.cell (p := ⟨b, o + (k - 1) * 3, none⟩) hbw).trans q0
              have z1 := (hba.cell (p := ⟨b, o + (k - 1) * 3 + 1, none⟩) hbw).trans q1
              have z2 := (hba.cell (p := ⟨b, o + (k - 1) * 3 + 2, none⟩) hbw).trans q2
              have HBA := Lib.hid (HB.out.trans (hba.mono HB.out.size))
              have HWA := Lib.hid hwa
              have HKA := Lib.hid hka
              obtain ⟨g, hg⟩ : ∃ g, g = wr.heap.size := ⟨_, rfl⟩
              have HGG := Lib.hid hg
              cases hbf : befB x ⟨pr, pw, pt⟩
              · have HZZ := Lib.hid (show z = 8 by rw [hz2, hbf]; simp)
                have g3 : befB x ⟨pr, pw, pt⟩ = false := hbf
                clear hb hzz' hp hz2 hB hk0 hok hx q0 q1 q2 q0' q1' q2' hwa hka hba hg hbf hbl'
                go_wp2
                rw [← HWA.out, ← HGG.out]
                rw [← HGG.out] at HKA
                have x0 : wa.cell? ⟨g, 0, none⟩ = some (.int .i64 pr) := HKA.out.cell 0
                have x1 : wa.cell? ⟨g, 1, none⟩ = some (.bool pw) := HKA.out.cell 1
                have x2 : wa.cell? ⟨g, 2, none⟩ = some (.int .i64 pt) := HKA.out.cell 2
                go_region_held3 (fun w' => (w'.cell? ⟨b, o + (k - 1) * 3, none⟩ = some (.int .i64 x.runs) ∧ w'.cell? ⟨b, o + (k - 1) * 3 + 1, none⟩ = some (.bool x.wick) ∧ w'.cell? ⟨b, o + (k - 1) * 3 + 2, none⟩ = some (.int .i64 x.wt)) ∧ w'.cell? ⟨g, 0, none⟩ = some (.int .i64 pr) ∧ w'.cell? ⟨g, 1, none⟩ = some (.bool pw) ∧ w'.cell? ⟨g, 2, none⟩ = some (.int .i64 pt)) (first | exact ⟨⟨z0, z1, z2⟩, x0, x1, x2⟩ | go_keep) ((go_at_call 129; refine (ref_Before x ⟨pr, pw, pt⟩ _).mono ?_; rintro e w3 ⟨rfl, hb3⟩; have hzw := (Below.drew HBA.out).size; have hk3 : Blk w3 g 119 #[.int .i64 pr, .bool pw, .int .i64 pt] := Blk.below (w := wa.drew) HKA.out hb3 HKA.out.lt; have x0 : w3.cell? ⟨g, 0, none⟩ = some (.int .i64 pr) := hk3.cell 0; have x1 : w3.cell? ⟨g, 1, none⟩ = some (.bool pw) := hk3.cell 1; have x2 : w3.cell? ⟨g, 2, none⟩ = some (.int .i64 pt) := hk3.cell 2; have hbwa : b < wa.heap.size := Nat.lt_of_lt_of_le hbl hzw; have z0 := (hb3.cell (p := ⟨b, o + (k - 1) * 3, none⟩) hbwa).trans z0; have z1 := (hb3.cell (p := ⟨b, o + (k - 1) * 3 + 1, none⟩) hbwa).trans z1; have z2 := (hb3.cell (p := ⟨b, o + (k - 1) * 3 + 2, none⟩) hbwa).trans z2; have HB3 := Lib.hid ((Below.drew HBA.out).trans (hb3.mono hzw)); clear hk3 hb3 hzw hbwa))
                all_goals go_wp2
                all_goals go_ret
                all_goals exact ⟨ret_i HZZ.out.symm, HB3.out⟩
              · have HZZ := Lib.hid (show z = otcsF (prevO d (k + 1)) (s + pt) (d.drop (k + 1)) by rw [hz2, hbf]; simp)
                have g3 : befB x ⟨pr, pw, pt⟩ = true := hbf
                clear hb hzz' hp hz2 hB hk0 hok hx q0 q1 q2 q0' q1' q2' hwa hka hba hg hbf hbl'
                go_wp2
                rw [← HWA.out, ← HGG.out]
                rw [← HGG.out] at HKA
                have x0 : wa.cell? ⟨g, 0, none⟩ = some (.int .i64 pr) := HKA.out.cell 0
                have x1 : wa.cell? ⟨g, 1, none⟩ = some (.bool pw) := HKA.out.cell 1
                have x2 : wa.cell? ⟨g, 2, none⟩ = some (.int .i64 pt) := HKA.out.cell 2
                go_region_held3 (fun w' => (w'.cell? ⟨b, o + (k - 1) * 3, none⟩ = some (.int .i64 x.runs) ∧ w'.cell? ⟨b, o + (k - 1) * 3 + 1, none⟩ = some (.bool x.wick) ∧ w'.cell? ⟨b, o + (k - 1) * 3 + 2, none⟩ = some (.int .i64 x.wt)) ∧ w'.cell? ⟨g, 0, none⟩ = some (.int .i64 pr) ∧ w'.cell? ⟨g, 1, none⟩ = some (.bool pw) ∧ w'.cell? ⟨g, 2, none⟩ = some (.int .i64 pt)) (first | exact ⟨⟨z0, z1, z2⟩, x0, x1, x2⟩ | go_keep) ((go_at_call 129; refine (ref_Before x ⟨pr, pw, pt⟩ _).mono ?_; rintro e w3 ⟨rfl, hb3⟩; have hzw := (Below.drew HBA.out).size; have hk3 : Blk w3 g 119 #[.int .i64 pr, .bool pw, .int .i64 pt] := Blk.below (w := wa.drew) HKA.out hb3 HKA.out.lt; have x0 : w3.cell? ⟨g, 0, none⟩ = some (.int .i64 pr) := hk3.cell 0; have x1 : w3.cell? ⟨g, 1, none⟩ = some (.bool pw) := hk3.cell 1; have x2 : w3.cell? ⟨g, 2, none⟩ = some (.int .i64 pt) := hk3.cell 2; have hbwa : b < wa.heap.size := Nat.lt_of_lt_of_le hbl hzw; have z0 := (hb3.cell (p := ⟨b, o + (k - 1) * 3, none⟩) hbwa).trans z0; have z1 := (hb3.cell (p := ⟨b, o + (k - 1) * 3 + 1, none⟩) hbwa).trans z1; have z2 := (hb3.cell (p := ⟨b, o + (k - 1) * 3 + 2, none⟩) hbwa).trans z2; have HB3 := Lib.hid ((Below.drew HBA.out).trans (hb3.mono hzw)); clear hk3 hb3 hzw hbwa))
                all_goals go_wp2
                all_goals go_roundw
                case rel => exact ⟨k + 1, _, by omega, by go_num, rfl, by omega, by omega, HB3.out, HZZ.out⟩
                case measure => simp [intOf]; omega
        · have hzz' := hzz.out
          rw [otcsF_end _ _ (by omega)] at hzz'
          clear hb hzz
          by_cases h16s : s = 16
          · rw [if_pos h16s] at hzz'
            have HZZ := Lib.hid hzz'
            have g1 : (s != 16) = false := by rw [h16s]; rfl
            clear hzz' h16s
            go_wp2
            go_ret
            exact ⟨ret_i HZZ.out.symm, HB.out⟩
          · rw [if_neg h16s] at hzz'
            have HZZ := Lib.hid hzz'
            have g1 : (s != 16) = true := by rw [bne_iff_ne]; exact h16s
            clear hzz' h16s
            go_wp2
            go_ret
            exact ⟨ret_i HZZ.out.symm, HB.out⟩

end Go.Proofs.YtglkejlimeakbaaGreatDoor

namespace Go.Proofs.YtglkejlimeakbaaGreatDoor
open Go.RowKit

def sprV (s : Spr) (v : Value) : Value := .agg #[.int .i64 s.balls, v]
end Go.Proofs.YtglkejlimeakbaaGreatDoor

namespace Go.Proofs.YtglkejlimeakbaaGreatDoor

end Go.Proofs.YtglkejlimeakbaaGreatDoor

namespace Go.Proofs.YtglkejlimeakbaaGreatDoor
open Go.RowKit

theorem sumI_map_take {α : Type} {f : α → Int} {l : List α} {k : Nat} (h : k < l.length) : sumI ((l.take (k + 1)).map f) = sumI ((l.take k).map f) + f l[k] := by
  rw [List.take_succ_eq_append_getElem h, List.map_append, sumI_app]; simp [sumI_cons, sumI_nil]
end Go.Proofs.YtglkejlimeakbaaGreatDoor

namespace Go.Proofs.YtglkejlimeakbaaGreatDoor
open Go.ChangeShapes Go.WideShapes Go.ChangeAt Go.RowKit

theorem cellsOtc : Tryz.prog.cellsOf 119 = 3 := by kernel_rfl
theorem cellsI' : Tryz.prog.cellsOf 3 = 1 := by kernel_rfl
theorem cellsI6' : Tryz.prog.cellsOf 2 = 1 := by kernel_rfl
theorem cellsB' : Tryz.prog.cellsOf 4 = 1 := by kernel_rfl
section
variable {H : Type} {enc : TypeId × Value → H} {W : World}
/-- A slice that came in, nil or not. -/
theorem sl_raw {α : Type} [Inhabited α] {el : World → (Nat → Prop) → List Value → α → Prop} {size : Nat} {t e : TypeId} {held : Bool}
    (ht : Tryz.prog.underlying t = some (.slice e)) (hc : Tryz.prog.cellsOf e = size) (hz : 0 < size)
    (one : ∀ {fuel : Nat} {cs : List Value} {x : DataW H × List MemPlace}, DataW.trod enc Tryz.prog W 0 (fun _ => true) held fuel e cs = some x → ∃ a, el W (· < W.heap.size) cs a)
    {fuel : Nat} {cs : List Value} {x : DataW H × List MemPlace} (hf : DataW.trod enc Tryz.prog W 0 (fun _ => true) held fuel t cs = some x) :
    ∃ v l, cs = [v] ∧ Sl size el W (· < W.heap.size) v l := by
  rcases Go.Deep.open_slice ht hf with ⟨rfl, rfl⟩ | ⟨a, len, cap, m, n, D, Pl, rfl, _, hl, hm, hmm, rfl, hi⟩
  · exact ⟨_, [], rfl, Sl.nil _ _⟩
  · simp only [if_true] at hmm
    subst hmm
    rw [hc] at hi
    have key : ∀ i, i < m → ∃ (p : α) (cs' : List Value), W.cells? 0 (a.add (i * size)) size = some cs' ∧ el W (· < W.heap.size) cs' p := fun i him => by
      obtain ⟨cs', hc', ht'⟩ := hi i him
      obtain ⟨p, hp⟩ := one ht'
      exact ⟨p, cs', hc', hp⟩
    obtain ⟨f, hfx⟩ : ∃ f : Nat → α, ∀ i, i < m → ∃ cs' : List Value, W.cells? 0 (a.add (i * size)) size = some cs' ∧ el W (· < W.heap.size) cs' (f i) :=
      ⟨fun i => if h : i < m then (key i h).choose else default, fun i h => by
        have := (key i h).choose_spec
        simp only [dif_pos h]
        exact this⟩
    refine ⟨_, (List.range len).map f, rfl, some a, m, by simp, by simpa using hl, hm, fun h0 => ?_⟩
    have h0' : 0 < len := by simpa using h0
    obtain ⟨b, off, spot⟩ := a
    obtain ⟨c0, hc0, _⟩ := hfx 0 (by omega)
    obtain ⟨_, hlen0, hat0⟩ := World.cells?_some hc0
    obtain ⟨u0, hu0⟩ : ∃ u, c0[0]? = some u := by
      rw [List.getElem?_eq_getElem (show 0 < c0.length by omega)]; exact ⟨_, rfl⟩
    have h00 := (hat0 0 (by omega)).trans hu0
    have hspot : spot = none := by simpa [Addr.add] using World.cell?_spot h00
    subst hspot
    have hbl := World.block_lt_of_cell? W _ h00
    refine ⟨b, off, rfl, by simpa [Addr.add] using hbl, fun i y hiy => ?_⟩
    rw [List.getElem?_map] at hiy
    obtain ⟨j, hj, rfl⟩ := Option.map_eq_some_iff.1 hiy
    have hil : i < len := by have := (List.getElem?_eq_some_iff.1 hj).1; simpa using this
    have hji : j = i := by rw [List.getElem?_range hil] at hj; exact (Option.some.inj hj).symm
    subst hji
    obtain ⟨cj, hcj, hel⟩ := hfx j (by omega)
    obtain ⟨_, hlenj, hatj⟩ := World.cells?_some hcj
    refine ⟨cj, hlenj, fun t u htu => ?_, hel⟩
    have htl : t < cj.length := (List.getElem?_eq_some_iff.1 htu).1
    have := hatj t (by omega)
    rw [Go.WideShapes.add_plain, Go.WideShapes.add_plain] at this
    rw [this, htu]
instance : Inhabited Otc := ⟨⟨0, false, 0⟩⟩
set_option maxRecDepth 100000 in
theorem otc_one {F : Nat → Prop} {fuel : Nat} {held : Bool} {cs : List Value} {x : DataW H × List MemPlace} (h : DataW.trod enc Tryz.prog W 0 (fun _ => true) held fuel 119 cs = some x) :
    ∃ f : Otc, elOtc W F cs f := by
  obtain ⟨ys, n, _, rfl, hc, hl, hf⟩ := DataW.trod_struct Tryz.underlying119 h
  rw [cellsOtc] at hc
  match cs, hc with
  | [u0, u1, u2], _ =>
    match ys, hl with
    | [z0, z1, z2], _ =>
      have k0 := hf 0 _ rfl
      have k1 := hf 1 _ rfl
      have k2 := hf 2 _ rfl
      obtain ⟨a0, e0, _, b0⟩ := DataW.trod_int Tryz.underlying3 k0
      obtain ⟨a1, e1, _⟩ := DataW.trod_bool Tryz.underlying4 k1
      obtain ⟨a2, e2, _, b2⟩ := DataW.trod_int Tryz.underlying2 k2
      have g0 : u0 = .int .i64 a0 := by simpa [Value.cells, cellsI', cellsB'] using e0
      have g1 : u1 = .bool a1 := by simpa [Value.cells, cellsI', cellsB'] using e1
      have g2 : u2 = .int .i64 a2 := by simpa [Value.cells, cellsI', cellsI6', cellsB'] using e2
      subst g0 g1 g2
      exact ⟨⟨a0, a1, a2⟩, rfl⟩
end
end Go.Proofs.YtglkejlimeakbaaGreatDoor

namespace Go.Proofs.YtglkejlimeakbaaGreatDoor

/-- The key of an outcome: twice its runs, one more with a wicket. -/
def keyO (o : Otc) : Nat := 2 * o.runs.toNat + (if o.wick = true then 1 else 0)
/-- The weight of a list at a key. -/
def wAt (l : List Otc) (j : Nat) : Int := sumI (l.map fun o => if keyO o = j then o.wt else 0)
def otcOf (j : Nat) (x : Int) : Otc := ⟨((j / 2 : Nat) : Int), decide (j % 2 = 1), x⟩
def canonF (f : Nat → Int) : Nat → Nat → List Otc
  | 0, _ => []
  | m + 1, i => (if 0 < f i then [otcOf i (f i)] else []) ++ canonF f m (i + 1)
/-- The distribution with the weights f at the keys. -/
def canon (f : Nat → Int) : List Otc := canonF f 16 0
def badN (o : Otc) : Bool := decide (o.runs < 0) || decide (7 < o.runs) || decide (o.wt < 0) || decide (16 < o.wt)
def normS (d : List Otc) : List Otc × Int :=
  if 64 < d.length then ([], 9) else if d.any badN = true then ([], 2) else if sumI (d.map (·.wt)) ≠ 16 then ([], 12) else (canon (wAt d), 0)
structure OkN (o : Otc) : Prop where
  r0 : 0 ≤ o.runs
  r7 : o.runs ≤ 7
  w0 : 0 ≤ o.wt
  w16 : o.wt ≤ 16
theorem badN_no {o : Otc} (h : badN o = false) : OkN o := by
  unfold badN at h
  simp only [Bool.or_eq_false_iff, decide_eq_false_iff_not] at h
  exact ⟨by omega, by omega, by omega, by omega⟩
theorem okN_good {o : Otc} (h : OkN o) : badN o = false := by
  have := h.r0; have := h.r7; have := h.w0; have := h.w16
  unfold badN
  simp only [Bool.or_eq_false_iff, decide_eq_false_iff_not]
  omega
theorem OkO.n {o : Otc} (h : OkO o) : OkN o := ⟨h.r0, h.r7, by have := h.w1; omega, h.w16⟩
theorem key_lt {o : Otc} (h : OkN o) : keyO o < 16 := by
  have := h.r0; have := h.r7
  unfold keyO
  split <;> omega
theorem key_runs {o : Otc} (h : 0 ≤ o.runs) : o.runs = ((keyO o / 2 : Nat) : Int) ∧ o.wick = decide (keyO o % 2 = 1) := by
  unfold keyO
  cases hw : o.wick <;> simp <;> omega
theorem otcOf_key {o : Otc} (h : 0 ≤ o.runs) : otcOf (keyO o) o.wt = o := by
  obtain ⟨r, w, x⟩ := o
  have := key_runs (o := ⟨r, w, x⟩) h
  unfold otcOf
  simp only at this
  rw [← this.1, ← this.2]
theorem key_eq {a b : Otc} (ha : 0 ≤ a.runs) (hb : 0 ≤ b.runs) : keyO a = keyO b ↔ a.runs = b.runs ∧ a.wick = b.wick := by
  unfold keyO
  constructor
  · intro h
    cases hw : a.wick <;> cases hv : b.wick <;> rw [hw, hv] at h <;> simp at h <;> refine ⟨?_, ?_⟩ <;> first | rfl | omega | (exfalso; omega)
  · rintro ⟨h1, h2⟩; rw [h1, h2]
theorem ord_key {a b : Otc} (ha : 0 ≤ a.runs) (hb : 0 ≤ b.runs) : (ordS a b < 0 ↔ keyO a < keyO b) ∧ (ordS a b = 0 ↔ keyO a = keyO b) := by
  unfold ordS keyO
  by_cases h : a.runs = b.runs
  · rw [if_neg (by simpa using h), h]
    cases hw : a.wick <;> cases hv : b.wick <;> simp
  · rw [if_pos h]
    by_cases h2 : a.runs < b.runs
    · rw [if_pos h2]
      cases hw : a.wick <;> cases hv : b.wick <;> simp <;> omega
    · rw [if_neg h2]
      cases hw : a.wick <;> cases hv : b.wick <;> simp <;> omega
theorem bef_key {a b : Otc} (ha : 0 ≤ a.runs) (hb : 0 ≤ b.runs) : befB a b = decide (keyO a < keyO b) := by
  unfold befB
  rw [Bool.eq_iff_iff, decide_eq_true_eq, decide_eq_true_eq]
  exact (ord_key ha hb).1
theorem wAt_nil (j : Nat) : wAt [] j = 0 := rfl
theorem wAt_cons (o : Otc) (l : List Otc) (j : Nat) : wAt (o :: l) j = (if keyO o = j then o.wt else 0) + wAt l j := rfl
theorem wAt_app (l m : List Otc) (j : Nat) : wAt (l ++ m) j = wAt l j + wAt m j := by unfold wAt; rw [List.map_append, sumI_app]
theorem wAt_none {l : List Otc} {j : Nat} (h : ∀ o ∈ l, keyO o ≠ j) : wAt l j = 0 := by
  induction l with
  | nil => rfl
  | cons o l ih => rw [wAt_cons, if_neg (h o (by simp)), ih fun x hx => h x (by simp [hx])]; rfl
theorem wAt_nonneg {l : List Otc} (h : ∀ o ∈ l, 0 ≤ o.wt) (j : Nat) : 0 ≤ wAt l j := by
  induction l with
  | nil => exact Int.le_refl _
  | cons o l ih =>
    have h1 := ih fun x hx => h x (by simp [hx])
    have h2 := h o (by simp)
    rw [wAt_cons]; split <;> omega
theorem sumI_perm {l m : List Int} (h : l.Perm m) : sumI l = sumI m := by
  induction h with
  | nil => rfl
  | cons x _ ih => rw [sumI_cons, sumI_cons, ih]
  | swap x y l => simp only [sumI_cons]; omega
  | trans _ _ h1 h2 => rw [h1, h2]
theorem wAt_perm {l m : List Otc} (h : l.Perm m) (j : Nat) : wAt l j = wAt m j := sumI_perm (h.map _)
theorem canonF_congr {f g : Nat → Int} : ∀ m i, (∀ j, i ≤ j → j < i + m → f j = g j) → canonF f m i = canonF g m i
  | 0, _, _ => rfl
  | m + 1, i, h => by
    rw [canonF, canonF, h i (Nat.le_refl _) (by omega), canonF_congr m (i + 1) fun j h1 h2 => h j (by omega) (by omega)]
theorem canon_congr {f g : Nat → Int} (h : ∀ j, j < 16 → f j = g j) : canon f = canon g := canonF_congr 16 0 fun j _ h2 => h j (by omega)
/-- Strictly ascending keys, weights above 0. -/
structure Neat (l : List Otc) : Prop where
  asc : l.Pairwise fun a b => keyO a < keyO b
  each : ∀ o ∈ l, 0 ≤ o.runs ∧ o.runs ≤ 7 ∧ 0 < o.wt
theorem canonF_neat : ∀ (m i : Nat) (l : List Otc), i + m = 16 → Neat l → (∀ o ∈ l, i ≤ keyO o) → canonF (wAt l) m i = l := by
  intro m
  induction m with
  | zero =>
    intro i l him hn hi
    cases l with
    | nil => rfl
    | cons o l =>
      have h1 := hi o (by simp)
      have h2 := hn.each o (by simp)
      have h3 := key_lt (o := o) ⟨h2.1, h2.2.1, by omega, by
        exfalso
        have : keyO o < 16 := by unfold keyO; split <;> omega
        omega⟩
      omega
  | succ m ih =>
    intro i l him hn hi
    cases l with
    | nil =>
      rw [canonF, wAt_nil, if_neg (by omega), List.nil_append]
      exact ih (i + 1) [] (by omega) hn (by simp)
    | cons o l =>
      have ho := hn.each o (by simp)
      have hp := List.pairwise_cons.1 hn.asc
      have hl : Neat l := ⟨hp.2, fun x hx => hn.each x (by simp [hx])⟩
      by_cases hk : keyO o = i
      · have hz : wAt l i = 0 := wAt_none fun x hx => by have := hp.1 x hx; omega
        rw [canonF, wAt_cons, if_pos hk, hz, Int.add_zero, if_pos ho.2.2, ← hk, otcOf_key ho.1, canonF_congr (g := wAt l) m (keyO o + 1) fun j h1 h2 => by rw [wAt_cons, if_neg (by omega), Int.zero_add]]
        rw [ih (keyO o + 1) l (by omega) hl fun x hx => hp.1 x hx]
        rfl
      · have hlt : i < keyO o := by have := hi o (by simp); omega
        have hz : wAt (o :: l) i = 0 := wAt_none fun x hx => by
          rcases List.mem_cons.1 hx with rfl | hx
          · exact hk
          · have := hp.1 x hx; omega
        rw [canonF, hz, if_neg (by omega), List.nil_append]
        exact ih (i + 1) (o :: l) (by omega) hn fun x hx => by
          rcases List.mem_cons.1 hx with rfl | hx
          · omega
          · have := hp.1 x hx; omega
theorem canon_neat {l : List Otc} (h : Neat l) : canon (wAt l) = l := canonF_neat 16 0 l rfl h fun _ _ => Nat.zero_le _
def sumK (f : Nat → Int) : Nat → Nat → Int
  | 0, _ => 0
  | m + 1, i => f i + sumK f m (i + 1)
theorem sumK_congr {f g : Nat → Int} : ∀ m i, (∀ j, i ≤ j → j < i + m → f j = g j) → sumK f m i = sumK g m i
  | 0, _, _ => rfl
  | m + 1, i, h => by rw [sumK, sumK, h i (Nat.le_refl _) (by omega), sumK_congr m (i + 1) fun j h1 h2 => h j (by omega) (by omega)]
theorem sumK_add (f g : Nat → Int) : ∀ m i, sumK (fun j => f j + g j) m i = sumK f m i + sumK g m i
  | 0, _ => rfl
  | m + 1, i => by rw [sumK, sumK, sumK, sumK_add f g m (i + 1)]; omega
theorem sumK_one (k : Nat) (x : Int) : ∀ m i, sumK (fun j => if k = j then x else 0) m i = if i ≤ k ∧ k < i + m then x else 0
  | 0, i => by rw [sumK, if_neg (by omega)]
  | m + 1, i => by
    rw [sumK, sumK_one k x m (i + 1)]
    by_cases h : k = i
    · subst h; rw [if_pos rfl, if_neg (by omega), if_pos (by omega)]; omega
    · rw [if_neg h, Int.zero_add]
      by_cases h2 : i + 1 ≤ k ∧ k < i + 1 + m
      · rw [if_pos h2, if_pos (by omega)]
      · rw [if_neg h2, if_neg (by omega)]
theorem sumK_zero : ∀ m i, sumK (fun _ => 0) m i = 0
  | 0, _ => rfl
  | m + 1, i => by rw [sumK, sumK_zero m (i + 1)]; rfl
/-- The weights at the keys add up to the weights of the list. -/
theorem sumK_wAt : ∀ (l : List Otc), (∀ o ∈ l, 0 ≤ o.runs ∧ o.runs ≤ 7) → sumK (wAt l) 16 0 = sumI (l.map (·.wt))
  | [], _ => sumK_zero 16 0
  | o :: l, h => by
    have ho := h o (by simp)
    have hk : keyO o < 16 := by unfold keyO; split <;> omega
    have e : sumK (wAt (o :: l)) 16 0 = sumK (fun j => (if keyO o = j then o.wt else 0) + wAt l j) 16 0 := sumK_congr _ _ fun j _ _ => wAt_cons o l j
    rw [e, sumK_add, sumK_one, if_pos (by omega), sumK_wAt l fun x hx => h x (by simp [hx]), List.map_cons, sumI_cons]
theorem sumK_pos {f : Nat → Int} : ∀ m i, (∀ j, i ≤ j → j < i + m → 0 ≤ f j) → 0 ≤ sumK f m i ∧ ∀ j, i ≤ j → j < i + m → f j ≤ sumK f m i
  | 0, _, _ => ⟨Int.le_refl _, fun j h1 h2 => by omega⟩
  | m + 1, i, h => by
    have h0 := h i (Nat.le_refl _) (by omega)
    obtain ⟨h1, h2⟩ := sumK_pos m (i + 1) fun j h1 h2 => h j (by omega) (by omega)
    rw [sumK]
    refine ⟨by omega, fun j h3 h4 => ?_⟩
    by_cases hj : j = i
    · subst hj; omega
    · have := h2 j (by omega) (by omega); omega
/-- An accepted distribution is neat. -/
theorem otcsF_asc : ∀ (l : List Otc) (p : Option Otc) (s : Int), otcsF p s l = 0 → (∀ q, p = some q → 0 ≤ q.runs) → (l.Pairwise fun a b => keyO a < keyO b) ∧ ∀ q, p = some q → ∀ o ∈ l, keyO q < keyO o
  | [], p, s, _, _ => ⟨List.Pairwise.nil, fun _ _ o ho => by cases ho⟩
  | o :: l, p, s, h, hp => by
    rw [otcsF] at h
    by_cases he : otcErr p o = 0
    · rw [if_neg (by simpa using he)] at h
      have hb : badO o = false := by
        rcases hbb : badO o with _ | _
        · rfl
        · rw [otcErr_bad hbb] at he; omega
      have ho := badO_no hb
      obtain ⟨h1, h2⟩ := otcsF_asc l (some o) _ h fun q e => by cases e; exact ho.r0
      have h3 := h2 o rfl
      refine ⟨List.pairwise_cons.2 ⟨h3, h1⟩, fun q e x hx => ?_⟩
      subst e
      have hq := hp q rfl
      rw [otcErr_some hb, bef_key hq ho.r0] at he
      have hlt : keyO q < keyO o := by
        by_cases hlt : keyO q < keyO o
        · exact hlt
        · rw [decide_eq_false hlt] at he; simp at he
      rcases List.mem_cons.1 hx with rfl | hx
      · exact hlt
      · exact Nat.lt_trans hlt (h3 x hx)
    · rw [if_pos he] at h
      exact absurd h he
theorem checkD_neat {d : List Otc} (h : checkD d = 0) : Neat d := by
  have ho := checkD_ok h
  unfold checkD at h
  rw [if_neg (by have := ho.len; omega), if_neg (by have := ho.len; omega)] at h
  refine ⟨(otcsF_asc d none 0 h fun q e => by cases e).1, fun o hx => ?_⟩
  have := ho.each o hx
  exact ⟨this.r0, this.r7, by have := this.w1; omega⟩
/-- The program's Norm: the sorted list merged. -/
def mergeF : List Otc → List Otc → List Otc
  | out, [] => out
  | out, o :: l => if o.wt = 0 then mergeF out l else match out.getLast? with
    | none => mergeF (out ++ [o]) l
    | some p => if ordS p o = 0 then mergeF (out.dropLast ++ [{ p with wt := p.wt + o.wt }]) l else mergeF (out ++ [o]) l
theorem wAt_last {out : List Otc} {p : Otc} (h : out.getLast? = some p) (x : Int) (j : Nat) : wAt (out.dropLast ++ [{ p with wt := p.wt + x }]) j = wAt out j + if keyO p = j then x else 0 := by
  have e : out = out.dropLast ++ [p] := by
    have hne : out ≠ [] := fun e => by rw [e] at h; cases h
    rw [List.getLast?_eq_some_getLast hne] at h
    have h' := Option.some.inj h
    conv => lhs; rw [← List.dropLast_concat_getLast hne]
    rw [h']
  conv => rhs; rw [e]
  rw [wAt_app, wAt_app, wAt_cons, wAt_cons, wAt_nil, show keyO { p with wt := p.wt + x } = keyO p from rfl]
  by_cases hk : keyO p = j
  · rw [if_pos hk, if_pos hk, if_pos hk]; simp only; omega
  · rw [if_neg hk, if_neg hk, if_neg hk]; omega
theorem mergeF_neat : ∀ (l out : List Otc), (∀ o ∈ l, OkN o) → (l.Pairwise fun a b => keyO a ≤ keyO b) → Neat out → (∀ a ∈ out, ∀ o ∈ l, keyO a ≤ keyO o) →
    Neat (mergeF out l) ∧ ∀ j, wAt (mergeF out l) j = wAt out j + wAt l j
  | [], out, _, _, hn, _ => ⟨hn, fun j => by rw [mergeF, wAt_nil, Int.add_zero]⟩
  | o :: l, out, ho, hs, hn, hle => by
    have hs' := List.pairwise_cons.1 hs
    have ho1 := ho o (by simp)
    have hol := fun x hx => ho x (List.mem_cons_of_mem o hx)
    have hll := fun a ha x hx => hle a ha x (List.mem_cons_of_mem o hx)
    by_cases h0 : o.wt = 0
    · rw [mergeF, if_pos h0]
      obtain ⟨h1, h2⟩ := mergeF_neat l out hol hs'.2 hn hll
      exact ⟨h1, fun j => by rw [h2, wAt_cons, h0]; simp⟩
    · have hpos : 0 < o.wt := by have := ho1.w0; omega
      have app : (∀ a ∈ out, keyO a < keyO o) → Neat (mergeF (out ++ [o]) l) ∧ ∀ j, wAt (mergeF (out ++ [o]) l) j = wAt out j + wAt (o :: l) j := fun hlt => by
        have hn2 : Neat (out ++ [o]) := ⟨List.pairwise_append.2 ⟨hn.asc, List.pairwise_singleton _ _, fun a ha b hb => by rw [List.mem_singleton.1 hb]; exact hlt a ha⟩, fun x hx => by
          rcases List.mem_append.1 hx with hx | hx
          · exact hn.each x hx
          · rw [List.mem_singleton.1 hx]; exact ⟨ho1.r0, ho1.r7, hpos⟩⟩
        obtain ⟨h1, h2⟩ := mergeF_neat l (out ++ [o]) hol hs'.2 hn2 fun a ha x hx => by
          rcases List.mem_append.1 ha with ha | ha
          · exact hll a ha x hx
          · rw [List.mem_singleton.1 ha]; exact hs'.1 x hx
        exact ⟨h1, fun j => by rw [h2, wAt_app, wAt_cons, wAt_cons, wAt_nil]; omega⟩
      rw [mergeF, if_neg h0]
      cases hg : out.getLast? with
      | none =>
        have : out = [] := List.getLast?_eq_none_iff.1 hg
        subst this
        exact app (by simp)
      | some p =>
        have hne : out ≠ [] := fun e => by rw [e] at hg; cases hg
        have hpe : out.getLast hne = p := by
          rw [List.getLast?_eq_some_getLast hne] at hg; exact Option.some.inj hg
        have hpm : p ∈ out := by rw [← hpe]; exact List.getLast_mem hne
        have hpo := hn.each p hpm
        have e : out = out.dropLast ++ [p] := by
          conv => lhs; rw [← List.dropLast_concat_getLast hne]
          rw [hpe]
        have hpw := hn.asc
        rw [e, List.pairwise_append] at hpw
        by_cases hk : ordS p o = 0
        · have hke := (ord_key hpo.1 ho1.r0).2.1 hk
          have hn2 : Neat (out.dropLast ++ [{ p with wt := p.wt + o.wt }]) := ⟨List.pairwise_append.2 ⟨hpw.1, List.pairwise_singleton _ _, fun a ha b hb => by
            rw [List.mem_singleton.1 hb]; exact hpw.2.2 a ha p (by simp)⟩, fun x hx => by
            rcases List.mem_append.1 hx with hx | hx
            · exact hn.each x (List.dropLast_subset out hx)
            · rw [List.mem_singleton.1 hx]; exact ⟨hpo.1, hpo.2.1, by simp only; omega⟩⟩
          obtain ⟨h1, h2⟩ := mergeF_neat l (out.dropLast ++ [{ p with wt := p.wt + o.wt }]) hol hs'.2 hn2 fun a ha x hx => by
            rcases List.mem_append.1 ha with ha | ha
            · exact hll a (List.dropLast_subset out ha) x hx
            · rw [List.mem_singleton.1 ha]; exact hll p hpm x hx
          simp only [hk, if_true]
          exact ⟨h1, fun j => by rw [h2, wAt_last hg, wAt_cons, hke]; omega⟩
        · simp only [hk, if_false]
          have hne' : keyO p ≠ keyO o := fun h => hk ((ord_key hpo.1 ho1.r0).2.2 h)
          have hplt : keyO p < keyO o := by have := hle p hpm o (by simp); omega
          refine app fun a ha => ?_
          rw [e] at ha
          rcases List.mem_append.1 ha with ha | ha
          · exact Nat.lt_trans (hpw.2.2 a ha p (by simp)) hplt
          · rw [List.mem_singleton.1 ha]; exact hplt
/-- A sorted arrangement of the outcomes, merged, is the distribution of their weights at the keys. -/
theorem merge_norm {d l : List Otc} (hp : l.Perm d) (ho : ∀ o ∈ d, OkN o) (hs : l.Pairwise fun a b => keyO a ≤ keyO b) : mergeF [] l = canon (wAt d) := by
  obtain ⟨h1, h2⟩ := mergeF_neat l [] (fun o hx => ho o (hp.mem_iff.1 hx)) hs ⟨List.Pairwise.nil, fun o hx => by cases hx⟩ fun a ha => by cases ha
  rw [← canon_neat h1]
  exact canon_congr fun j _ => by rw [h2, wAt_nil, Int.zero_add, wAt_perm hp]
end Go.Proofs.YtglkejlimeakbaaGreatDoor

namespace Go.Proofs.YtglkejlimeakbaaGreatDoor

/-- The most runs without a wicket that bear a weight. -/
def topF (f : Nat → Int) : Nat → Nat
  | 0 => 0
  | r + 1 => if f (2 * (r + 1)) = 0 then topF f r else r + 1
def upd (f : Nat → Int) (j : Nat) (x : Int) : Nat → Int := fun k => if k = j then f k + x else f k
def hardF (n : Nat) (f : Nat → Int) : Nat → Int := if topF f 7 = 0 then f else upd (upd f (2 * topF f 7) (-1)) (n % 2) 1
def easyF (f : Nat → Int) : Nat → Int := if 0 < f 1 then upd (upd f 1 (-1)) 2 1 else if 0 < f 0 then upd (upd f 0 (-1)) 2 1 else f
def hardK (f : Nat → Int) : Nat → Nat → Int
  | 0 => f
  | n + 1 => hardF n (hardK f n)
def easyK (f : Nat → Int) : Nat → Nat → Int
  | 0 => f
  | n + 1 => easyF (easyK f n)
def moveW (f : Nat → Int) (n : Int) : Nat → Int := if 0 ≤ n then hardK f n.toNat else easyK f (-n).toNat
def shiftS (d : List Otc) (n : Int) : List Otc × Int :=
  if checkD d ≠ 0 then ([], checkD d) else if n < -12 ∨ 12 < n then ([], 2) else (canon (moveW (wAt d) n), 0)
/-- Weights that make a distribution. -/
structure Fit (f : Nat → Int) : Prop where
  pos : ∀ j, j < 16 → 0 ≤ f j
  sum : sumK f 16 0 = 16
theorem topF_le (f : Nat → Int) : ∀ m, topF f m ≤ m
  | 0 => Nat.le_refl _
  | r + 1 => by
    have := topF_le f r
    rw [topF]; split <;> omega
theorem topF_ne {f : Nat → Int} : ∀ m, topF f m ≠ 0 → f (2 * topF f m) ≠ 0
  | 0, h => absurd rfl h
  | r + 1, h => by
    rw [topF] at h ⊢
    by_cases h0 : f (2 * (r + 1)) = 0
    · rw [if_pos h0] at h ⊢; exact topF_ne r h
    · rw [if_neg h0]; exact h0
theorem topF_over {f : Nat → Int} : ∀ m r, topF f m < r → r ≤ m → f (2 * r) = 0
  | 0, r, h1, h2 => by rw [topF] at h1; omega
  | m + 1, r, h1, h2 => by
    rw [topF] at h1
    by_cases h0 : f (2 * (m + 1)) = 0
    · rw [if_pos h0] at h1
      by_cases hr : r = m + 1
      · rw [hr]; exact h0
      · exact topF_over m r h1 (by omega)
    · rw [if_neg h0] at h1; omega
theorem topF_at {f : Nat → Int} {m r : Nat} (h0 : f (2 * r) ≠ 0) (h1 : ∀ s, r < s → s ≤ m → f (2 * s) = 0) (h2 : r ≤ m) (h3 : 1 ≤ r) : topF f m = r := by
  have hle := topF_le f m
  rcases Nat.lt_trichotomy (topF f m) r with h | h | h
  · exact absurd (topF_over m r h h2) h0
  · exact h
  · exact absurd (h1 _ h hle) (topF_ne m (by omega))
theorem topF_none {f : Nat → Int} {m : Nat} (h : ∀ s, 1 ≤ s → s ≤ m → f (2 * s) = 0) : topF f m = 0 := by
  rcases Nat.eq_zero_or_pos (topF f m) with h0 | h0
  · exact h0
  · exact absurd (h _ h0 (topF_le f m)) (topF_ne m (by omega))
theorem sumK_upd (c f : Nat → Int) (k : Nat) (x : Int) : ∀ m i, sumK (fun j => c j * upd f k x j) m i = sumK (fun j => c j * f j) m i + if i ≤ k ∧ k < i + m then c k * x else 0
  | 0, i => by rw [sumK, sumK, if_neg (by omega)]; rfl
  | m + 1, i => by
    rw [sumK, sumK, sumK_upd c f k x m (i + 1)]
    by_cases h : i = k
    · subst h
      rw [upd, if_pos rfl, if_neg (by omega), if_pos (by omega), Int.mul_add]; omega
    · rw [upd, if_neg h]
      by_cases h2 : i + 1 ≤ k ∧ k < i + 1 + m
      · rw [if_pos h2, if_pos (by omega)]; omega
      · rw [if_neg h2, if_neg (by omega)]; omega
theorem sumK_upd1 (f : Nat → Int) (k : Nat) (x : Int) (hk : k < 16) : sumK (upd f k x) 16 0 = sumK f 16 0 + x := by
  have h := sumK_upd (fun _ => 1) f k x 16 0
  simp only [Int.one_mul] at h
  rw [if_pos (by omega)] at h
  exact h
theorem Fit.upd2 {f : Nat → Int} (h : Fit f) {a b : Nat} (ha : a < 16) (hb : b < 16) (h0 : 0 < f a) : Fit (upd (upd f a (-1)) b 1) := by
  refine ⟨fun j hj => ?_, by rw [sumK_upd1 _ _ _ hb, sumK_upd1 _ _ _ ha, h.sum]; rfl⟩
  have := h.pos j hj
  unfold upd
  by_cases h1 : j = b
  · rw [if_pos h1]
    by_cases h2 : j = a
    · rw [if_pos h2]; omega
    · rw [if_neg h2]; omega
  · rw [if_neg h1]
    by_cases h2 : j = a
    · rw [if_pos h2]; subst h2; omega
    · rw [if_neg h2]; omega
theorem Fit.top {f : Nat → Int} (h : Fit f) (h0 : topF f 7 ≠ 0) : 0 < f (2 * topF f 7) := by
  have h1 := topF_ne 7 h0
  have h2 := h.pos (2 * topF f 7) (by have := topF_le f 7; omega)
  omega
theorem Fit.hard {f : Nat → Int} (h : Fit f) (n : Nat) : Fit (hardF n f) := by
  unfold hardF
  by_cases h0 : topF f 7 = 0
  · rw [if_pos h0]; exact h
  · rw [if_neg h0]; exact h.upd2 (by have := topF_le f 7; omega) (by omega) (h.top h0)
theorem Fit.easy {f : Nat → Int} (h : Fit f) : Fit (easyF f) := by
  unfold easyF
  by_cases h0 : 0 < f 1
  · rw [if_pos h0]; exact h.upd2 (by omega) (by omega) h0
  · rw [if_neg h0]
    by_cases h1 : 0 < f 0
    · rw [if_pos h1]; exact h.upd2 (by omega) (by omega) h1
    · rw [if_neg h1]; exact h
theorem Fit.hardK {f : Nat → Int} (h : Fit f) : ∀ n, Fit (Go.Proofs.YtglkejlimeakbaaGreatDoor.hardK f n)
  | 0 => h
  | n + 1 => (Fit.hardK h n).hard n
theorem Fit.easyK {f : Nat → Int} (h : Fit f) : ∀ n, Fit (Go.Proofs.YtglkejlimeakbaaGreatDoor.easyK f n)
  | 0 => h
  | n + 1 => (Fit.easyK h n).easy
theorem Fit.le {f : Nat → Int} (h : Fit f) {j : Nat} (hj : j < 16) : f j ≤ 16 := by
  have := (sumK_pos 16 0 fun j _ h2 => h.pos j (by omega)).2 j (by omega) (by omega)
  have := h.sum
  omega
theorem fit_of {d : List Otc} (h : checkD d = 0) : Fit (wAt d) := by
  have ho := checkD_ok h
  exact ⟨fun j _ => wAt_nonneg (fun o hx => by have := (ho.each o hx).w1; omega) j, by rw [sumK_wAt d fun o hx => ⟨(ho.each o hx).r0, (ho.each o hx).r7⟩]; exact ho.sum⟩
theorem shift_ok {d : List Otc} {n : Int} (h : checkD d = 0) (h0 : -12 ≤ n) (h1 : n ≤ 12) : shiftS d n = (canon (moveW (wAt d) n), 0) := by
  unfold shiftS
  rw [if_neg (by omega), if_neg (by omega)]
/-- Where nothing can be made harder, nothing changes any more. -/
theorem hardK_stop {f : Nat → Int} {i : Nat} (h : topF (hardK f i) 7 = 0) : ∀ m, hardK f (i + m) = hardK f i
  | 0 => rfl
  | m + 1 => by
    rw [← Nat.add_assoc, hardK, hardK_stop h m, hardF, if_pos h]
theorem easyK_stop {f : Nat → Int} {i : Nat} (h1 : ¬ 0 < easyK f i 1) (h0 : ¬ 0 < easyK f i 0) : ∀ m, easyK f (i + m) = easyK f i
  | 0 => rfl
  | m + 1 => by
    rw [← Nat.add_assoc, easyK, easyK_stop h1 h0 m, easyF, if_neg h1, if_neg h0]
end Go.Proofs.YtglkejlimeakbaaGreatDoor

namespace Go.Proofs.YtglkejlimeakbaaGreatDoor

structure Bat where
  name : List UInt8
  dist : List Otc
structure Bow where
  name : List UInt8
  shift : Int
structure Mdl where
  bats : List Bat
  bows : List Bow
def noMdl : Mdl := ⟨[], []⟩
def batErr (pre : List (List UInt8)) (b : Bat) : Int := if nameS b.name = false then 5 else if b.name ∈ pre then 7 else checkD b.dist
def batsF : List (List UInt8) → List Bat → Int
  | _, [] => 0
  | pre, b :: l => if batErr pre b ≠ 0 then batErr pre b else batsF (pre ++ [b.name]) l
def bowErr (pre : List (List UInt8)) (b : Bow) : Int := if nameS b.name = false then 5 else if b.name ∈ pre then 7 else if b.shift < -12 ∨ 12 < b.shift then 2 else 0
def bowsF : List (List UInt8) → List Bow → Int
  | _, [] => 0
  | pre, b :: l => if bowErr pre b ≠ 0 then bowErr pre b else bowsF (pre ++ [b.name]) l
def checkM (m : Mdl) : Int :=
  if m.bats.length = 0 ∨ m.bows.length = 0 then 6 else if 11 < m.bats.length ∨ 11 < m.bows.length then 9
  else if batsF [] m.bats ≠ 0 then batsF [] m.bats else bowsF [] m.bows
def batI (l : List Bat) (n : List UInt8) : Int := indexS (l.map (·.name)) n
def bowI (l : List Bow) (n : List UInt8) : Int := indexS (l.map (·.name)) n
theorem indexF_before (s : List UInt8) : ∀ (l : List (List UInt8)) (i j : Nat) (hi : i < l.length), l[i] = s → (indexF s l j < ((j + i : Nat) : Int) ↔ s ∈ l.take i)
  | a :: l, i, j, hi, he => by
    rw [indexF]
    by_cases ha : a = s
    · rw [if_pos ha]
      cases i with
      | zero => simp
      | succ i => rw [List.take_succ_cons]; simp [ha]; omega
    · rw [if_neg ha]
      cases i with
      | zero => exact absurd he ha
      | succ i =>
        have := indexF_before s l i (j + 1) (by simpa using hi) (by simpa using he)
        rw [List.take_succ_cons, List.mem_cons]
        rw [show j + (i + 1) = j + 1 + i from by omega, this]
        constructor
        · exact fun h => .inr h
        · rintro (h | h)
          · exact absurd h.symm ha
          · exact h
theorem batI_before {l : List Bat} {k : Nat} (hk : k < l.length) : decide (batI l l[k].name < (k : Int)) = decide (l[k].name ∈ (l.take k).map (·.name)) := by
  rw [Bool.eq_iff_iff, decide_eq_true_eq, decide_eq_true_eq]
  have := indexF_before l[k].name (l.map (·.name)) k 0 (by simpa using hk) (by simp)
  rw [Nat.zero_add, ← List.map_take] at this
  exact this
theorem bowI_before {l : List Bow} {k : Nat} (hk : k < l.length) : decide (bowI l l[k].name < (k : Int)) = decide (l[k].name ∈ (l.take k).map (·.name)) := by
  rw [Bool.eq_iff_iff, decide_eq_true_eq, decide_eq_true_eq]
  have := indexF_before l[k].name (l.map (·.name)) k 0 (by simpa using hk) (by simp)
  rw [Nat.zero_add, ← List.map_take] at this
  exact this
theorem take_map_succ {α β : Type} (g : α → β) {l : List α} {k : Nat} (hk : k < l.length) : (l.take (k + 1)).map g = (l.take k).map g ++ [g l[k]] := by
  rw [List.take_add_one, List.getElem?_eq_getElem hk, List.map_append]; rfl
theorem batsF_at {l : List Bat} {k : Nat} (hk : k < l.length) : batsF ((l.take k).map (·.name)) (l.drop k) =
    if batErr ((l.take k).map (·.name)) l[k] ≠ 0 then batErr ((l.take k).map (·.name)) l[k] else batsF ((l.take (k + 1)).map (·.name)) (l.drop (k + 1)) := by
  rw [List.drop_eq_getElem_cons hk, batsF, take_map_succ (·.name) hk]
theorem bowsF_at {l : List Bow} {k : Nat} (hk : k < l.length) : bowsF ((l.take k).map (·.name)) (l.drop k) =
    if bowErr ((l.take k).map (·.name)) l[k] ≠ 0 then bowErr ((l.take k).map (·.name)) l[k] else bowsF ((l.take (k + 1)).map (·.name)) (l.drop (k + 1)) := by
  rw [List.drop_eq_getElem_cons hk, bowsF, take_map_succ (·.name) hk]
theorem batsF_ok : ∀ (l : List Bat) (pre : List (List UInt8)), batsF pre l = 0 → ∀ b ∈ l, nameS b.name = true ∧ checkD b.dist = 0
  | [], _, _, b, hb => by cases hb
  | a :: l, pre, h, b, hb => by
    rw [batsF] at h
    by_cases he : batErr pre a = 0
    · rw [if_neg (by simpa using he)] at h
      rcases List.mem_cons.1 hb with rfl | hb
      · unfold batErr at he
        by_cases h1 : nameS b.name = false
        · rw [if_pos h1] at he; cases he
        · rw [if_neg h1] at he
          by_cases h2 : b.name ∈ pre
          · rw [if_pos h2] at he; cases he
          · rw [if_neg h2] at he; exact ⟨by simpa using h1, he⟩
      · exact batsF_ok l _ h b hb
    · rw [if_pos he] at h; exact absurd h he
theorem bowsF_ok : ∀ (l : List Bow) (pre : List (List UInt8)), bowsF pre l = 0 → ∀ b ∈ l, nameS b.name = true ∧ -12 ≤ b.shift ∧ b.shift ≤ 12
  | [], _, _, b, hb => by cases hb
  | a :: l, pre, h, b, hb => by
    rw [bowsF] at h
    by_cases he : bowErr pre a = 0
    · rw [if_neg (by simpa using he)] at h
      rcases List.mem_cons.1 hb with rfl | hb
      · unfold bowErr at he
        by_cases h1 : nameS b.name = false
        · rw [if_pos h1] at he; cases he
        · rw [if_neg h1] at he
          by_cases h2 : b.name ∈ pre
          · rw [if_pos h2] at he; cases he
          · rw [if_neg h2] at he
            by_cases h3 : b.shift < -12 ∨ 12 < b.shift
            · rw [if_pos h3] at he; cases he
            · exact ⟨by simpa using h1, by omega, by omega⟩
      · exact bowsF_ok l _ h b hb
    · rw [if_pos he] at h; exact absurd h he
structure OkM (m : Mdl) : Prop where
  nb : 1 ≤ m.bats.length ∧ m.bats.length ≤ 11
  nw : 1 ≤ m.bows.length ∧ m.bows.length ≤ 11
  bat : ∀ b ∈ m.bats, nameS b.name = true ∧ checkD b.dist = 0
  bow : ∀ b ∈ m.bows, nameS b.name = true ∧ -12 ≤ b.shift ∧ b.shift ≤ 12
theorem checkM_ok {m : Mdl} (h : checkM m = 0) : OkM m := by
  unfold checkM at h
  by_cases h1 : m.bats.length = 0 ∨ m.bows.length = 0
  · rw [if_pos h1] at h; cases h
  · rw [if_neg h1] at h
    by_cases h2 : 11 < m.bats.length ∨ 11 < m.bows.length
    · rw [if_pos h2] at h; cases h
    · rw [if_neg h2] at h
      by_cases h3 : batsF [] m.bats ≠ 0
      · rw [if_pos h3] at h; exact absurd h h3
      · rw [if_neg h3] at h
        exact ⟨by omega, by omega, batsF_ok _ [] (by omega), bowsF_ok _ [] h⟩
end Go.Proofs.YtglkejlimeakbaaGreatDoor

namespace Go.Proofs.YtglkejlimeakbaaGreatDoor
open Go.RowKit

def elBat (w : World) (F : Nat → Prop) (cs : List Value) (b : Bat) : Prop := (∃ v, cs = [.string (S b.name), v] ∧ Sl 3 elOtc w F v b.dist) ∧ b.name.length ≤ maxLen
theorem elBat_good : Good elBat := ⟨fun ⟨⟨v, h, hs⟩, hl⟩ hk hG => ⟨⟨v, h, hs.keep elOtc_good hk hG⟩, hl⟩⟩
def elBow (_ : World) (_ : Nat → Prop) (cs : List Value) (b : Bow) : Prop := cs = [.string (S b.name), .int .i64 b.shift] ∧ b.name.length ≤ maxLen
theorem elBow_good : Good elBow := ⟨fun h _ _ => h⟩
theorem bat_at {w : World} {F : Nat → Prop} {A : Option Addr} {n c : Nat} {l : List Bat} (h : Sl 2 elBat w F (.slice A n c) l) {k : Nat} (hk : k < l.length) :
    ∃ b o v, A = some ⟨b, o, none⟩ ∧ F b ∧ w.cell? ⟨b, o + k * 2, none⟩ = some (.string (S l[k].name)) ∧ w.cell? ⟨b, o + k * 2 + 1, none⟩ = some v ∧ Sl 3 elOtc w F v l[k].dist ∧ l[k].name.length ≤ maxLen := by
  obtain ⟨b, o, cs, hA, hF, hl, hc, ⟨v, rfl, hs⟩, hn⟩ := h.at hk
  exact ⟨b, o, v, hA, hF, hc 0 _ rfl, hc 1 _ rfl, hs, hn⟩
theorem bow_at {w : World} {F : Nat → Prop} {A : Option Addr} {n c : Nat} {l : List Bow} (h : Sl 2 elBow w F (.slice A n c) l) {k : Nat} (hk : k < l.length) :
    ∃ b o, A = some ⟨b, o, none⟩ ∧ F b ∧ w.cell? ⟨b, o + k * 2, none⟩ = some (.string (S l[k].name)) ∧ w.cell? ⟨b, o + k * 2 + 1, none⟩ = some (.int .i64 l[k].shift) ∧ l[k].name.length ≤ maxLen := by
  obtain ⟨b, o, cs, hA, hF, hl, hc, rfl, hn⟩ := h.at hk
  exact ⟨b, o, hA, hF, hc 0 _ rfl, hc 1 _ rfl, hn⟩
/-- A model that lies: its two slices. -/
structure MdlAt (w : World) (F : Nat → Prop) (bv wv : Value) (m : Mdl) : Prop where
  bat : Sl 2 elBat w F bv m.bats
  bow : Sl 2 elBow w F wv m.bows
def mdlV (bv wv : Value) : Value := .agg #[bv, wv]
theorem MdlAt.keep {w w' : World} {F G : Nat → Prop} {bv wv : Value} {m : Mdl} (h : MdlAt w F bv wv m) (hs : Same F w w') (hG : ∀ b, F b → G b) : MdlAt w' G bv wv m := ⟨h.bat.keep elBat_good hs hG, h.bow.keep elBow_good hs hG⟩
theorem MdlAt.below {w w' : World} {bv wv : Value} {m : Mdl} (h : MdlAt w (· < w.heap.size) bv wv m) (hb : Below w.heap.size w w') : MdlAt w' (· < w'.heap.size) bv wv m :=
  h.keep (Same.of_below hb) fun b h => Nat.lt_of_lt_of_le h hb.size
end Go.Proofs.YtglkejlimeakbaaGreatDoor

namespace Go.Proofs.YtglkejlimeakbaaGreatDoor
open Go.ChangeShapes Go.WideShapes Go.ChangeAt Go.RowKit

theorem cellsBat : Tryz.prog.cellsOf 82 = 2 := by kernel_rfl
theorem cellsBow : Tryz.prog.cellsOf 85 = 2 := by kernel_rfl
theorem cellsMdl : Tryz.prog.cellsOf 35 = 2 := by kernel_rfl
theorem cellsOtcs : Tryz.prog.cellsOf 73 = 1 := by kernel_rfl
theorem cellsBats : Tryz.prog.cellsOf 32 = 1 := by kernel_rfl
theorem cellsBows : Tryz.prog.cellsOf 33 = 1 := by kernel_rfl
section
variable {H : Type} {enc : TypeId × Value → H} {W : World}
instance : Inhabited Bat := ⟨⟨[], []⟩⟩
instance : Inhabited Bow := ⟨⟨[], 0⟩⟩
set_option maxRecDepth 100000 in
theorem bat_one {fuel : Nat} {held : Bool} {cs : List Value} {x : DataW H × List MemPlace} (h : DataW.trod enc Tryz.prog W 0 (fun _ => true) held fuel 82 cs = some x) :
    ∃ f : Bat, elBat W (· < W.heap.size) cs f := by
  obtain ⟨ys, n, _, rfl, hc, hl, hf⟩ := DataW.trod_struct Tryz.underlying82 h
  rw [cellsBat] at hc
  match cs, hc with
  | [u0, u1], _ =>
    match ys, hl with
    | [z0, z1], _ =>
      have k0 := hf 0 _ rfl
      have k1 := hf 1 _ rfl
      obtain ⟨s, e0, _, hs⟩ := DataW.trod_string Tryz.underlying9 k0
      obtain ⟨v, l, e1, hsl⟩ := sl_raw (size := 3) (el := elOtc) Tryz.underlying73 cellsOtc (by decide) (fun h => otc_one h) k1
      have g0 : u0 = .string s := by simpa [Value.cells, cellsStr, cellsOtcs] using e0
      have g1 : u1 = v := by simpa [Value.cells, cellsStr, cellsOtcs] using e1
      subst g0 g1
      exact ⟨⟨s.data.toList, l⟩, ⟨_, by rw [S_of], hsl⟩, by simpa using hs⟩
set_option maxRecDepth 100000 in
theorem bow_one {F : Nat → Prop} {fuel : Nat} {held : Bool} {cs : List Value} {x : DataW H × List MemPlace} (h : DataW.trod enc Tryz.prog W 0 (fun _ => true) held fuel 85 cs = some x) :
    ∃ f : Bow, elBow W F cs f := by
  obtain ⟨ys, n, _, rfl, hc, hl, hf⟩ := DataW.trod_struct Tryz.underlying85 h
  rw [cellsBow] at hc
  match cs, hc with
  | [u0, u1], _ =>
    match ys, hl with
    | [z0, z1], _ =>
      have k0 := hf 0 _ rfl
      have k1 := hf 1 _ rfl
      obtain ⟨s, e0, _, hs⟩ := DataW.trod_string Tryz.underlying9 k0
      obtain ⟨a1, e1, _, _⟩ := DataW.trod_int Tryz.underlying3 k1
      have g0 : u0 = .string s := by simpa [Value.cells, cellsStr, cellsI'] using e0
      have g1 : u1 = .int .i64 a1 := by simpa [Value.cells, cellsStr, cellsI'] using e1
      subst g0 g1
      exact ⟨⟨s.data.toList, a1⟩, by rw [S_of], by simpa using hs⟩
set_option maxRecDepth 100000 in
/-- A model that came in. -/
theorem open_model {r : Reach} {b0 : Nat} {v : Value} {d : DataW H} {p : List MemPlace} (hv : Value.okWide Tryz.prog W r b0 35 v) (h : DataW.Trod enc Tryz.prog W 0 (fun _ => true) true 35 v d p) :
    ∃ (m : Mdl) (bv wv : Value), v = mdlV bv wv ∧ MdlAt W (· < W.heap.size) bv wv m := by
  obtain ⟨cs, rfl, hsz⟩ := okWide_struct Tryz.underlying35 hv
  obtain ⟨fuel, hf⟩ := h
  obtain ⟨l⟩ := cs
  match l, hsz.trans cellsMdl with
  | [c0, c1], _ =>
    obtain ⟨ys, n, _, _, _, hl, hf⟩ := DataW.trod_struct Tryz.underlying35 hf
    match ys, hl with
    | [z0, z1], _ =>
      have k0 := hf 0 _ rfl
      have k1 := hf 1 _ rfl
      obtain ⟨vb, lb, e0, hb⟩ := sl_raw (size := 2) (el := elBat) Tryz.underlying32 cellsBat (by decide) (fun h => bat_one h) k0
      obtain ⟨vw, lw, e1, hw⟩ := sl_raw (size := 2) (el := elBow) Tryz.underlying33 cellsBow (by decide) (fun h => bow_one h) k1
      have g0 : c0 = vb := by simpa [Value.cells, cellsBats, cellsBows] using e0
      have g1 : c1 = vw := by simpa [Value.cells, cellsBats, cellsBows] using e1
      subst g0 g1
      exact ⟨⟨lb, lw⟩, _, _, rfl, hb, hw⟩
end
end Go.Proofs.YtglkejlimeakbaaGreatDoor

namespace Go.Proofs.YtglkejlimeakbaaGreatDoor
open Go.RowKit

@[reducible] def tBld : TypeId := 133
theorem bld_size : (Tryz.prog.info? 133).map (·.size) = some 2 := by kernel_rfl
theorem bld_lies : liesAt Tryz.prog Tryz.prog.depth 133 (2 / Tryz.prog.cellsOf 133) 0 133 1 = true := by kernel_rfl
theorem info_byte : (Tryz.prog.info? 5).map (fun i => (i.zero, i.size, i.bytes)) = some (some (.int .u8 0), 1, 1) := by kernel_rfl

theorem owns_kind {w : World} {B : Nat} {e : TypeId} {size : Nat} {v : Value} {n : Nat} {xs : List Value} (h : w.ownsRow B e size v n xs) : ∀ g, v.ownBlock = some g → ∃ c fz, w.heap[g]? = some (.cells c e fz) := by
  intro g hg
  rcases h.2 with ⟨rfl, _⟩ | ⟨g', cap, cur, rfl, _, hgg, _⟩
  · simp [Value.ownBlock] at hg
  · simp [Value.ownBlock] at hg
    subst hg
    exact ⟨cur, _, hgg⟩

set_option maxHeartbeats 1000000 in
set_option maxRecDepth 100000 in
theorem copyCheck_used (b : Nat) (w : World) (h0 : w.cell? ⟨b, 0, none⟩ = some (.pointer (some ⟨b, 0, none⟩))) :
    Calls Tryz.prog 131 #[.pointer (some ⟨b, 0, none⟩)] w fun e w' => e = .returned (.tuple #[]) ∧ w' = w := by
  obtain ⟨j, hj, _⟩ := Option.map_eq_some_iff.1 bld_size
  go_enter Tryz.func131, Tryz.ntmps131
  go_wp2
  rw [Lib.run_neq_ptr_same w _ Tryz.underlying130 hj]
  go_wp2
  go_end0
  exact ⟨rfl, rfl⟩

set_option maxHeartbeats 1000000 in
set_option maxRecDepth 100000 in
theorem copyCheck_fresh (b : Nat) (w : World) (h0 : w.cell? ⟨b, 0, none⟩ = some (.pointer none)) (hsh : w.shape? b = some (133, 2)) (hfz : w.frozen? ⟨b, 0, none⟩ = false) :
    Calls Tryz.prog 131 #[.pointer (some ⟨b, 0, none⟩)] w fun e w' => e = .returned (.tuple #[]) ∧ w' = w.setCell ⟨b, 0, none⟩ (.pointer (some ⟨b, 0, none⟩)) := by
  obtain ⟨j, hj, hjs⟩ := Option.map_eq_some_iff.1 bld_size
  go_enter Tryz.func131, Tryz.ntmps131
  go_wp2
  rw [Lib.run_to_unsafe w ⟨b, 0, none⟩ Tryz.underlying130 Tryz.underlying180 hj (by rw [hjs]; decide) hsh (Nat.zero_lt_succ 1)]
  simp only [Result.andThen]
  rw [Oper.upon_value]
  go_wp2
  rw [run_callFunc_extern Tryz.func151 (by kernel_rfl) (by kernel_rfl) (by kernel_rfl) (e := Extern.AbiNoEscape.same) (by kernel_rfl)]
  rw [Lib.run_noEscape]
  simp only [Result.andThen]
  rw [Oper.upon_value]
  go_wp2
  rw [Lib.run_from_unsafe w ⟨b, 0, none⟩ Tryz.underlying180 Tryz.underlying130 hj hsh bld_lies]
  simp only [Result.andThen]
  rw [Oper.upon_value]
  go_wp2
  go_end0
  exact ⟨rfl, rfl⟩

theorem bld_copyCheck (B b : Nat) (bs : List Value) (w : World) (h : Lib.IsBuilder 133 5 B b bs w) :
    Calls Tryz.prog 131 #[.pointer (some ⟨b, 0, none⟩)] w fun e w' => e = .returned (.tuple #[]) ∧ (Lib.BuilderAt 133 5 B b (.pointer (some ⟨b, 0, none⟩)) bs w' ∧ Below B w w' ∧ Lib.OthersKept 5 (some b) w w') := by
  rcases h with h | h
  · refine (copyCheck_fresh b w h.cell0 h.shape h.frozen0).mono ?_
    rintro e w' ⟨rfl, rfl⟩
    exact ⟨rfl, h.used _, (Below.refl B w).setCell (p := ⟨b, 0, none⟩) h.1 _, (Lib.OthersKept.refl _ _ _).setCell ⟨b, 0, none⟩ rfl _⟩
  · refine (copyCheck_used b w h.cell0).mono ?_
    rintro e w' ⟨rfl, rfl⟩
    exact ⟨rfl, h, Below.refl B _, Lib.OthersKept.refl _ _ _⟩

set_option maxHeartbeats 1000000 in
set_option maxRecDepth 100000 in
theorem bld_WriteByte (B b : Nat) (bs : List Value) (c : Int) (w : World) (h : Lib.IsBuilder 133 5 B b bs w) (hlen : bs.length + 1 ≤ 140737488355328) (hBw : B ≤ w.heap.size) :
    Calls Tryz.prog 96 #[.pointer (some ⟨b, 0, none⟩), .int .u8 c] w fun e w' => e = .returned .nilIface ∧ (Lib.BuilderAt 133 5 B b (.pointer (some ⟨b, 0, none⟩)) (bs ++ [.int .u8 c]) w' ∧ Below B w w' ∧ Lib.OthersKept 5 (some b) w w') := by
  obtain ⟨i0, hi, hz0, hz1, hz2⟩ := info_parts info_byte
  go_enter Tryz.func96, Tryz.ntmps96
  go_wp2_with (go_at_call 131; refine (bld_copyCheck B b bs _ h).mono ?_)
  rintro e w1 ⟨rfl, h1, hb1, hk1⟩
  obtain ⟨hB, v, hbk, hown, hne⟩ := h1
  have c0 : w1.cell? ⟨b, 0, none⟩ = some (.pointer (some ⟨b, 0, none⟩)) := by rw [Lib.cell_of_heap hbk]; rfl
  have c1 : w1.cell? ⟨b, 1, none⟩ = some v := by rw [Lib.cell_of_heap hbk]; rfl
  go_wp2_with (at_builtin; refine wpList_append_own _ rfl _ _ 131 rfl B 5 i0 (.int .u8 0) 1 1 Tryz.underlying131 hi hz0 hz1 hz2 rfl (by decide) _ _ _ rfl (hown.alloc _) ⟨w1.heap.size, 0, none⟩ 1 1 [.int .u8 c] rfl rfl ?c1 ?c2 ?c3 ?c4 ?c5 ?_)
  case c1 =>
    intro j u hj
    match j, hj with
    | 0, hj => simp at hj; subst hj; simp [Addr.add]
  case c2 => intro u hu; simp at hu; subst hu; rfl
  case c3 => unfold maxLen; omega
  case c4 => omega
  case c5 => have := hb1.size; simp; omega
  intro v' w2 hown' hgrow _
  have hlt : b < w1.heap.size := by
    rcases Nat.lt_or_ge b w1.heap.size with h' | h'
    · exact h'
    · simp [Array.getElem?_eq_none h'] at hbk
  have hb2 : w2.heap[b]? = some (.cells #[.pointer (some ⟨b, 0, none⟩), v] 133 (0, 0)) := by
    rw [hgrow.block b (by simp; omega) (fun e => hne e.symm), Lib.alloc_old w1 _ b hlt]
    exact hbk
  have d0 : w2.cell? ⟨b, 0, none⟩ = some (.pointer (some ⟨b, 0, none⟩)) := by rw [Lib.cell_of_heap hb2]; rfl
  have d1 : w2.cell? ⟨b, 1, none⟩ = some v := by rw [Lib.cell_of_heap hb2]; rfl
  have f1 : w2.frozen? ⟨b, 1, none⟩ = false := Lib.frozen_of_heap hb2 1
  obtain ⟨g, cap, rfl⟩ : ∃ g cap, v' = .slice (some ⟨g, 0, none⟩) (bs.length + 1) cap := by
    rcases hown'.2 with ⟨_, h0⟩ | ⟨g, cap, cur, hv, _⟩
    · omega
    · exact ⟨g, cap, hv⟩
  go_wp2
  go_ret
  refine ⟨rfl, ?_, ?_, ?_⟩
  · exact Lib.BuilderAt.put (T := 133) (e := 5) hB hb2 (bs' := bs ++ [.int .u8 c]) (by simpa using hown') (by decide)
  · exact ((hb1.alloc (by have := hb1.size; omega) _).grown hgrow (by have := hb1.size; simp; omega) (fun k hk => (hown.lt k hk).1)).setCell (p := ⟨b, 1, none⟩) hB _
  · exact ((hk1.alloc _).grown hgrow fun g hg => owns_kind (hown.alloc _) g hg).setCell ⟨b, 1, none⟩ rfl _

set_option maxHeartbeats 1000000 in
set_option maxRecDepth 100000 in
theorem bld_WriteString (B b : Nat) (bs : List Value) (s : ByteArray) (w : World) (h : Lib.IsBuilder 133 5 B b bs w) (hlen : bs.length + s.size ≤ 140737488355328) (hBw : B ≤ w.heap.size) :
    Calls Tryz.prog 98 #[.pointer (some ⟨b, 0, none⟩), .string s] w fun e w' => e = .returned (.tuple #[.int .i64 s.size, .nilIface]) ∧ (Lib.BuilderAt 133 5 B b (.pointer (some ⟨b, 0, none⟩)) (bs ++ Lib.strCells s) w' ∧ Below B w w' ∧ Lib.OthersKept 5 (some b) w w') := by
  obtain ⟨i0, hi, hz0, hz1, hz2⟩ := info_parts info_byte
  go_enter Tryz.func98, Tryz.ntmps98
  go_wp2_with (go_at_call 131; refine (bld_copyCheck B b bs _ h).mono ?_)
  rintro e w1 ⟨rfl, h1, hb1, hk1⟩
  obtain ⟨hB, v, hbk, hown, hne⟩ := h1
  have c0 : w1.cell? ⟨b, 0, none⟩ = some (.pointer (some ⟨b, 0, none⟩)) := by rw [Lib.cell_of_heap hbk]; rfl
  have c1 : w1.cell? ⟨b, 1, none⟩ = some v := by rw [Lib.cell_of_heap hbk]; rfl
  go_wp2_with (at_builtin; refine Lib.wpList_append_own_string _ rfl _ _ 131 9 rfl B 5 i0 Tryz.underlying131 Tryz.underlying9 hi hz0 hz1 hz2 _ _ _ rfl hown s rfl ?c3 ?c4 ?c5 ?_)
  case c3 => unfold maxLen; omega
  case c4 => omega
  case c5 => have := hb1.size; omega
  intro v' w2 hown' hgrow _
  have hlt : b < w1.heap.size := by
    rcases Nat.lt_or_ge b w1.heap.size with h' | h'
    · exact h'
    · simp [Array.getElem?_eq_none h'] at hbk
  have hb2 : w2.heap[b]? = some (.cells #[.pointer (some ⟨b, 0, none⟩), v] 133 (0, 0)) := by
    rw [hgrow.block b hlt (fun e => hne e.symm)]
    exact hbk
  have d0 : w2.cell? ⟨b, 0, none⟩ = some (.pointer (some ⟨b, 0, none⟩)) := by rw [Lib.cell_of_heap hb2]; rfl
  have d1 : w2.cell? ⟨b, 1, none⟩ = some v := by rw [Lib.cell_of_heap hb2]; rfl
  have f1 : w2.frozen? ⟨b, 1, none⟩ = false := Lib.frozen_of_heap hb2 1
  obtain ⟨ao, n', cap, rfl⟩ : ∃ ao n' cap, v' = .slice ao n' cap := by
    rcases hown'.2 with ⟨hv, _⟩ | ⟨g, cap, cur, hv, _⟩
    · exact ⟨_, _, _, hv⟩
    · exact ⟨_, _, _, hv⟩
  go_wp2
  go_ret2
  refine ⟨rfl, ?_, ?_, ?_⟩
  · exact Lib.BuilderAt.put (T := 133) (e := 5) hB hb2 (bs' := bs ++ Lib.strCells s) (by simpa [Lib.strCells_length] using hown') (by decide)
  · exact (hb1.grown hgrow (by have := hb1.size; omega) (fun k hk => (hown.lt k hk).1)).setCell (p := ⟨b, 1, none⟩) hB _
  · exact (hk1.grown hgrow fun g hg => owns_kind hown g hg).setCell ⟨b, 1, none⟩ rfl _
end Go.Proofs.YtglkejlimeakbaaGreatDoor

namespace Go.Proofs.YtglkejlimeakbaaGreatDoor
open Go.RowKit


theorem data_app (a b : ByteArray) : (a ++ b).data.toList = a.data.toList ++ b.data.toList := by simp
set_option maxRecDepth 100000 in
set_option maxHeartbeats 400000 in
theorem text_Quote (s : ByteArray) (w : World) (hg : Glob w) (hs : s.size ≤ 1000000000) :
    Calls Tryz.prog 99 #[.string s] w fun e w' => e = .returned (.string (S (quoteS s.data.toList))) ∧ Below w.heap.size w w' := by
  have hc : Lib.countB s ⟨#[34]⟩ ≤ s.size := Lib.countB_le ⟨#[34]⟩ (Nat.le_refl 1) _ s (Nat.le_refl _)
  have h2 : (⟨#[34, 34]⟩ : ByteArray).size = 2 := rfl
  have hcr := Tryz.strings_ReplaceAll_shaped s ⟨#[34]⟩ ⟨#[34, 34]⟩ w hg.shaped (by omega) (Nat.le_refl 1) (by rw [h2]; omega)
  rw [show (⟨#[34]⟩ : ByteArray).data.toList = [34] from rfl, show (⟨#[34, 34]⟩ : ByteArray).data.toList = [34, 34] from rfl, replaceAll_subst1 34 [34, 34] _ (by decide)] at hcr
  have hle := subst1_le s.data.toList
  have hsl : s.data.toList.length = s.size := by simp
  obtain ⟨X, hX⟩ : ∃ X : ByteArray, X = ⟨(subst1 34 [34, 34] s.data.toList).toArray⟩ := ⟨_, rfl⟩
  rw [← hX] at hcr
  have hXd : X.data.toList = subst1 34 [34, 34] s.data.toList := by rw [hX]
  have hXl : X.size = X.data.toList.length := by simp
  rw [hXd] at hXl
  have hXs : X.size ≤ 2000000000 := by omega
  clear hXl
  have HX := Lib.hid hXd
  have HCR := Lib.hid hcr
  clear hcr h2 hc hle hsl hX hXd
  have h1 : (⟨#[34]⟩ : ByteArray).size = 1 := rfl
  have a1 := fun W => run_string_add_sum (P := Tryz.prog) W ⟨#[34]⟩ X (by rw [h1]; omega)
  have a2 := fun W => run_string_add_sum (P := Tryz.prog) W (⟨#[34]⟩ ++ X) ⟨#[34]⟩ (by rw [ByteArray.size_append, h1]; omega)
  clear h1
  go_enter Tryz.func99, Tryz.ntmps99
  go_wp2_with (go_at_call 132; refine HCR.out.mono ?_; rintro e w1 ⟨rfl, hb1⟩)
  go_ret
  refine ⟨ret_str ?_, hb1⟩
  rw [data_app, data_app, HX.out]
  rfl

theorem byteCells_app (a b : List UInt8) : Lib.byteCells (a ++ b) = Lib.byteCells a ++ Lib.byteCells b := by simp [Lib.byteCells]
theorem bld_byte (B b : Nat) (cur : List UInt8) (c : UInt8) (n : Int) (hn : n = c.toNat) (w : World) (h : Lib.IsBuilder 133 5 B b (Lib.byteCells cur) w) (hlen : cur.length ≤ 1000000000) (hBw : B ≤ w.heap.size) :
    Calls Tryz.prog 96 #[.pointer (some ⟨b, 0, none⟩), .int .u8 n] w fun e w' => e = .returned .nilIface ∧ Lib.IsBuilder 133 5 B b (Lib.byteCells (cur ++ [c])) w' ∧ Below B w w' ∧ Lib.OthersKept 5 (some b) w w' := by
  subst hn
  refine (bld_WriteByte B b (Lib.byteCells cur) c.toNat w h (by rw [Lib.byteCells_length]; omega) hBw).mono ?_
  rintro e w' ⟨he, h1, h2, h3⟩
  exact ⟨he, .inr (by rw [byteCells_app]; exact h1), h2, h3⟩
theorem bld_str (B b : Nat) (cur : List UInt8) (s : ByteArray) (w : World) (h : Lib.IsBuilder 133 5 B b (Lib.byteCells cur) w) (hlen : cur.length ≤ 1000000000) (hs : s.size ≤ 10000000000) (hBw : B ≤ w.heap.size) :
    Calls Tryz.prog 98 #[.pointer (some ⟨b, 0, none⟩), .string s] w fun e w' => e = .returned (.tuple #[.int .i64 s.size, .nilIface]) ∧ Lib.IsBuilder 133 5 B b (Lib.byteCells (cur ++ s.data.toList)) w' ∧ Below B w w' ∧ Lib.OthersKept 5 (some b) w w' := by
  refine (bld_WriteString B b (Lib.byteCells cur) s w h (by rw [Lib.byteCells_length]; omega) hBw).mono ?_
  rintro e w' ⟨he, h1, h2, h3⟩
  exact ⟨he, .inr (by rw [byteCells_app]; exact h1), h2, h3⟩
/-- A block of the call's own, behind writes into the builder. -/
theorem kept_cell {e : TypeId} {b g : Nat} {w w' : World} {cs : Array Value} {t : TypeId} (h : Lib.OthersKept e (some b) w w') (hg : Blk w g t cs) (hne : g ≠ b) (ht : t ≠ e) : Blk w' g t cs :=
  h g _ hg (by intro e; injection e with e; exact hne e) (by intro c fz hc; injection hc with _ h2; exact ht h2)
theorem lineW_drop {fs : List Fld} {m : Nat} (h : m < fs.length) (b : Bool) : lineW (fs.drop m) b = (if b then [] else [32]) ++ fieldW fs[m] ++ lineW (fs.drop (m + 1)) false := by
  rw [List.drop_eq_getElem_cons h, lineW]
/-- One field more. -/
theorem write_step {cur rest q : List UInt8} {fs : List Fld} {m : Nat} (h : m < fs.length) (hq : cur ++ (lineW (fs.drop m) (decide (m = 0)) ++ rest) = q) :
    (cur ++ (if m = 0 then [] else [32]) ++ fieldW fs[m]) ++ (lineW (fs.drop (m + 1)) (decide (m + 1 = 0)) ++ rest) = q := by
  rw [lineW_drop h] at hq
  rw [← hq]
  have : decide (m + 1 = 0) = false := by simp
  rw [this]
  by_cases h0 : m = 0 <;> simp [h0]
theorem write_len {cur rest q : List UInt8} {fs : List Fld} {m : Nat} (h : m < fs.length) (hq : cur ++ (lineW (fs.drop m) (decide (m = 0)) ++ rest) = q) :
    cur.length ≤ q.length ∧ (cur ++ (if m = 0 then [] else [32])).length ≤ q.length ∧ fs[m].text.length ≤ q.length := by
  have h1 := write_step h hq
  have h2 := fieldW_len fs[m]
  have h3 := congrArg List.length h1
  simp only [List.length_append] at h3 ⊢
  omega

/-- The state inside the loop over a line's fields: the builder in block B, the copies of the line and of the field in their blocks. -/
structure WrSt (B : Nat) (w : World) (go gi : Nat) (oc ic : Array Value) (cu : List UInt8) (W : World) : Prop where
  bld : Lib.IsBuilder 133 5 B B (Lib.byteCells cu) W
  bel : Below B w W
  bo : Blk W go 56 oc
  bi : Blk W gi 87 ic
  no : go ≠ B
  ni : gi ≠ B
section
variable {B : Nat} {w : World} {go gi : Nat} {oc ic : Array Value} {cu cu' : List UInt8} {W W' : World}
theorem WrSt.below (h : WrSt B w go gi oc ic cu W) (hB : B ≤ W.heap.size) (hb : Below W.heap.size W W') : WrSt B w go gi oc ic cu W' :=
  ⟨builder_keep h.bld hb, h.bel.trans (hb.mono hB), h.bo.below hb h.bo.lt, h.bi.below hb h.bi.lt, h.no, h.ni⟩
theorem WrSt.write (h : WrSt B w go gi oc ic cu W) (h1 : Lib.IsBuilder 133 5 B B (Lib.byteCells cu') W') (h2 : Below B W W') (h3 : Lib.OthersKept 5 (some B) W W') : WrSt B w go gi oc ic cu' W' :=
  ⟨h1, h.bel.trans h2, kept_cell h3 h.bo h.no (by decide), kept_cell h3 h.bi h.ni (by decide), h.no, h.ni⟩
end

set_option maxRecDepth 100000 in
set_option maxHeartbeats 4000000 in
theorem text_Write (v : Value) (ls : List Lin) (w : World) (hg : Glob w) (hl : Sl 2 elLin w (· < w.heap.size) v ls) (hs : (writeS ls).length ≤ 1000000000) :
    Calls Tryz.prog 46 #[v] w fun e w' => e = .returned (.string (S (writeS ls))) ∧ Below w.heap.size w w' := by
  obtain ⟨A, c, rfl, hc1, hc2⟩ := hl.shape
  have HL := Lib.hid hl
  have HG := Lib.hid hg
  clear hl hg
  obtain ⟨q, hq⟩ : ∃ q, q = writeS ls := ⟨_, rfl⟩
  rw [← hq] at hs ⊢
  have HQ := Lib.hid hq
  clear hq
  go_enter Tryz.func46, Tryz.ntmps46
  go_wp2
  go_loopw [10] (fun i wr => ∃ (k : Nat) (cur : List UInt8), k ≤ ls.length ∧ i = .int .i64 k ∧ Lib.IsBuilder 133 5 w.heap.size w.heap.size (Lib.byteCells cur) wr ∧ Below w.heap.size w wr ∧ w.heap.size < wr.heap.size ∧ Hid (cur ++ writeS (ls.drop k) = q))
    (fun i _ => ls.length - (intOf i).toNat)
  case atStart => exact ⟨0, [], Nat.zero_le _, rfl, Lib.fresh_isBuilder _ _ w, (Below.refl _ _).alloc (Nat.le_refl _) _, by simp, HQ.out.symm⟩
  case round =>
    obtain ⟨k, cur, hk, rfl, hbld, hbel, hsz, hqk⟩ := hrel
    obtain ⟨wo, rfl⟩ : ∃ wo : World, wo = wr := ⟨_, rfl⟩
    by_cases hlt : k < ls.length
    · obtain ⟨b, o, cs, rfl, hF, hcl, hcc, hel⟩ := HL.out.at hlt
      have hqk' := hqk.out
      rw [drop_get hlt, writeS] at hqk'
      obtain ⟨⟨xn, fs⟩, hx⟩ : ∃ x, x = ls[k] := ⟨_, rfl⟩
      rw [← hx] at hel hqk'
      clear hx hqk
      obtain ⟨fv, rfl, hfl⟩ := hel
      dsimp only at hfl hcc hqk'
      obtain ⟨A2, c2, rfl, hf1, hf2⟩ := hfl.shape
      have HFL := Lib.hid hfl
      have x0 : wo.cell? ⟨b, o + k * 2, none⟩ = some (.int .i64 xn) := (hbel.cell (p := ⟨b, o + k * 2, none⟩) hF).trans (hcc 0 _ rfl)
      have x1 : wo.cell? ⟨b, o + k * 2 + 1, none⟩ = some (.slice A2 fs.length c2) := (hbel.cell (p := ⟨b, o + k * 2 + 1, none⟩) hF).trans (hcc 1 _ rfl)
      rw [List.append_assoc] at hqk'
      have HQK := Lib.hid hqk'
      clear hfl hcc hqk'
      go_wp2
      have hbld0 := builder_keep hbld ((Below.refl wo.heap.size wo).alloc (Nat.le_refl _) (.cells #[.int .i64 xn, .slice A2 fs.length c2] 56))
      have hbel0 := hbel.alloc (B := w.heap.size) (by omega) (.cells #[.int .i64 xn, .slice A2 fs.length c2] 56)
      have hblk := Blk.new wo 56 #[.int .i64 xn, .slice A2 fs.length c2]
      have hsz0 : wo.heap.size < (wo.alloc (.cells #[.int .i64 xn, .slice A2 fs.length c2] 56)).heap.size := by simp
      have HB0 := Lib.hid hbld0
      have HB1 := Lib.hid hbel0
      have HB2 := Lib.hid hblk
      have HB3 := Lib.hid hsz0
      clear hbld0 hbel0 hblk hsz0 x0 x1
      go_loopw [17] (fun j wr => ∃ (m : Nat) (cu : List UInt8), m ≤ fs.length ∧ j = .int .i64 m ∧ Lib.IsBuilder 133 5 w.heap.size w.heap.size (Lib.byteCells cu) wr ∧ Below w.heap.size w wr ∧ wo.heap.size < wr.heap.size ∧ Hid (Blk wr wo.heap.size 56 #[.int .i64 xn, .slice A2 fs.length c2]) ∧ Hid (cu ++ (lineW (fs.drop m) (decide (m = 0)) ++ (endW fs ++ writeS (ls.drop (k + 1)))) = q))
        (fun j _ => fs.length - (intOf j).toNat)
      case atStart => exact ⟨0, cur, Nat.zero_le _, rfl, HB0.out, HB1.out, HB3.out, HB2.out, HQK.out⟩
      case round =>
        obtain ⟨m, cu, hm, rfl, hbx, hbex, hsx, hblx, hqx⟩ := hrel
        by_cases hmt : m < fs.length
        · obtain ⟨b2, o2, cs2, rfl, hF2, hcl2, hcc2, hel2⟩ := HFL.out.at hmt
          have hstep := Lib.hid (write_step hmt hqx.out)
          obtain ⟨hln1, hln2, hln3⟩ := write_len hmt hqx.out
          obtain ⟨⟨ft, fc, fq⟩, hf⟩ : ∃ f, f = fs[m] := ⟨_, rfl⟩
          rw [← hf] at hel2 hstep hln3
          clear hf hqx
          have hel2' : cs2 = [.string (S ft), .int .i64 fc, .bool fq] := hel2
          subst hel2'
          dsimp only at hln3
          have y0 : wr.cell? ⟨b2, o2 + m * 3, none⟩ = some (.string (S ft)) := (hbex.cell (p := ⟨b2, o2 + m * 3, none⟩) hF2).trans (hcc2 0 _ rfl)
          have y1 : wr.cell? ⟨b2, o2 + m * 3 + 1, none⟩ = some (.int .i64 fc) := (hbex.cell (p := ⟨b2, o2 + m * 3 + 1, none⟩) hF2).trans (hcc2 1 _ rfl)
          have y2 : wr.cell? ⟨b2, o2 + m * 3 + 2, none⟩ = some (.bool fq) := (hbex.cell (p := ⟨b2, o2 + m * 3 + 2, none⟩) hF2).trans (hcc2 2 _ rfl)
          clear hcc2 hel2 hcl2
          have hst0 : WrSt w.heap.size w wo.heap.size wr.heap.size #[.int .i64 xn, .slice (some ⟨b2, o2, none⟩) fs.length c2] #[.string (S ft), .int .i64 fc, .bool fq] cu (wr.alloc (.cells #[.string (S ft), .int .i64 fc, .bool fq] 87)) :=
            ⟨builder_keep hbx ((Below.refl wr.heap.size wr).alloc (Nat.le_refl _) _), hbex.alloc (by omega) _, hblx.out.alloc _, Blk.new wr _ _, by omega, by omega⟩
          have ST0 := Lib.hid hst0
          have hz0 : (wr.alloc (.cells #[.string (S ft), .int .i64 fc, .bool fq] 87)).heap.size = wr.heap.size + 1 := by simp
          have HZ0 := Lib.hid hz0
          clear hst0 hz0
          by_cases hm0 : m = 0
          · have Hm := Lib.hid hm0
            have tm : ¬ (0 : Int) < (m : Int) := by omega
            clear hm0
            cases fq
            · cases hw : wordS ft
              · have Hw := Lib.hid hw
                go_wp2_with (first | (go_at_call 97; refine (text_word (S ft) _ (by simp only [S_size]; unfold maxLen; omega)).mono ?_; rintro e w4 ⟨rfl, hb4⟩; have st4 := Lib.hid ((ST0.out).below (by have := HZ0.out; omega) hb4); have z40 := st4.out.bi.cell 0; have hs4 := hb4.size; have hs4q := HZ0.out; clear hb4; simp only [List.getElem?_toArray, List.getElem?_cons_zero, List.getElem?_cons_succ] at z40) | (go_at_call 99; refine (text_Quote (S ft) _ (HG.out.below (st4.out).bel) (by simp only [S_size]; omega)).mono ?_; rintro e w5 ⟨rfl, hb5⟩; have st5 := Lib.hid ((st4.out).below (by omega) hb5); have hs5 := hb5.size; clear hb5) | (go_at_call 98; refine (bld_str w.heap.size w.heap.size cu (S (quoteS (S ft).data.toList)) _ (st5.out).bld (by first | omega | (simp only [List.length_append, List.length_cons, List.length_nil] at *; omega)) (by simp only [S_size, S_data]; have := quoteS_le ft; omega) (by omega)).mono ?_; rintro e w6 ⟨rfl, hb6, hbe6, hk6⟩))
                have st6 := (st5.out).write hb6 hbe6 hk6
                have hs6 := hbe6.size
                go_roundw
                case rel => exact ⟨m + 1, _, by omega, by go_num, st6.bld, st6.bel, by have := st6.bo.lt; omega, st6.bo, by unfold Hid; have hq := hstep.out; simp only [fieldW, Hw.out, Bool.false_or, Bool.not_false, if_true] at hq; rw [if_pos Hm.out, List.append_nil] at hq; simpa using hq⟩
                case measure => simp [intOf]; omega
              · have Hw := Lib.hid hw
                go_wp2_with (first | (go_at_call 97; refine (text_word (S ft) _ (by simp only [S_size]; unfold maxLen; omega)).mono ?_; rintro e w4 ⟨rfl, hb4⟩; have st4 := Lib.hid ((ST0.out).below (by have := HZ0.out; omega) hb4); have z40 := st4.out.bi.cell 0; have hs4 := hb4.size; have hs4q := HZ0.out; clear hb4; simp only [List.getElem?_toArray, List.getElem?_cons_zero, List.getElem?_cons_succ] at z40) | (go_at_call 98; refine (bld_str w.heap.size w.heap.size cu (S ft) _ (st4.out).bld (by first | omega | (simp only [List.length_append, List.length_cons, List.length_nil] at *; omega)) (by simp only [S_size]; omega) (by omega)).mono ?_; rintro e w6 ⟨rfl, hb6, hbe6, hk6⟩))
                have st6 := (st4.out).write hb6 hbe6 hk6
                have hs6 := hbe6.size
                go_roundw
                case rel => exact ⟨m + 1, _, by omega, by go_num, st6.bld, st6.bel, by have := st6.bo.lt; omega, st6.bo, by unfold Hid; have hq := hstep.out; simp only [fieldW, Hw.out, Bool.false_or, Bool.not_true, Bool.false_eq_true, if_false] at hq; rw [if_pos Hm.out, List.append_nil] at hq; simpa using hq⟩
                case measure => simp [intOf]; omega
            · skip
              go_wp2_with (first | (go_at_call 99; refine (text_Quote (S ft) _ (HG.out.below (ST0.out).bel) (by simp only [S_size]; omega)).mono ?_; rintro e w5 ⟨rfl, hb5⟩; have st5 := Lib.hid ((ST0.out).below (by have := HZ0.out; omega) hb5); have hs5 := hb5.size; have hs5q := HZ0.out; clear hb5) | (go_at_call 98; refine (bld_str w.heap.size w.heap.size cu (S (quoteS (S ft).data.toList)) _ (st5.out).bld (by first | omega | (simp only [List.length_append, List.length_cons, List.length_nil] at *; omega)) (by simp only [S_size, S_data]; have := quoteS_le ft; omega) (by omega)).mono ?_; rintro e w6 ⟨rfl, hb6, hbe6, hk6⟩))
              have st6 := (st5.out).write hb6 hbe6 hk6
              have hs6 := hbe6.size
              go_roundw
              case rel => exact ⟨m + 1, _, by omega, by go_num, st6.bld, st6.bel, by have := st6.bo.lt; omega, st6.bo, by unfold Hid; have hq := hstep.out; simp only [fieldW, Bool.true_or, if_true] at hq; rw [if_pos Hm.out, List.append_nil] at hq; simpa using hq⟩
              case measure => simp [intOf]; omega
          · have Hm := Lib.hid hm0
            have tm : (0 : Int) < (m : Int) := by omega
            rw [if_neg hm0] at hln2
            simp only [List.length_append, List.length_cons, List.length_nil] at hln2
            clear hm0
            cases fq
            · cases hw : wordS ft
              · have Hw := Lib.hid hw
                go_wp2_with (first | (go_at_call 96; refine (bld_byte w.heap.size w.heap.size cu 32 _ rfl _ ST0.out.bld (by omega) (by have := HZ0.out; omega)).mono ?_; rintro e w3 ⟨rfl, hb3, hbe3, hk3⟩; have st3 := Lib.hid (ST0.out.write hb3 hbe3 hk3); have z30 := st3.out.bi.cell 0; have z32 := st3.out.bi.cell 2; have hs3 := hbe3.size; have hs3' := HZ0.out; clear hb3 hbe3 hk3; simp only [List.getElem?_toArray, List.getElem?_cons_zero, List.getElem?_cons_succ] at z30 z32) | (go_at_call 97; refine (text_word (S ft) _ (by simp only [S_size]; unfold maxLen; omega)).mono ?_; rintro e w4 ⟨rfl, hb4⟩; have st4 := Lib.hid ((st3.out).below (by omega) hb4); have z40 := st4.out.bi.cell 0; have hs4 := hb4.size; clear hb4; simp only [List.getElem?_toArray, List.getElem?_cons_zero, List.getElem?_cons_succ] at z40) | (go_at_call 99; refine (text_Quote (S ft) _ (HG.out.below (st4.out).bel) (by simp only [S_size]; omega)).mono ?_; rintro e w5 ⟨rfl, hb5⟩; have st5 := Lib.hid ((st4.out).below (by omega) hb5); have hs5 := hb5.size; clear hb5) | (go_at_call 98; refine (bld_str w.heap.size w.heap.size (cu ++ [32]) (S (quoteS (S ft).data.toList)) _ (st5.out).bld (by first | omega | (simp only [List.length_append, List.length_cons, List.length_nil] at *; omega)) (by simp only [S_size, S_data]; have := quoteS_le ft; omega) (by omega)).mono ?_; rintro e w6 ⟨rfl, hb6, hbe6, hk6⟩))
                have st6 := (st5.out).write hb6 hbe6 hk6
                have hs6 := hbe6.size
                go_roundw
                case rel => exact ⟨m + 1, _, by omega, by go_num, st6.bld, st6.bel, by have := st6.bo.lt; omega, st6.bo, by unfold Hid; have hq := hstep.out; simp only [fieldW, Hw.out, Bool.false_or, Bool.not_false, if_true] at hq; rw [if_neg Hm.out] at hq; simpa using hq⟩
                case measure => simp [intOf]; omega
              · have Hw := Lib.hid hw
                go_wp2_with (first | (go_at_call 96; refine (bld_byte w.heap.size w.heap.size cu 32 _ rfl _ ST0.out.bld (by omega) (by have := HZ0.out; omega)).mono ?_; rintro e w3 ⟨rfl, hb3, hbe3, hk3⟩; have st3 := Lib.hid (ST0.out.write hb3 hbe3 hk3); have z30 := st3.out.bi.cell 0; have z32 := st3.out.bi.cell 2; have hs3 := hbe3.size; have hs3' := HZ0.out; clear hb3 hbe3 hk3; simp only [List.getElem?_toArray, List.getElem?_cons_zero, List.getElem?_cons_succ] at z30 z32) | (go_at_call 97; refine (text_word (S ft) _ (by simp only [S_size]; unfold maxLen; omega)).mono ?_; rintro e w4 ⟨rfl, hb4⟩; have st4 := Lib.hid ((st3.out).below (by omega) hb4); have z40 := st4.out.bi.cell 0; have hs4 := hb4.size; clear hb4; simp only [List.getElem?_toArray, List.getElem?_cons_zero, List.getElem?_cons_succ] at z40) | (go_at_call 98; refine (bld_str w.heap.size w.heap.size (cu ++ [32]) (S ft) _ (st4.out).bld (by first | omega | (simp only [List.length_append, List.length_cons, List.length_nil] at *; omega)) (by simp only [S_size]; omega) (by omega)).mono ?_; rintro e w6 ⟨rfl, hb6, hbe6, hk6⟩))
                have st6 := (st4.out).write hb6 hbe6 hk6
                have hs6 := hbe6.size
                go_roundw
                case rel => exact ⟨m + 1, _, by omega, by go_num, st6.bld, st6.bel, by have := st6.bo.lt; omega, st6.bo, by unfold Hid; have hq := hstep.out; simp only [fieldW, Hw.out, Bool.false_or, Bool.not_true, Bool.false_eq_true, if_false] at hq; rw [if_neg Hm.out] at hq; simpa using hq⟩
                case measure => simp [intOf]; omega
            · skip
              go_wp2_with (first | (go_at_call 96; refine (bld_byte w.heap.size w.heap.size cu 32 _ rfl _ ST0.out.bld (by omega) (by have := HZ0.out; omega)).mono ?_; rintro e w3 ⟨rfl, hb3, hbe3, hk3⟩; have st3 := Lib.hid (ST0.out.write hb3 hbe3 hk3); have z30 := st3.out.bi.cell 0; have z32 := st3.out.bi.cell 2; have hs3 := hbe3.size; have hs3' := HZ0.out; clear hb3 hbe3 hk3; simp only [List.getElem?_toArray, List.getElem?_cons_zero, List.getElem?_cons_succ] at z30 z32) | (go_at_call 99; refine (text_Quote (S ft) _ (HG.out.below (st3.out).bel) (by simp only [S_size]; omega)).mono ?_; rintro e w5 ⟨rfl, hb5⟩; have st5 := Lib.hid ((st3.out).below (by omega) hb5); have hs5 := hb5.size; clear hb5) | (go_at_call 98; refine (bld_str w.heap.size w.heap.size (cu ++ [32]) (S (quoteS (S ft).data.toList)) _ (st5.out).bld (by first | omega | (simp only [List.length_append, List.length_cons, List.length_nil] at *; omega)) (by simp only [S_size, S_data]; have := quoteS_le ft; omega) (by omega)).mono ?_; rintro e w6 ⟨rfl, hb6, hbe6, hk6⟩))
              have st6 := (st5.out).write hb6 hbe6 hk6
              have hs6 := hbe6.size
              go_roundw
              case rel => exact ⟨m + 1, _, by omega, by go_num, st6.bld, st6.bel, by have := st6.bo.lt; omega, st6.bo, by unfold Hid; have hq := hstep.out; simp only [fieldW, Bool.true_or, if_true] at hq; rw [if_neg Hm.out] at hq; simpa using hq⟩
              case measure => simp [intOf]; omega
        · have hz1 := hblx.out.cell 1
          simp only [List.getElem?_toArray, List.getElem?_cons_zero, List.getElem?_cons_succ] at hz1
          have hqe : cu ++ (endW fs ++ writeS (ls.drop (k + 1))) = q := by
            have := hqx.out
            rw [List.drop_of_length_le (by omega)] at this
            simpa [lineW] using this
          have hcul : cu.length ≤ q.length := by rw [← hqe]; simp
          have HQE := Lib.hid hqe
          clear hqe
          by_cases hne : fs = []
          · have hl0 : ¬ (0 : Int) < (fs.length : Int) := by rw [hne]; simp
            have hend : endW fs = [] := by rw [hne]; rfl
            have HE := Lib.hid hend
            clear hne hend
            go_wp2
            go_roundw
            case rel => exact ⟨k + 1, cu, by omega, by go_num, hbx, hbex, by omega, by unfold Hid; rw [← HQE.out, HE.out]; rfl⟩
            case measure => simp [intOf]; omega
          · have hl0 : (0 : Int) < (fs.length : Int) := by have := List.length_pos_iff.2 hne; omega
            have hend : endW fs = [10] := by unfold endW; rw [if_neg]; simpa using hne
            have HE := Lib.hid hend
            clear hne hend
            go_wp2_with (go_at_call 96; refine (bld_byte w.heap.size w.heap.size cu 10 _ rfl _ hbx (by omega) (by omega)).mono ?_; rintro e w3 ⟨rfl, hb3, hbe3, hk3⟩)
            have hs3 := hbe3.size
            go_roundw
            case rel => exact ⟨k + 1, _, by omega, by go_num, hb3, hbex.trans hbe3, by omega, by unfold Hid; rw [← HQE.out, HE.out]; simp⟩
            case measure => simp [intOf]; omega
    · go_wp2_with (go_at_call 100; refine (Tryz.Builder_String_any w.heap.size w.heap.size cur _ hbld (by omega)).mono ?_; rintro e w2 ⟨rfl, hb2⟩)
      go_ret
      have hfin : cur = q := by rw [← hqk.out, List.drop_of_length_le (by omega)]; simp [writeS]
      exact ⟨ret_str hfin, hbel.trans hb2⟩
end Go.Proofs.YtglkejlimeakbaaGreatDoor

namespace Go.Proofs.YtglkejlimeakbaaGreatDoor
section
/-! part N2 -/
open Go.RowKit

theorem trimPrefix_body (l : List UInt8) : Lib.trimPrefix l [45] = bodyD l := by
  unfold Lib.trimPrefix Lib.hasPrefix bodyD negB
  cases l with
  | nil => rfl
  | cons c r =>
    have : [45].isPrefixOf (c :: r) = (45 == c) := by simp [List.isPrefixOf]
    rw [this]
    by_cases h : c = 45
    · subst h; simp
    · have h1 : ((45 : UInt8) == c) = false := beq_eq_false_iff_ne.2 (Ne.symm h)
      have h2 : ((c :: r).head? == some 45) = false := by simp [h]
      rw [h1, h2]; simp
theorem isEmptyT {s : ByteArray} (h : s.size = 0) : s.toList.isEmpty = true := by rw [ByteArray.toList_eq, List.isEmpty_iff, ← List.length_eq_zero_iff]; simpa using h
theorem isEmptyF {s : ByteArray} (h : s.size ≠ 0) : s.toList.isEmpty = false := by rw [Bool.eq_false_iff]; intro h'; rw [ByteArray.toList_eq, List.isEmpty_iff, ← List.length_eq_zero_iff] at h'; exact h (by simpa using h')
theorem headG {s : ByteArray} (h : 0 < s.size) : s.data.toList.head? = some s[0] := by
  have : s.data.toList = s[0] :: s.data.toList.drop 1 := by have := drop_cons s 0 h; simpa using this
  rw [this]; rfl
theorem body_len (l : List UInt8) : (bodyD l).length ≤ l.length := by unfold bodyD; split <;> simp
set_option maxRecDepth 100000 in
set_option maxHeartbeats 2000000 in
theorem text_decimal (s : ByteArray) (w : World) (hs : s.size ≤ maxLen) :
    Calls Tryz.prog 118 #[.string s] w fun e w' => e = .returned (.bool (decB s.data.toList)) ∧ Below w.heap.size w w' := by
  unfold maxLen at hs
  obtain ⟨z, hz⟩ : ∃ z, z = decB s.data.toList := ⟨_, rfl⟩
  rw [← hz]
  unfold decB at hz
  have hbl := body_len s.data.toList
  have hsl : s.data.toList.length = s.size := by simp
  obtain ⟨d, hd⟩ : ∃ d : ByteArray, d = S (bodyD s.data.toList) := ⟨_, rfl⟩
  have hdd : d.data.toList = bodyD s.data.toList := by rw [hd]; rfl
  have hds : d.size ≤ 9223372036854775807 := by rw [hd, S_size]; omega
  rw [← hdd] at hz
  have tp : ∀ W, Calls Tryz.prog 139 #[.string s, .string ⟨#[45]⟩] W fun e W' => e = .returned (.string d) ∧ W = W' := fun W => by
    refine (Tryz.strings_TrimPrefix s ⟨#[45]⟩ W).mono ?_
    rintro e W' ⟨rfl, rfl⟩
    refine ⟨?_, rfl⟩
    rw [show (⟨#[45]⟩ : ByteArray).data.toList = [45] from rfl, trimPrefix_body, hd]; rfl
  have tm : ∀ W, Calls Tryz.prog 140 #[.string d, .string ⟨#[48, 49, 50, 51, 52, 53, 54, 55, 56, 57]⟩] W fun e W' => ∃ t : ByteArray, e = .returned (.string t) ∧ t.toList.isEmpty = d.data.toList.all digB ∧ Below W.heap.size W W' := fun W => by
    refine (Any.strings_Trim_laid Tryz.lays160 (by kernel_rfl) d ⟨#[48, 49, 50, 51, 52, 53, 54, 55, 56, 57]⟩ W hds (by decide) (ascii_of_all (by decide))).mono ?_
    rintro e W' ⟨rfl, hb⟩
    refine ⟨_, rfl, ?_, hb⟩
    rw [show (⟨#[48, 49, 50, 51, 52, 53, 54, 55, 56, 57]⟩ : ByteArray).data.toList = digits10 from rfl]
    rw [ByteArray.toList_eq, Bool.eq_iff_iff, List.isEmpty_iff]
    exact trim_digits _
  have TP := Lib.hid tp
  have TM := Lib.hid tm
  clear tp tm hbl hsl hdd
  by_cases h0 : d.size = 0
  · have e0 := isEmptyT h0
    have hn : d.data.toList = [] := List.eq_nil_of_length_eq_zero (by simpa using h0)
    rw [hn] at hz
    have HZ := Lib.hid hz
    clear hz hn hd h0
    go_enter Tryz.func118, Tryz.ntmps118
    go_wp2_with (go_at_call 139; refine (TP.out _).mono ?_; rintro e w2 ⟨rfl, rfl⟩)
    go_ret
    exact ⟨ret_b (by rw [HZ.out]; rfl), Below.refl _ _⟩
  · have e0 := isEmptyF h0
    have h1 : 0 < d.size := Nat.pos_of_ne_zero h0
    have hne : d.data.toList.isEmpty = false := by rw [← ByteArray.toList_eq]; exact e0
    rw [hne, headG h1] at hz
    by_cases hc : d[0] = 48
    · have e1 : ((d[0].toNat : Int) == 48) = true := by rw [hc]; rfl
      by_cases hl : s.data.toList = [48]
      · have e2 : (s.toList == [48]) = true := by rw [ByteArray.toList_eq]; exact beq_iff_eq.2 hl
        have e3 : (s.data.toList == [48]) = true := beq_iff_eq.2 hl
        rw [e3, hc] at hz
        have HZ := Lib.hid hz
        clear hz hl hd hc h0 e3 hne
        go_enter Tryz.func118, Tryz.ntmps118
        go_wp2_with (first | (go_at_call 139; refine (TP.out _).mono ?_; rintro e w2 ⟨rfl, rfl⟩) | (go_at_call 140; refine (TM.out _).mono ?_; rintro e w3 ⟨t, rfl, ht, hb⟩; have HT := Lib.hid ht; clear ht))
        go_ret
        exact ⟨ret_b (by rw [HZ.out, HT.out]; simp), hb⟩
      · have e2 : (s.toList == [48]) = false := by rw [ByteArray.toList_eq]; exact beq_eq_false_iff_ne.2 hl
        have e3 : (s.data.toList == [48]) = false := beq_eq_false_iff_ne.2 hl
        rw [e3, hc] at hz
        have HZ := Lib.hid hz
        clear hz hl hd hc h0 e3 hne
        go_enter Tryz.func118, Tryz.ntmps118
        go_wp2_with (go_at_call 139; refine (TP.out _).mono ?_; rintro e w2 ⟨rfl, rfl⟩)
        go_ret
        exact ⟨ret_b (by rw [HZ.out]; simp), Below.refl _ _⟩
    · have e1 : ((d[0].toNat : Int) == 48) = false := beq_eq_false_iff_ne.2 (fun h => hc (UInt8.toNat_inj.1 (by have e : (48 : UInt8).toNat = 48 := rfl; omega)))
      have e3 : ((some d[0]) == some (48 : UInt8)) = false := by simp [hc]
      rw [e3] at hz
      have HZ := Lib.hid hz
      clear hz hd hc h0 e3 hne
      go_enter Tryz.func118, Tryz.ntmps118
      go_wp2_with (first | (go_at_call 139; refine (TP.out _).mono ?_; rintro e w2 ⟨rfl, rfl⟩) | (go_at_call 140; refine (TM.out _).mono ?_; rintro e w3 ⟨t, rfl, ht, hb⟩; have HT := Lib.hid ht; clear ht))
      go_ret
      exact ⟨ret_b (by rw [HZ.out, HT.out]; simp), hb⟩
set_option maxRecDepth 100000 in
set_option maxHeartbeats 2000000 in
theorem text_Number (s : ByteArray) (lo hi : Int) (w : World) (hg : GlobN w) (hs : s.size ≤ 281474976710656) :
    Calls Tryz.prog 77 #[.string s, .int .i64 lo, .int .i64 hi] w fun e w' => e = .returned (.tuple #[.int .i64 (numberS s.data.toList lo hi).1, .int .i64 (numberS s.data.toList lo hi).2]) ∧ Below w.heap.size w w' := by
  obtain ⟨z, hz⟩ : ∃ z, z = numberS s.data.toList lo hi := ⟨_, rfl⟩
  rw [← hz]
  unfold numberS at hz
  have hdc := text_decimal s w (by unfold maxLen; omega)
  cases hd : decB s.data.toList
  · rw [if_pos hd] at hz
    rw [hd] at hdc
    have HD := Lib.hid hdc
    have HZ := Lib.hid hz
    clear hz hd hdc hg
    go_enter Tryz.func77, Tryz.ntmps77
    go_wp2_with (go_at_call 118; refine HD.out.mono ?_; rintro e w2 ⟨rfl, hb⟩)
    go_ret2
    exact ⟨by rw [HZ.out] <;> rfl, hb⟩
  · rw [if_neg (by simp [hd])] at hz
    rw [hd] at hdc
    have hp := parse_dec hd
    have HD := Lib.hid hdc
    obtain ⟨v, hv⟩ : ∃ v, v = valI s.data.toList := ⟨_, rfl⟩
    rw [← hv] at hz hp
    clear hd hdc hv
    cases hf : fitB v
    · rw [hf] at hp hz
      rw [if_neg (by simp)] at hp hz
      have pr : ∀ W, Below w.heap.size w W → Calls Tryz.prog 119 #[.string s, .int .i64 10, .int .i64 64] W fun e W' => ∃ (x : Int) (T : TypeId) (N : Nat), e = .returned (.tuple #[.int .i64 x, .iface T (.pointer (some ⟨N, 0, none⟩))]) ∧ Below w.heap.size w W' := fun W hW => by
        obtain ⟨tp, p, h1⟩ := (hg.below hW).rng
        refine (Tryz.strconv_ParseInt_10_at64_range_var s hs hp tp p W h1).mono ?_
        rintro e W' ⟨N, rfl, _, _, hb⟩
        exact ⟨_, _, N, rfl, hW.trans (hb.mono hW.size)⟩
      have PR := Lib.hid pr
      have HZ := Lib.hid hz
      clear pr hz hp hg hf
      go_enter Tryz.func77, Tryz.ntmps77
      go_wp2_with (first | (go_at_call 118; refine HD.out.mono ?_; rintro e w2 ⟨rfl, hb⟩; have HB := Lib.hid hb; clear hb) | (go_at_call 119; refine (PR.out _ HB.out).mono ?_; rintro e w3 ⟨x, T, N, rfl, hb3⟩; have HB3 := Lib.hid hb3; clear hb3))
      go_ret2
      exact ⟨by rw [HZ.out] <;> rfl, HB3.out⟩
    · rw [hf] at hp hz
      rw [if_pos rfl] at hp
      have pr : ∀ W, Below w.heap.size w W → Calls Tryz.prog 119 #[.string s, .int .i64 10, .int .i64 64] W fun e W' => e = .returned (.tuple #[.int .i64 v, .nilIface]) ∧ Below w.heap.size w W' := fun W hW => by
        refine (Tryz.strconv_ParseInt_10_at64_ok s (by omega) v hp W).mono ?_
        rintro e W' ⟨rfl, hw⟩
        refine ⟨rfl, ?_⟩
        rcases hw with rfl | ⟨t, rfl⟩
        · exact hW
        · exact hW.trans ((Lib.bytesWorld_below _ _ _).mono hW.size)
      have PR := Lib.hid pr
      clear pr hp hg hf
      by_cases hlo : lo ≤ v
      · by_cases hhi : v ≤ hi
        · rw [if_pos ⟨rfl, hlo, hhi⟩] at hz
          have HZ := Lib.hid hz
          have e1 : decide (v < lo) = false := decide_eq_false (by omega)
          have e2 : decide (hi < v) = false := decide_eq_false (by omega)
          clear hz hlo hhi
          go_enter Tryz.func77, Tryz.ntmps77
          go_wp2_with (first | (go_at_call 118; refine HD.out.mono ?_; rintro e w2 ⟨rfl, hb⟩; have HB := Lib.hid hb; clear hb) | (go_at_call 119; refine (PR.out _ HB.out).mono ?_; rintro e w3 ⟨rfl, hb3⟩; have HB3 := Lib.hid hb3; clear hb3))
          go_ret2
          exact ⟨by rw [HZ.out] <;> rfl, HB3.out⟩
        · rw [if_neg (fun h => hhi h.2.2)] at hz
          have HZ := Lib.hid hz
          have e1 : decide (v < lo) = false := decide_eq_false (by omega)
          have e2 : decide (hi < v) = true := decide_eq_true (by omega)
          clear hz hlo hhi
          go_enter Tryz.func77, Tryz.ntmps77
          go_wp2_with (first | (go_at_call 118; refine HD.out.mono ?_; rintro e w2 ⟨rfl, hb⟩; have HB := Lib.hid hb; clear hb) | (go_at_call 119; refine (PR.out _ HB.out).mono ?_; rintro e w3 ⟨rfl, hb3⟩; have HB3 := Lib.hid hb3; clear hb3))
          go_ret2
          exact ⟨by rw [HZ.out] <;> rfl, HB3.out⟩
      · rw [if_neg (fun h => hlo h.2.1)] at hz
        have HZ := Lib.hid hz
        have e1 : decide (v < lo) = true := decide_eq_true (by omega)
        clear hz hlo
        go_enter Tryz.func77, Tryz.ntmps77
        go_wp2_with (first | (go_at_call 118; refine HD.out.mono ?_; rintro e w2 ⟨rfl, hb⟩; have HB := Lib.hid hb; clear hb) | (go_at_call 119; refine (PR.out _ HB.out).mono ?_; rintro e w3 ⟨rfl, hb3⟩; have HB3 := Lib.hid hb3; clear hb3))
        go_ret2
        exact ⟨by rw [HZ.out] <;> rfl, HB3.out⟩
end

section
/-! part N3 -/
open Go.RowKit

theorem grow_below (w : World) (k : Nat) (os : Array Obj) : Below w.heap.size w (Sort.grow (w.drewN k) os) := Lib.below_grow _ w (Nat.le_refl _) k os
set_option maxRecDepth 100000 in
theorem text_Decimal (n : Int) (w : World) (hg : GlobN w) (h0 : -9223372036854775808 ≤ n) (h1 : n ≤ 9223372036854775807) :
    Calls Tryz.prog 45 #[.int .i64 n] w fun e w' => e = .returned (.string (S (Lib.itoa n))) ∧ Below w.heap.size w w' := by
  have hf := Tryz.strconv_FormatInt_10 n h0 h1 w hg.pow
  have HF := Lib.hid hf
  clear hf hg
  go_enter Tryz.func45, Tryz.ntmps45
  go_wp2_with (go_at_call 95; refine HF.out.mono ?_; rintro e w2 ⟨rfl, k, os, rfl⟩)
  go_ret
  exact ⟨rfl, grow_below _ _ _⟩
theorem decDigits_le {u : Nat} (h : u ≤ 9223372036854775808) : (Lib.decDigits u).length ≤ 19 := by
  rw [Lib.decDigits_length]
  have key : ∀ (k u : Nat), u < 10 ^ (k + 1) → Lib.nDigits u ≤ k + 1 := by
    intro k
    induction k with
    | zero => intro u hu; rw [Lib.nDigits, dif_pos (by omega)]; omega
    | succ k ih =>
      intro u hu
      rw [Lib.nDigits]
      split
      · omega
      · have := ih (u / 10) (by rw [Nat.div_lt_iff_lt_mul (by omega)]; rw [Nat.pow_succ] at hu; omega)
        omega
  exact key 18 u (by have : (10 : Nat) ^ (18 + 1) = 10000000000000000000 := by decide
                     omega)
end

section
/-! part N5 -/
open Go.RowKit

theorem dig_atU : ∀ r : Nat, r < 10 → (⟨#[48, 49, 50, 51, 52, 53, 54, 55, 56, 57]⟩ : ByteArray).extract r (r + 1) = S [UInt8.ofNat (48 + r)] := by
  intro r h
  match r, h with
  | 0, _ => rfl
  | 1, _ => rfl
  | 2, _ => rfl
  | 3, _ => rfl
  | 4, _ => rfl
  | 5, _ => rfl
  | 6, _ => rfl
  | 7, _ => rfl
  | 8, _ => rfl
  | 9, _ => rfl
theorem padR_lenU (M u : Nat) (s : List UInt8) : s.length ≤ (padR M u s).length := by
  unfold padR
  split
  · simp
  · simp; omega
theorem padS_smallU (u : Nat) (h : u ≤ 9223372036854775807) (width : Int) : (padS (u : Int) width).length ≤ 100 := by
  unfold padS
  have := decDigits_le (u := u) (by omega)
  simp only [List.length_append, List.length_replicate]
  rw [if_neg (by omega), Int.natAbs_natCast]
  simp; omega
theorem S_consU (c : UInt8) (t : ByteArray) : S [c] ++ t = S (c :: t.data.toList) := by
  apply ByteArray.ext; apply Array.ext'
  simp [S, ByteArray.data_append]
end
end Go.Proofs.YtglkejlimeakbaaGreatDoor

namespace Go.Proofs.YtglkejlimeakbaaGreatDoor

def otcW (o : Otc) : List UInt8 := Lib.itoa o.runs ++ (if o.wick = true then [87] else []) ++ [58] ++ Lib.itoa o.wt
def textC (d : List Otc) : List UInt8 × Int := if checkD d ≠ 0 then ([], checkD d) else (Lib.join (d.map otcW) [32], 0)
/-- The parts of a piece: before the colon (a W at its end taken off), is there a W, behind the colon. -/
def partA (p : List UInt8) : List UInt8 := Lib.trimSuffix (Lib.cut p [58]).1 [87]
def partW (p : List UInt8) : Bool := Lib.hasSuffix (Lib.cut p [58]).1 [87]
def partB (p : List UInt8) : List UInt8 := (Lib.cut p [58]).2.1
def pieceOk (p : List UInt8) : Bool := decide ((numberS (partA p) 0 7).2 = 0) && decide ((numberS (partB p) 1 16).2 = 0)
def pieceO (p : List UInt8) : Otc := ⟨(numberS (partA p) 0 7).1, partW p, (numberS (partB p) 1 16).1⟩
def parseC (s : List UInt8) : List Otc × Int :=
  if (pieces 32 s).all pieceOk = false then ([], 4)
  else if (textC ((pieces 32 s).map pieceO)).2 ≠ 0 ∨ (textC ((pieces 32 s).map pieceO)).1 ≠ s then ([], 4)
  else ((pieces 32 s).map pieceO, 0)
end Go.Proofs.YtglkejlimeakbaaGreatDoor

namespace Go.Proofs.YtglkejlimeakbaaGreatDoor
open Go.RowKit

end Go.Proofs.YtglkejlimeakbaaGreatDoor

namespace Go.Proofs.YtglkejlimeakbaaGreatDoor
section
/-! part C -/
open Go.RowKit

def curCells (c : Cur) (fv : Value) : Array Value := #[.int .i64 c.num, fv, .int .i64 c.next, .int .i64 c.last, .int .i64 c.err, .int .i64 c.pos]
/-- The cursor c lies in block g; its fields in the blocks of F. -/
structure CurAt (w : World) (F : Nat → Prop) (g : Nat) (c : Cur) : Prop where
  ok : c.ok
  blk : ∃ fv, Blk w g 101 (curCells c fv) ∧ Sl 3 elFld w F fv c.fields
  foot : ∀ b, F b → b < w.heap.size ∧ b ≠ g
theorem CurAt.lt {w : World} {F : Nat → Prop} {g : Nat} {c : Cur} (h : CurAt w F g c) : g < w.heap.size := let ⟨_, hb, _⟩ := h.blk; hb.lt
theorem CurAt.keep {w w' : World} {F G : Nat → Prop} {g : Nat} {c : Cur} (h : CurAt w F g c) (hs : Same F w w') (hg : w'.heap[g]? = w.heap[g]?) (hz : w.heap.size ≤ w'.heap.size) : CurAt w' F g c := by
  obtain ⟨fv, hb, hf⟩ := h.blk
  exact ⟨h.ok, ⟨fv, hg.trans hb, hf.keep elFld_good hs fun _ h => h⟩, fun b hF => ⟨by have := (h.foot b hF).1; omega, (h.foot b hF).2⟩⟩
theorem CurAt.below {w w' : World} {F : Nat → Prop} {g : Nat} {c : Cur} (h : CurAt w F g c) (hb : Below w.heap.size w w') : CurAt w' F g c :=
  h.keep (G := F) (Same.below hb fun b hF => (h.foot b hF).1) (hb.block g h.lt) hb.size
/-- Behind writes into the cursor's own block. -/
theorem CurAt.wrote {w w' : World} {F : Nat → Prop} {g : Nat} {c c' : Cur} {fv : Value} (h : CurAt w F g c) (hf : Sl 3 elFld w F fv c.fields) (ho : Only g w w') (hb : Blk w' g 101 (curCells c' fv)) (hc : c'.fields = c.fields) (hok : c'.ok) : CurAt w' F g c' :=
  ⟨hok, ⟨fv, hb, by rw [hc]; exact hf.keep elFld_good (ho.same h.foot) fun _ h => h⟩, fun b hF => ⟨by have := (h.foot b hF).1; have := ho.size; omega, (h.foot b hF).2⟩⟩

set_option maxRecDepth 100000 in
set_option maxHeartbeats 1000000 in
theorem cur_fail (c : Cur) (e col : Int) (F : Nat → Prop) (g : Nat) (w : World) (h : CurAt w F g c) :
    Calls Tryz.prog 107 #[.pointer (some ⟨g, 0, none⟩), .int .i64 e, .int .i64 col] w fun x w' => x = .returned (.tuple #[]) ∧ CurAt w' F g (c.fail e col) ∧ Only g w w' := by
  obtain ⟨fv, hb, hf⟩ := h.blk
  have c4 : w.cell? ⟨g, 4, none⟩ = some (.int .i64 c.err) := hb.cell 4
  have c5 : w.cell? ⟨g, 5, none⟩ = some (.int .i64 c.pos) := hb.cell 5
  have f4 := hb.frozen 4
  have f5 := hb.frozen 5
  have H := Lib.hid h
  have HB := Lib.hid hb
  have HF := Lib.hid hf
  clear h hb hf
  by_cases he : c.err = 0
  · have e0 : (c.err == 0) = true := beq_iff_eq.2 he
    have HE := Lib.hid he
    clear he
    go_enter Tryz.func107, Tryz.ntmps107
    go_wp2
    go_end0
    have ho : Only g w ((w.setCell ⟨g, 4, none⟩ (.int .i64 e)).setCell ⟨g, 5, none⟩ (.int .i64 col)) := ((Only.refl g w).setCell (p := ⟨g, 4, none⟩) (.inl rfl) _).setCell (p := ⟨g, 5, none⟩) (.inl rfl) _
    refine ⟨rfl, H.out.wrote HF.out ho (c' := c.fail e col) ?_ (by unfold Cur.fail; rw [if_pos HE.out]) (Cur.fail_ok H.out.ok e col), ho⟩
    have := (HB.out.set_ 4 (.int .i64 e)).set_ 5 (.int .i64 col)
    unfold Cur.fail
    rw [if_pos HE.out]
    exact this
  · have e0 : (c.err == 0) = false := beq_eq_false_iff_ne.2 he
    have HE := Lib.hid he
    clear he
    go_enter Tryz.func107, Tryz.ntmps107
    go_wp2
    go_end0
    exact ⟨rfl, by unfold Cur.fail; rw [if_neg HE.out]; exact H.out, Only.refl _ _⟩

set_option maxRecDepth 100000 in
set_option maxHeartbeats 1000000 in
theorem cur_More (c : Cur) (F : Nat → Prop) (g : Nat) (w : World) (h : CurAt w F g c) :
    Calls Tryz.prog 64 #[.pointer (some ⟨g, 0, none⟩)] w fun x w' => x = .returned (.bool c.more) ∧ ∃ n, w' = w.drewN n := by
  obtain ⟨fv, hb, hf⟩ := h.blk
  obtain ⟨A, cp, rfl, hc1, hc2⟩ := hf.shape
  have c1 : w.cell? ⟨g, 1, none⟩ = some (.slice A c.fields.length cp) := hb.cell 1
  have c2 : w.cell? ⟨g, 2, none⟩ = some (.int .i64 c.next) := hb.cell 2
  have c4 : w.cell? ⟨g, 4, none⟩ = some (.int .i64 c.err) := hb.cell 4
  clear h hb hf
  by_cases he : c.err = 0
  · have e0 : (c.err == 0) = true := beq_iff_eq.2 he
    have HE := Lib.hid he
    clear he
    go_enter Tryz.func64, Tryz.ntmps64
    go_wp2
    go_quiet (fail)
    go_wp2
    go_ret
    refine ⟨ret_b ?_, _, rfl⟩
    unfold Cur.more
    rw [decide_eq_true HE.out]
    simp
  · have e0 : (c.err == 0) = false := beq_eq_false_iff_ne.2 he
    have HE := Lib.hid he
    clear he
    go_enter Tryz.func64, Tryz.ntmps64
    go_wp2
    go_quiet (fail)
    go_wp2
    go_ret
    refine ⟨ret_b ?_, _, rfl⟩
    unfold Cur.more
    rw [decide_eq_false HE.out]
    simp
end

section
/-! part C2 -/
open Go.RowKit

theorem CurAt.drewN {w : World} {F : Nat → Prop} {g : Nat} {c : Cur} (h : CurAt w F g c) (n : Nat) : CurAt (w.drewN n) F g c :=
  h.keep (G := F) (fun _ _ => rfl) rfl (Nat.le_refl _)
def ReadPost (w : World) (F : Nat → Prop) (g : Nat) (r : Cur × List UInt8 × Bool) (x : Ending) (w' : World) : Prop :=
  x = .returned (.tuple #[.string (S r.2.1), .bool r.2.2]) ∧ CurAt w' F g r.1 ∧ Only g w w'

set_option maxRecDepth 100000 in
set_option maxHeartbeats 2000000 in
theorem cur_read (c : Cur) (q : Bool) (F : Nat → Prop) (g : Nat) (w : World) (h : CurAt w F g c) :
    Calls Tryz.prog 106 #[.pointer (some ⟨g, 0, none⟩), .bool q] w (ReadPost w F g (c.read q)) := by
  obtain ⟨r, hr⟩ : ∃ r, r = c.read q := ⟨_, rfl⟩
  rw [← hr]
  unfold Cur.read at hr
  obtain ⟨fv, hb, hf⟩ := h.blk
  obtain ⟨A, cp, rfl, hc1, hc2⟩ := hf.shape
  have c1 : w.cell? ⟨g, 1, none⟩ = some (.slice A c.fields.length cp) := hb.cell 1
  have c2 : w.cell? ⟨g, 2, none⟩ = some (.int .i64 c.next) := hb.cell 2
  have c3 : w.cell? ⟨g, 3, none⟩ = some (.int .i64 c.last) := hb.cell 3
  have c4 : w.cell? ⟨g, 4, none⟩ = some (.int .i64 c.err) := hb.cell 4
  have f2 := hb.frozen 2
  have f3 := hb.frozen 3
  have hok : c.next ≤ c.fields.length := h.ok
  have H := Lib.hid h
  have HB := Lib.hid hb
  have HF := Lib.hid hf
  clear h hb hf
  by_cases he : c.err = 0
  · have e0 : (c.err != 0) = false := by rw [he]; rfl
    rw [if_pos he] at hr
    have HE := Lib.hid he
    clear he
    by_cases hlt : c.next < c.fields.length
    · have e1 : ((c.next : Int) == (c.fields.length : Int)) = false := beq_eq_false_iff_ne.2 (by omega)
      obtain ⟨b, o, cs, rfl, hF, hcl, hcc, hel⟩ := HF.out.at hlt
      rw [List.getElem?_eq_getElem hlt] at hr
      obtain ⟨⟨ft, fc, fq⟩, hfe⟩ : ∃ f, f = c.fields[c.next] := ⟨_, rfl⟩
      rw [← hfe] at hel hr
      clear hfe
      have hel' : cs = [.string (S ft), .int .i64 fc, .bool fq] := hel
      subst hel'
      have y0 : w.cell? ⟨b, o + c.next * 3, none⟩ = some (.string (S ft)) := hcc 0 _ rfl
      have y1 : w.cell? ⟨b, o + c.next * 3 + 1, none⟩ = some (.int .i64 fc) := hcc 1 _ rfl
      have y2 : w.cell? ⟨b, o + c.next * 3 + 2, none⟩ = some (.bool fq) := hcc 2 _ rfl
      have hbg := (H.out.foot b hF).2
      clear hcc hel hcl
      have HR := Lib.hid hr
      clear hr
      go_enter Tryz.func106, Tryz.ntmps106
      go_wp2
      go_quiet (fail)
      go_wp2
      generalize hwq : w.drewN _ = wq
      have hz : wq.heap.size = w.heap.size := by rw [← hwq]; rfl
      have hbl : b < wq.heap.size := by rw [hz]; exact (H.out.foot b hF).1
      have hgl : g < wq.heap.size := by rw [hz]; exact H.out.lt
      have d1 : wq.cell? ⟨g, 1, none⟩ = some (.slice (some ⟨b, o, none⟩) c.fields.length cp) := by rw [← hwq]; exact c1
      have d2 : wq.cell? ⟨g, 2, none⟩ = some (.int .i64 c.next) := by rw [← hwq]; exact c2
      have d3 : wq.cell? ⟨g, 3, none⟩ = some (.int .i64 c.last) := by rw [← hwq]; exact c3
      have z0 : wq.cell? ⟨b, o + c.next * 3, none⟩ = some (.string (S ft)) := by rw [← hwq]; exact y0
      have z1 : wq.cell? ⟨b, o + c.next * 3 + 1, none⟩ = some (.int .i64 fc) := by rw [← hwq]; exact y1
      have z2 : wq.cell? ⟨b, o + c.next * 3 + 2, none⟩ = some (.bool fq) := by rw [← hwq]; exact y2
      have g2 : wq.frozen? ⟨g, 2, none⟩ = false := by rw [← hwq]; exact f2
      have g3 : wq.frozen? ⟨g, 3, none⟩ = false := by rw [← hwq]; exact f3
      have HWQ := Lib.hid hwq
      clear hwq hz c1 c2 c3 c4 y0 y1 y2 f2 f3
      have d1a := (World.cell?_alloc_lt wq (Obj.cells #[.string ⟨#[]⟩, .int .i64 0, .bool false] 87) ⟨g, 1, none⟩ hgl).trans d1
      have d2a := (World.cell?_alloc_lt wq (Obj.cells #[.string ⟨#[]⟩, .int .i64 0, .bool false] 87) ⟨g, 2, none⟩ hgl).trans d2
      have z0a := (World.cell?_alloc_lt wq (Obj.cells #[.string ⟨#[]⟩, .int .i64 0, .bool false] 87) ⟨b, o + c.next * 3, none⟩ hbl).trans z0
      have z1a := (World.cell?_alloc_lt wq (Obj.cells #[.string ⟨#[]⟩, .int .i64 0, .bool false] 87) ⟨b, o + c.next * 3 + 1, none⟩ hbl).trans z1
      have z2a := (World.cell?_alloc_lt wq (Obj.cells #[.string ⟨#[]⟩, .int .i64 0, .bool false] 87) ⟨b, o + c.next * 3 + 2, none⟩ hbl).trans z2
      go_region
      generalize hW : World.drew _ = wx
      have hx : wx = (wq.alloc (Obj.cells #[.string (S ft), .int .i64 fc, .bool fq] 87)).drew := hW.symm
      clear hW
      have hox : Only g w wx := by
        rw [hx, ← HWQ.out]
        exact (((Only.refl g w).drewN _).alloc _).drew
      have hbx : Blk wx g 101 (curCells c (.slice (some ⟨b, o, none⟩) c.fields.length cp)) := by
        rw [hx, ← HWQ.out]
        exact Blk.alloc (w := w.drewN _) HB.out _
      have hnx : Blk wx wq.heap.size 87 #[.string (S ft), .int .i64 fc, .bool fq] := by
        rw [hx]; exact Blk.new wq _ _
      have hcx : CurAt wx F g c := by
        refine H.out.keep (G := F) (hox.same H.out.foot) ?_ hox.size
        rw [hbx]; exact HB.out.symm
      have HX := Lib.hid hox
      have HBX := Lib.hid hbx
      have HCX := Lib.hid hcx
      have x0 := hnx.cell 0
      have x1 := hnx.cell 1
      have x2 := hnx.cell 2
      have w2 : wx.cell? ⟨g, 2, none⟩ = some (.int .i64 c.next) := hbx.cell 2
      have w3 : wx.cell? ⟨g, 3, none⟩ = some (.int .i64 c.last) := hbx.cell 3
      have v2 := hbx.frozen 2
      have v3 := hbx.frozen 3
      simp only [List.getElem?_toArray, List.getElem?_cons_zero, List.getElem?_cons_succ] at x0 x1 x2
      clear hx hox hbx hnx hcx d1 d2 d3 z0 z1 z2 g2 g3 d1a d2a z0a z1a z2a
      rcases fq with _ | _ <;> rcases q with _ | _
      · skip
        have HR' := HR.out
        simp only [if_true] at HR'
        have HRR := Lib.hid HR'
        clear HR' HR
        go_wp2
        go_ret2
        have ho : Only g wx ((wx.setCell ⟨g, 2, none⟩ (.int .i64 ((c.next : Int) + 1))).setCell ⟨g, 3, none⟩ (.int .i64 fc)) := ((Only.refl g wx).setCell (p := ⟨g, 2, none⟩) (.inl rfl) _).setCell (p := ⟨g, 3, none⟩) (.inl rfl) _
        have hbf := (HBX.out.set_ 2 (.int .i64 ((c.next : Int) + 1))).set_ 3 (.int .i64 fc)
        rw [HRR.out]
        exact ⟨rfl, HCX.out.wrote (HF.out.keep elFld_good (HX.out.same H.out.foot) fun _ h => h) ho (c' := { c with next := c.next + 1, last := fc }) hbf rfl (by unfold Cur.ok; exact hlt), HX.out.trans ho⟩
      · skip
        have HR' := HR.out
        rw [if_neg (by simp)] at HR'
        have HRR := Lib.hid HR'
        clear HR' HR
        go_wp2_with (go_at_call 107; refine (cur_fail c 4 fc F g _ HCX.out).mono ?_; rintro e w2 ⟨rfl, hc2, ho2⟩)
        go_ret2
        rw [HRR.out]
        exact ⟨rfl, hc2, HX.out.trans ho2⟩
      · skip
        have HR' := HR.out
        rw [if_neg (by simp)] at HR'
        have HRR := Lib.hid HR'
        clear HR' HR
        go_wp2_with (go_at_call 107; refine (cur_fail c 4 fc F g _ HCX.out).mono ?_; rintro e w2 ⟨rfl, hc2, ho2⟩)
        go_ret2
        rw [HRR.out]
        exact ⟨rfl, hc2, HX.out.trans ho2⟩
      · skip
        have HR' := HR.out
        simp only [if_true] at HR'
        have HRR := Lib.hid HR'
        clear HR' HR
        go_wp2
        go_ret2
        have ho : Only g wx ((wx.setCell ⟨g, 2, none⟩ (.int .i64 ((c.next : Int) + 1))).setCell ⟨g, 3, none⟩ (.int .i64 fc)) := ((Only.refl g wx).setCell (p := ⟨g, 2, none⟩) (.inl rfl) _).setCell (p := ⟨g, 3, none⟩) (.inl rfl) _
        have hbf := (HBX.out.set_ 2 (.int .i64 ((c.next : Int) + 1))).set_ 3 (.int .i64 fc)
        rw [HRR.out]
        exact ⟨rfl, HCX.out.wrote (HF.out.keep elFld_good (HX.out.same H.out.foot) fun _ h => h) ho (c' := { c with next := c.next + 1, last := fc }) hbf rfl (by unfold Cur.ok; exact hlt), HX.out.trans ho⟩
    · have e1 : ((c.next : Int) == (c.fields.length : Int)) = true := beq_iff_eq.2 (by omega)
      rw [List.getElem?_eq_none (by omega)] at hr
      have HR := Lib.hid hr
      clear hr
      go_enter Tryz.func106, Tryz.ntmps106
      go_wp2
      go_quiet (fail)
      go_wp2_with (go_at_call 107; refine (cur_fail c 4 0 F g _ (H.out.drewN _)).mono ?_; rintro e w2 ⟨rfl, hc2, ho2⟩)
      go_ret2
      rw [HR.out]
      exact ⟨rfl, hc2, ((Only.refl g w).drewN _).trans ho2⟩
  · have e0 : (c.err != 0) = true := by rw [bne_iff_ne]; exact he
    rw [if_neg he] at hr
    have HR := Lib.hid hr
    clear hr he
    go_enter Tryz.func106, Tryz.ntmps106
    go_wp2
    go_ret2
    rw [HR.out]
    exact ⟨rfl, H.out, Only.refl _ _⟩
end

section
/-! part C3 -/
open Go.RowKit

theorem CurAt.last {w : World} {F : Nat → Prop} {g : Nat} {c : Cur} (h : CurAt w F g c) : w.cell? ⟨g, 3, none⟩ = some (.int .i64 c.last) := let ⟨_, hb, _⟩ := h.blk; hb.cell 3
def StrCur (w : World) (F : Nat → Prop) (g : Nat) (r : Cur × List UInt8) (x : Ending) (w' : World) : Prop := x = .returned (.string (S r.2)) ∧ CurAt w' F g r.1 ∧ Only g w w'
def IntCur (w : World) (F : Nat → Prop) (g : Nat) (r : Cur × Int) (x : Ending) (w' : World) : Prop := x = .returned (.int .i64 r.2) ∧ CurAt w' F g r.1 ∧ Only g w w'

set_option maxRecDepth 100000 in
set_option maxHeartbeats 2000000 in
theorem cur_Ident (c : Cur) (F : Nat → Prop) (g : Nat) (w : World) (h : CurAt w F g c) (hlen : ∀ f ∈ c.fields, f.text.length ≤ 1000000000) :
    Calls Tryz.prog 62 #[.pointer (some ⟨g, 0, none⟩)] w (StrCur w F g c.ident) := by
  obtain ⟨q, hq⟩ : ∃ q, q = c.ident := ⟨_, rfl⟩
  rw [← hq]
  unfold Cur.ident at hq
  have hrd := cur_read c false F g w h
  have htl := Cur.read_text c false hlen
  obtain ⟨⟨c', t, ok⟩, hr⟩ : ∃ r, r = c.read false := ⟨_, rfl⟩
  rw [← hr] at hrd hq htl
  have HRD := Lib.hid hrd
  have HQ := Lib.hid hq
  clear hrd hr hq h hlen
  dsimp only at htl
  cases ok
  · go_enter Tryz.func62, Tryz.ntmps62
    go_wp2_with (go_at_call 106; refine HRD.out.mono ?_; rintro e w2 ⟨rfl, hc2, ho2⟩)
    go_ret
    rw [HQ.out, if_neg (by simp)]
    exact ⟨rfl, hc2, ho2⟩
  · cases hn : nameS t
    · have HN := Lib.hid hn
      go_enter Tryz.func62, Tryz.ntmps62
      go_wp2_with (first | (go_at_call 106; refine HRD.out.mono ?_; rintro e w2 ⟨rfl, hc2, ho2⟩; have HC2 := Lib.hid hc2; clear hc2) | (go_at_call 65; refine (text_Name (S t) _ (by simp only [S_size, maxLen]; omega)).mono ?_; rintro e w3 ⟨rfl, hb3⟩; have hc3 := HC2.out.below hb3; have c3 := hc3.last; have HC3 := Lib.hid hc3; clear hc3) | (go_at_call 107; refine (cur_fail c' 5 c'.last F g _ HC3.out).mono ?_; rintro e w4 ⟨rfl, hc4, ho4⟩))
      go_ret
      rw [HQ.out, if_pos ⟨trivial, HN.out⟩]
      exact ⟨rfl, hc4, (ho2.trans (Only.of_below hb3)).trans ho4⟩
    · have HN := Lib.hid hn
      go_enter Tryz.func62, Tryz.ntmps62
      go_wp2_with (first | (go_at_call 106; refine HRD.out.mono ?_; rintro e w2 ⟨rfl, hc2, ho2⟩; have HC2 := Lib.hid hc2; clear hc2) | (go_at_call 65; refine (text_Name (S t) _ (by simp only [S_size, maxLen]; omega)).mono ?_; rintro e w3 ⟨rfl, hb3⟩))
      go_ret
      rw [HQ.out, if_neg (by rw [HN.out]; simp)]
      exact ⟨rfl, HC2.out.below hb3, ho2.trans (Only.of_below hb3)⟩

set_option maxRecDepth 100000 in
set_option maxHeartbeats 2000000 in
theorem cur_Reject (c : Cur) (n : Int) (F : Nat → Prop) (g : Nat) (w : World) (h : CurAt w F g c) :
    Calls Tryz.prog 85 #[.pointer (some ⟨g, 0, none⟩), .int .i64 n] w fun x w' => x = .returned (.tuple #[]) ∧ CurAt w' F g (c.reject n) ∧ Only g w w' := by
  have c3 := h.last
  have H := Lib.hid h
  clear h
  by_cases hn : n = 0
  · have e0 : (n != 0) = false := by rw [hn]; rfl
    have HN := Lib.hid hn
    clear hn
    go_enter Tryz.func85, Tryz.ntmps85
    go_wp2
    go_end0
    exact ⟨rfl, by unfold Cur.reject; rw [if_pos HN.out]; exact H.out, Only.refl _ _⟩
  · have e0 : (n != 0) = true := by rw [bne_iff_ne]; exact hn
    have HN := Lib.hid hn
    clear hn
    go_enter Tryz.func85, Tryz.ntmps85
    go_wp2_with (go_at_call 107; refine (cur_fail c n c.last F g _ H.out).mono ?_; rintro e w2 ⟨rfl, hc2, ho2⟩)
    go_end0
    exact ⟨rfl, by unfold Cur.reject; rw [if_neg HN.out]; exact hc2, ho2⟩
end

section
/-! part C4 -/
open Go.RowKit

def closeV : Option Dia → Value
  | some d => .tuple #[.agg #[.int .i64 d.line, .int .i64 d.col, .int .i64 d.code], .bool true]
  | none => .tuple #[.agg #[.int .i64 0, .int .i64 0, .int .i64 0], .bool false]
@[go_sem] theorem build_dia0 (w : World) : (Instr.build 41 #[]).run Tryz.prog w = .ok (.agg #[.int .i64 0, .int .i64 0, .int .i64 0]) w := run_build w 41 _ _ (by kernel_rfl)

set_option maxRecDepth 100000 in
set_option maxHeartbeats 2000000 in
theorem cur_Close (c : Cur) (F : Nat → Prop) (g : Nat) (w : World) (h : CurAt w F g c) :
    Calls Tryz.prog 27 #[.pointer (some ⟨g, 0, none⟩)] w fun x w' => x = .returned (closeV c.close) ∧ Below w.heap.size w w' := by
  obtain ⟨q, hq⟩ : ∃ q, q = c.close := ⟨_, rfl⟩
  rw [← hq]
  unfold Cur.close at hq
  obtain ⟨fv, hb, hf⟩ := h.blk
  obtain ⟨A, cp, rfl, hc1, hc2⟩ := hf.shape
  have hgl := h.lt
  have HFO := Lib.hid fun b hF => (h.foot b hF).1
  have hcur0 := h.below ((Below.refl w.heap.size w).alloc (Nat.le_refl _) (Obj.cells #[.int .i64 0, .int .i64 0, .int .i64 0] 41))
  have hb0 : Blk (w.alloc (Obj.cells #[.int .i64 0, .int .i64 0, .int .i64 0] 41)) g 101 (curCells c (.slice A c.fields.length cp)) := hb.alloc _
  have c0 : (w.alloc (Obj.cells #[.int .i64 0, .int .i64 0, .int .i64 0] 41)).cell? ⟨g, 0, none⟩ = some (.int .i64 c.num) := hb0.cell 0
  have c1 : (w.alloc (Obj.cells #[.int .i64 0, .int .i64 0, .int .i64 0] 41)).cell? ⟨g, 1, none⟩ = some (.slice A c.fields.length cp) := hb0.cell 1
  have c2 : (w.alloc (Obj.cells #[.int .i64 0, .int .i64 0, .int .i64 0] 41)).cell? ⟨g, 2, none⟩ = some (.int .i64 c.next) := hb0.cell 2
  have c4 : (w.alloc (Obj.cells #[.int .i64 0, .int .i64 0, .int .i64 0] 41)).cell? ⟨g, 4, none⟩ = some (.int .i64 c.err) := hb0.cell 4
  have c5 : (w.alloc (Obj.cells #[.int .i64 0, .int .i64 0, .int .i64 0] 41)).cell? ⟨g, 5, none⟩ = some (.int .i64 c.pos) := hb0.cell 5
  have HC0 := Lib.hid hcur0
  have HB0 := Lib.hid hb0
  have HF := Lib.hid hf
  have hok : c.next ≤ c.fields.length := h.ok
  clear hcur0 hb0 hf hb h
  by_cases he : c.err = 0
  · have e0 : (c.err != 0) = false := by rw [he]; rfl
    rw [if_neg (fun h => h he)] at hq
    have HE := Lib.hid he
    have HQ := Lib.hid hq
    clear he hq
    by_cases hlt : c.next < c.fields.length
    · have hm : c.more = true := by unfold Cur.more; rw [decide_eq_true HE.out, decide_eq_true hlt]; rfl
      have HM := Lib.hid hm
      clear hm
      obtain ⟨b, o, cs, rfl, hF, hcl, hcc, hel⟩ := HF.out.at hlt
      obtain ⟨⟨ft, fc, fq⟩, hfe⟩ : ∃ f, f = c.fields[c.next] := ⟨_, rfl⟩
      have HQ' := HQ.out
      rw [List.getElem?_eq_getElem hlt, ← hfe] at HQ'
      rw [← hfe] at hel
      have hel' : cs = [.string (S ft), .int .i64 fc, .bool fq] := hel
      subst hel'
      have y1 : (w.alloc (Obj.cells #[.int .i64 0, .int .i64 0, .int .i64 0] 41)).cell? ⟨b, o + c.next * 3 + 1, none⟩ = some (.int .i64 fc) := (World.cell?_alloc_lt w _ ⟨b, o + c.next * 3 + 1, none⟩ (by have := (HFO.out b hF); exact this)).trans (hcc 1 _ rfl)
      have HQF := Lib.hid HQ'
      clear hfe HQ' HQ hcc hel hcl
      go_enter Tryz.func27, Tryz.ntmps27
      go_wp2_with (go_at_call 64; refine (cur_More c F g _ HC0.out).mono ?_; rintro e w2 ⟨rfl, n, rfl⟩; rw [HM.out])
      go_region
      go_wp2
      refine bodyPost_ret (v := .tuple #[.agg #[.int .i64 c.num, .int .i64 fc, .int .i64 4], .bool true]) (by simp [results, Tryz.results27, go_sem]) rfl ⟨?_, ?_⟩
      · rw [HQF.out]; rfl
      · (repeat (first | exact Below.refl _ _ | refine Below.setCell ?_ (by simp) _ | refine Below.drewN_ ?_ _ | refine Below.drew ?_ | refine Below.alloc ?_ (by simp) _))
    · have hm : c.more = false := by unfold Cur.more; rw [decide_eq_false hlt, Bool.and_false]
      have HM := Lib.hid hm
      clear hm
      go_enter Tryz.func27, Tryz.ntmps27
      go_wp2_with (go_at_call 64; refine (cur_More c F g _ HC0.out).mono ?_; rintro e w2 ⟨rfl, n, rfl⟩; rw [HM.out])
      refine bodyPost_ret (v := .tuple #[.agg #[.int .i64 0, .int .i64 0, .int .i64 0], .bool false]) (by simp [results, Tryz.results27, go_sem]) rfl ⟨?_, ?_⟩
      · have := HQ.out
        rw [List.getElem?_eq_none (by omega)] at this
        rw [this]; rfl
      · (repeat (first | exact Below.refl _ _ | refine Below.setCell ?_ (by simp) _ | refine Below.drewN_ ?_ _ | refine Below.drew ?_ | refine Below.alloc ?_ (by simp) _))
  · have e0 : (c.err != 0) = true := by rw [bne_iff_ne]; exact he
    rw [if_pos he] at hq
    have HQ := Lib.hid hq
    clear hq he
    go_enter Tryz.func27, Tryz.ntmps27
    go_wp2
    go_region
    go_wp2
    refine bodyPost_ret (v := .tuple #[.agg #[.int .i64 c.num, .int .i64 c.pos, .int .i64 c.err], .bool true]) (by simp [results, Tryz.results27, go_sem]) rfl ⟨?_, ?_⟩
    · rw [HQ.out]; rfl
    · exact (((Below.refl _ _).alloc (Nat.le_refl _) _).drew)
end
end Go.Proofs.YtglkejlimeakbaaGreatDoor
