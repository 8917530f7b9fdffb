/-
  ChaseNeeds: for every input the law returns true and its arguments read as they did: the row, and the card tied to the program's text. No further conditions.
-/
import Derived.Test.YtcbkpjiaipabbaaGreatDoorP63
import Derived.Test.YtcbkpjiaipabbaaGreatDoorJ9
import Derived.Test.YtcbkpjiaipabbaaGreatDoorJ14
import Derived.Deep.RegionHeld3
import Derived.Test.YtcbkpjiaipabbaaGreatDoorH3
import Derived.DeepKeys5
import Derived.Maps.OwnSet
import Derived.Test.YtcbkpjiaipabbaaGreatDoorH11
import Derived.Test.YtcbkpjiaipabbaaGreatDoorW6
import Derived.Test.YtcbkpjiaipabbaaGreatDoorJ0
set_option linter.unusedSimpArgs false
set_option linter.unusedVariables false
namespace Go.Proofs.YtcbkpjiaipabbaaGreatDoor

structure Chs where
  mdl : Mdl
  bows : List Int
  over : Int
  done : Int
  need : Int
  ord : List Int
structure Cst where
  ball : Int
  need : Int
  str : Int
  par : Int
  nxt : Int
def noCst : Cst := ⟨0, 0, 0, 0, 0⟩
def plansF (n : Int) : List Int → Int
  | [] => 0
  | b :: l => if b < 0 ∨ n ≤ b then 1 else plansF n l
def ordF (n : Int) : List Int → List Int → Int
  | _, [] => 0
  | pre, b :: l => if b < 0 ∨ n ≤ b then 1 else if b ∈ pre then 7 else ordF n (pre ++ [b]) l
def rangeC (c : Chs) : Bool := decide (c.over < 4) || decide (8 < c.over) || decide (c.done < 0) || decide (c.over ≤ c.done) || decide (c.need < 1) || decide (84 < c.need)
def checkC (c : Chs) : Int :=
  if checkM c.mdl ≠ 0 then checkM c.mdl
  else if c.bows.length = 0 then 6
  else if 12 < c.bows.length then 9
  else if plansF c.mdl.bows.length c.bows ≠ 0 then plansF c.mdl.bows.length c.bows
  else if rangeC c = true then 2
  else if c.ord.length < 2 ∨ 11 < c.ord.length then 9
  else ordF c.mdl.bats.length [] c.ord
def startC (c : Chs) : Cst × Int := if checkC c ≠ 0 then (noCst, checkC c) else (⟨0, c.need, 0, 1, 2⟩, 0)
def outC (c : Chs) (s : Cst) : Bool := !(inC s.ball 0 c.bows.length) || !(inC s.need 0 c.need) || !(inC s.nxt 2 c.ord.length) || !(inC s.str (-1) (s.nxt - 1)) || !(inC s.par 0 (s.nxt - 1))
where inC (n lo hi : Int) : Bool := decide (lo ≤ n) && decide (n ≤ hi)
def stateC (c : Chs) (s : Cst) : Int :=
  if outC c s = true then 2 else if s.str = s.par ∨ (s.str = -1 ∧ s.nxt < c.ord.length) then 1 else 0
def chstC (c : Chs) (s : Cst) : Int := if checkC c ≠ 0 then checkC c else stateC c s
def stC (c : Chs) (s : Cst) : Int := if s.need = 0 then 2 else if s.str < 0 ∨ s.ball = c.bows.length then 3 else 1
def statusC (c : Chs) (s : Cst) : Int := if chstC c s ≠ 0 then 0 else stC c s
/-- The outcomes of the next ball of a running state. -/
def mvC (c : Chs) (s : Cst) : List Otc := match c.ord[s.str.toNat]?, c.bows[s.ball.toNat]? with
  | some i, some j => match c.mdl.bats[i.toNat]?, c.mdl.bows[j.toNat]? with
    | some b, some w => (shiftS b.dist w.shift).1
    | _, _ => []
  | _, _ => []
def movesC (c : Chs) (s : Cst) : List Otc × Int := if chstC c s ≠ 0 then ([], chstC c s) else if stC c s ≠ 1 then ([], 11) else (mvC c s, 0)
def swapC (c : Chs) (ball : Int) (o : Otc) : Bool := decide (o.runs % 2 = 1) != decide ((c.done + ball) % c.over = 0)
def stepC (c : Chs) (s : Cst) (o : Otc) : Cst :=
  if o.wick = true then
    if s.nxt = c.ord.length then ⟨s.ball + 1, max (s.need - o.runs) 0, -1, s.par, s.nxt⟩
    else if swapC c (s.ball + 1) o = true then ⟨s.ball + 1, max (s.need - o.runs) 0, s.par, s.nxt, s.nxt + 1⟩ else ⟨s.ball + 1, max (s.need - o.runs) 0, s.nxt, s.par, s.nxt + 1⟩
  else if swapC c (s.ball + 1) o = true then ⟨s.ball + 1, max (s.need - o.runs) 0, s.par, s.str, s.nxt⟩ else ⟨s.ball + 1, max (s.need - o.runs) 0, s.str, s.par, s.nxt⟩
def pow16 : Nat → Int
  | 0 => 1
  | n + 1 => 16 * pow16 n
/-- The value of a state with n balls to come. -/
def chF (c : Chs) : Nat → Cst → Int
  | 0, s => if s.need = 0 then 1 else 0
  | n + 1, s => if s.need = 0 then pow16 (n + 1) else if s.str < 0 then 0 else sumI ((mvC c s).map fun o => o.wt * chF c n (stepC c s o))
def leftC (c : Chs) (s : Cst) : Nat := (c.bows.length - s.ball).toNat
def valS (c : Chs) (s : Cst) : Int := chF c (leftC c s) s
def valueC (c : Chs) (s : Cst) : Int × Int := if chstC c s ≠ 0 then (0, chstC c s) else (valS c s, 0)
theorem plansF_ok {n : Int} : ∀ {l : List Int}, plansF n l = 0 → ∀ b ∈ l, 0 ≤ b ∧ b < n
  | [], _, b, hb => by cases hb
  | a :: l, h, b, hb => by
    rw [plansF] at h
    by_cases h1 : a < 0 ∨ n ≤ a
    · rw [if_pos h1] at h; cases h
    · rw [if_neg h1] at h
      rcases List.mem_cons.1 hb with rfl | hb
      · exact ⟨by omega, by omega⟩
      · exact plansF_ok h b hb
theorem ordF_ok {n : Int} : ∀ {l pre : List Int}, ordF n pre l = 0 → ∀ b ∈ l, 0 ≤ b ∧ b < n
  | [], _, _, b, hb => by cases hb
  | a :: l, pre, h, b, hb => by
    rw [ordF] at h
    by_cases h1 : a < 0 ∨ n ≤ a
    · rw [if_pos h1] at h; cases h
    · rw [if_neg h1] at h
      by_cases h2 : a ∈ pre
      · rw [if_pos h2] at h; cases h
      · rw [if_neg h2] at h
        rcases List.mem_cons.1 hb with rfl | hb
        · exact ⟨by omega, by omega⟩
        · exact ordF_ok h b hb
structure OkC (c : Chs) : Prop where
  mdl : OkM c.mdl
  chk : checkM c.mdl = 0
  nb : 1 ≤ c.bows.length ∧ c.bows.length ≤ 12
  bow : ∀ b ∈ c.bows, 0 ≤ b ∧ b < c.mdl.bows.length
  over : 4 ≤ c.over ∧ c.over ≤ 8
  done : 0 ≤ c.done ∧ c.done < c.over
  need : 1 ≤ c.need ∧ c.need ≤ 84
  no : 2 ≤ c.ord.length ∧ c.ord.length ≤ 11
  ord : ∀ b ∈ c.ord, 0 ≤ b ∧ b < c.mdl.bats.length
theorem checkC_ok {c : Chs} (h : checkC c = 0) : OkC c := by
  unfold checkC at h
  by_cases h1 : checkM c.mdl ≠ 0
  · rw [if_pos h1] at h; exact absurd h h1
  rw [if_neg h1] at h
  by_cases h2 : c.bows.length = 0
  · rw [if_pos h2] at h; cases h
  rw [if_neg h2] at h
  by_cases h3 : 12 < c.bows.length
  · rw [if_pos h3] at h; cases h
  rw [if_neg h3] at h
  by_cases h4 : plansF c.mdl.bows.length c.bows ≠ 0
  · rw [if_pos h4] at h; exact absurd h h4
  rw [if_neg h4] at h
  by_cases h5 : rangeC c = true
  · rw [if_pos h5] at h; cases h
  rw [if_neg h5] at h
  by_cases h6 : c.ord.length < 2 ∨ 11 < c.ord.length
  · rw [if_pos h6] at h; cases h
  rw [if_neg h6] at h
  unfold rangeC at h5
  simp only [Bool.or_eq_true, decide_eq_true_eq, not_or] at h5
  have h1' : checkM c.mdl = 0 := by omega
  exact ⟨checkM_ok h1', h1', by omega, plansF_ok (by omega), by omega, by omega, by omega, by omega, ordF_ok h⟩
structure OkS (c : Chs) (s : Cst) : Prop where
  ball : 0 ≤ s.ball ∧ s.ball ≤ c.bows.length
  need : 0 ≤ s.need ∧ s.need ≤ c.need
  nxt : 2 ≤ s.nxt ∧ s.nxt ≤ c.ord.length
  str : -1 ≤ s.str ∧ s.str < s.nxt
  par : 0 ≤ s.par ∧ s.par < s.nxt
  ne : s.str ≠ s.par
  last : s.str = -1 → s.nxt = c.ord.length
theorem outC_no {c : Chs} {s : Cst} (h : outC c s = false) : (0 ≤ s.ball ∧ s.ball ≤ c.bows.length) ∧ (0 ≤ s.need ∧ s.need ≤ c.need) ∧ (2 ≤ s.nxt ∧ s.nxt ≤ c.ord.length) ∧ (-1 ≤ s.str ∧ s.str < s.nxt) ∧ (0 ≤ s.par ∧ s.par < s.nxt) := by
  unfold outC outC.inC at h
  simp only [Bool.or_eq_false_iff, Bool.not_eq_false', Bool.and_eq_true, decide_eq_true_eq] at h
  omega
theorem outC_yes {c : Chs} {s : Cst} (h : (0 ≤ s.ball ∧ s.ball ≤ c.bows.length) ∧ (0 ≤ s.need ∧ s.need ≤ c.need) ∧ (2 ≤ s.nxt ∧ s.nxt ≤ c.ord.length) ∧ (-1 ≤ s.str ∧ s.str < s.nxt) ∧ (0 ≤ s.par ∧ s.par < s.nxt)) : outC c s = false := by
  unfold outC outC.inC
  simp only [Bool.or_eq_false_iff, Bool.not_eq_false', Bool.and_eq_true, decide_eq_true_eq]
  omega
theorem stateC_ok {c : Chs} {s : Cst} : stateC c s = 0 ↔ OkS c s := by
  unfold stateC
  constructor
  · intro h
    by_cases h1 : outC c s = true
    · rw [if_pos h1] at h; cases h
    rw [if_neg h1] at h
    obtain ⟨a1, a2, a3, a4, a5⟩ := outC_no (by simpa using h1)
    by_cases h2 : s.str = s.par ∨ (s.str = -1 ∧ s.nxt < c.ord.length)
    · rw [if_pos h2] at h; cases h
    exact ⟨a1, a2, a3, a4, a5, fun e => h2 (.inl e), fun e => by
      rcases Classical.em (s.nxt < c.ord.length) with h3 | h3
      · exact absurd (.inr ⟨e, h3⟩) h2
      · omega⟩
  · intro h
    have h1 : outC c s = false := outC_yes ⟨h.ball, h.need, h.nxt, h.str, h.par⟩
    rw [if_neg (by simp [h1]), if_neg]
    rintro (h2 | ⟨h2, h3⟩)
    · exact h.ne h2
    · have := h.last h2; omega
/-- The outcomes of a running state are a distribution. -/
theorem mvC_at {c : Chs} {s : Cst} (h : OkC c) (hs : OkS c s) (h1 : stC c s = 1) : ∃ (i j : Int) (b : Bat) (w : Bow), c.ord[s.str.toNat]? = some i ∧ c.bows[s.ball.toNat]? = some j ∧ 0 ≤ s.str ∧ s.ball < c.bows.length ∧ 0 ≤ i ∧ i < c.mdl.bats.length ∧ 0 ≤ j ∧ j < c.mdl.bows.length ∧ c.mdl.bats[i.toNat]? = some b ∧ c.mdl.bows[j.toNat]? = some w ∧ shiftS b.dist w.shift = (mvC c s, 0) ∧ checkD (mvC c s) = 0 := by
  unfold stC at h1
  by_cases g1 : s.need = 0
  · rw [if_pos g1] at h1; cases h1
  rw [if_neg g1] at h1
  by_cases g2 : s.str < 0 ∨ s.ball = c.bows.length
  · rw [if_pos g2] at h1; cases h1
  have k1 := hs.ball; have k2 := hs.str; have k3 := hs.nxt
  have e1 : s.str.toNat < c.ord.length := by omega
  have e2 : s.ball.toNat < c.bows.length := by omega
  have b1 := h.ord _ (List.getElem_mem e1)
  have b2 := h.bow _ (List.getElem_mem e2)
  have e3 : c.ord[s.str.toNat].toNat < c.mdl.bats.length := by omega
  have e4 : c.bows[s.ball.toNat].toNat < c.mdl.bows.length := by omega
  have q1 := (h.mdl.bat _ (List.getElem_mem e3)).2
  have q2 := (h.mdl.bow _ (List.getElem_mem e4)).2
  have hsh := shift_ok q1 q2.1 q2.2
  have hm : mvC c s = (shiftS c.mdl.bats[c.ord[s.str.toNat].toNat].dist c.mdl.bows[c.bows[s.ball.toNat].toNat].shift).1 := by
    unfold mvC
    rw [List.getElem?_eq_getElem e1, List.getElem?_eq_getElem e2]
    dsimp only
    rw [List.getElem?_eq_getElem e3, List.getElem?_eq_getElem e4]
  refine ⟨_, _, _, _, List.getElem?_eq_getElem e1, List.getElem?_eq_getElem e2, by omega, by omega, b1.1, b1.2, b2.1, b2.2, List.getElem?_eq_getElem e3, List.getElem?_eq_getElem e4, ?_, ?_⟩
  · rw [hm, hsh]
  · rw [hm]; exact (shift_check (by rw [hsh])).1
theorem stepC_ok {c : Chs} {s : Cst} (h : OkC c) (hs : OkS c s) (h1 : stC c s = 1) {o : Otc} (ho : 0 ≤ o.runs) : OkS c (stepC c s o) ∧ (stepC c s o).ball = s.ball + 1 ∧ (stepC c s o).need = max (s.need - o.runs) 0 := by
  obtain ⟨i, j, b, w, _, _, k1, k2, _⟩ := mvC_at h hs h1
  have a1 := hs.ball; have a2 := hs.need; have a3 := hs.nxt; have a4 := hs.str; have a5 := hs.par; have a6 := hs.ne
  have o1 := ho
  have h0 : 0 ≤ max (s.need - o.runs) 0 ∧ max (s.need - o.runs) 0 ≤ c.need := by omega
  unfold stepC
  by_cases hw : o.wick = true
  · rw [if_pos hw]
    by_cases hn : s.nxt = c.ord.length
    · rw [if_pos hn]
      exact ⟨⟨by dsimp only; omega, h0, by dsimp only; omega, by dsimp only; omega, by dsimp only; omega, by dsimp only; omega, fun _ => hn⟩, rfl, rfl⟩
    · rw [if_neg hn]
      by_cases hx : swapC c (s.ball + 1) o = true
      · rw [if_pos hx]
        exact ⟨⟨by dsimp only; omega, h0, by dsimp only; omega, by dsimp only; omega, by dsimp only; omega, by dsimp only; omega, fun e => by dsimp only at e; omega⟩, rfl, rfl⟩
      · rw [if_neg hx]
        exact ⟨⟨by dsimp only; omega, h0, by dsimp only; omega, by dsimp only; omega, by dsimp only; omega, by dsimp only; omega, fun e => by dsimp only at e; omega⟩, rfl, rfl⟩
  · rw [if_neg hw]
    by_cases hx : swapC c (s.ball + 1) o = true
    · rw [if_pos hx]
      exact ⟨⟨by dsimp only; omega, h0, by dsimp only; omega, by dsimp only; omega, by dsimp only; omega, by dsimp only; omega, fun e => by dsimp only at e; omega⟩, rfl, rfl⟩
    · rw [if_neg hx]
      exact ⟨⟨by dsimp only; omega, h0, by dsimp only; omega, by dsimp only; omega, by dsimp only; omega, by dsimp only; omega, fun e => by dsimp only at e; omega⟩, rfl, rfl⟩
theorem sumI_le {α : Type} {f g : α → Int} : ∀ {l : List α}, (∀ x ∈ l, f x ≤ g x) → sumI (l.map f) ≤ sumI (l.map g)
  | [], _ => Int.le_refl _
  | x :: l, h => by
    have h1 := h x (by simp)
    have h2 := sumI_le (l := l) fun y hy => h y (by simp [hy])
    rw [List.map_cons, List.map_cons, sumI_cons, sumI_cons]; omega
theorem sumI_mul {α : Type} (f : α → Int) (k : Int) : ∀ l : List α, sumI (l.map fun x => f x * k) = sumI (l.map f) * k
  | [] => by rw [List.map_nil, List.map_nil, sumI_nil, Int.zero_mul]
  | x :: l => by rw [List.map_cons, List.map_cons, sumI_cons, sumI_cons, sumI_mul f k l, Int.add_mul]
theorem pow16_pos : ∀ n, 1 ≤ pow16 n
  | 0 => Int.le_refl _
  | n + 1 => by have := pow16_pos n; rw [pow16]; omega
theorem pow16_unit : ∀ n, pow16 n = unitV n
  | 0 => rfl
  | n + 1 => by rw [pow16, pow16_unit n, unitV_add, unitV_one, Int.mul_comm]
/-- Values lie from 0 to 16 to the power of the balls to come; fewer runs wanted never give less. -/
theorem chF_law {c : Chs} (h : OkC c) : ∀ (n : Nat) (s t : Cst), OkS c s → OkS c t → (c.bows.length : Int) - s.ball = n → t.ball = s.ball → t.str = s.str → t.par = s.par → t.nxt = s.nxt → t.need ≤ s.need →
    0 ≤ chF c n s ∧ chF c n s ≤ pow16 n ∧ chF c n s ≤ chF c n t
  | 0, s, t, hs, ht, hn, e1, e2, e3, e4, e5 => by
    rw [chF, chF, pow16]
    have := ht.need.1
    by_cases h1 : s.need = 0
    · rw [if_pos h1, if_pos (by omega)]; omega
    · rw [if_neg h1]; split <;> omega
  | n + 1, s, t, hs, ht, hn, e1, e2, e3, e4, e5 => by
    have hp := pow16_pos (n + 1)
    have bound : ∀ x : Cst, OkS c x → (c.bows.length : Int) - x.ball = ((n + 1 : Nat) : Int) → 0 ≤ chF c (n + 1) x ∧ chF c (n + 1) x ≤ pow16 (n + 1) := fun x hx hxn => by
      rw [chF]
      by_cases h1 : x.need = 0
      · rw [if_pos h1]; omega
      rw [if_neg h1]
      by_cases h2 : x.str < 0
      · rw [if_pos h2]; omega
      rw [if_neg h2]
      have hst : stC c x = 1 := by unfold stC; rw [if_neg h1, if_neg (by omega)]
      obtain ⟨_, _, _, _, _, _, _, _, _, _, _, _, _, _, _, hd⟩ := mvC_at h hx hst
      have hok := checkD_ok hd
      have hv : ∀ o ∈ mvC c x, 0 ≤ chF c n (stepC c x o) ∧ chF c n (stepC c x o) ≤ pow16 n := fun o ho => by
        obtain ⟨k1, k2, _⟩ := stepC_ok h hx hst (hok.each o ho).r0
        have := chF_law h n (stepC c x o) (stepC c x o) k1 k1 (by rw [k2]; push_cast at hxn; omega) rfl rfl rfl rfl (Int.le_refl _)
        exact ⟨this.1, this.2.1⟩
      constructor
      · have := sumI_le (f := fun _ => 0) (g := fun o => o.wt * chF c n (stepC c x o)) (l := mvC c x) fun o ho => Int.mul_nonneg (by have := (hok.each o ho).w1; omega) (hv o ho).1
        have e0 : sumI ((mvC c x).map fun _ => (0 : Int)) = 0 := by
          generalize mvC c x = l
          induction l with
          | nil => rfl
          | cons a l ih => rw [List.map_cons, sumI_cons, ih]; rfl
        omega
      · have := sumI_le (f := fun o => o.wt * chF c n (stepC c x o)) (g := fun o => o.wt * pow16 n) (l := mvC c x) fun o ho => Int.mul_le_mul_of_nonneg_left (hv o ho).2 (by have := (hok.each o ho).w1; omega)
        rw [sumI_mul (fun o : Otc => o.wt) (pow16 n), hok.sum] at this
        rw [pow16]; exact this
    refine ⟨(bound s hs hn).1, (bound s hs hn).2, ?_⟩
    have htn : (c.bows.length : Int) - t.ball = ((n + 1 : Nat) : Int) := by omega
    by_cases h1 : t.need = 0
    · have e : chF c (n + 1) t = pow16 (n + 1) := by rw [chF, if_pos h1]
      rw [e]; exact (bound s hs hn).2
    · have g1 : s.need ≠ 0 := by have := ht.need.1; omega
      rw [chF, chF, if_neg h1, if_neg g1]
      by_cases h2 : s.str < 0
      · rw [if_pos h2, if_pos (by omega)]; exact Int.le_refl _
      rw [if_neg h2, if_neg (by omega)]
      have hst : stC c s = 1 := by unfold stC; rw [if_neg g1, if_neg (by omega)]
      have htt : stC c t = 1 := by unfold stC; rw [if_neg h1, if_neg (by omega)]
      obtain ⟨_, _, _, _, _, _, _, _, _, _, _, _, _, _, _, hd⟩ := mvC_at h hs hst
      have hok := checkD_ok hd
      have em : mvC c t = mvC c s := by unfold mvC; rw [e1, e2]
      rw [em]
      refine sumI_le fun o ho => Int.mul_le_mul_of_nonneg_left ?_ (by have := (hok.each o ho).w1; omega)
      obtain ⟨k1, k2, k3⟩ := stepC_ok h hs hst (hok.each o ho).r0
      obtain ⟨l1, l2, l3⟩ := stepC_ok h ht htt (hok.each o ho).r0
      have same : (stepC c t o).str = (stepC c s o).str ∧ (stepC c t o).par = (stepC c s o).par ∧ (stepC c t o).nxt = (stepC c s o).nxt := by
        unfold stepC
        rw [e1, e4]
        split
        · split
          · exact ⟨rfl, e3, rfl⟩
          · split
            · exact ⟨e3, rfl, rfl⟩
            · exact ⟨rfl, e3, rfl⟩
        · split
          · exact ⟨e3, e2, rfl⟩
          · exact ⟨e2, e3, rfl⟩
      exact (chF_law h n (stepC c s o) (stepC c t o) k1 l1 (by rw [k2]; push_cast at hn; omega) (by rw [l2, k2, e1]) same.1 same.2.1 same.2.2 (by rw [l3, k3]; omega)).2.2
end Go.Proofs.YtcbkpjiaipabbaaGreatDoor

namespace Go.Proofs.YtcbkpjiaipabbaaGreatDoor

/-- What is left of a check: behind the model and the number of balls; behind the bowlers; the order from k on. -/
def tailC (c : Chs) : Int := if rangeC c = true then 2 else if c.ord.length < 2 ∨ 11 < c.ord.length then 9 else ordF c.mdl.bats.length [] c.ord
def restP (c : Chs) (k : Nat) : Int := if plansF c.mdl.bows.length (c.bows.drop k) ≠ 0 then plansF c.mdl.bows.length (c.bows.drop k) else tailC c
def restO (c : Chs) (k : Nat) : Int := ordF c.mdl.bats.length (c.ord.take k) (c.ord.drop k)
theorem checkC_rest {c : Chs} (h1 : checkM c.mdl = 0) (h2 : c.bows.length ≠ 0) (h3 : ¬ 12 < c.bows.length) : checkC c = restP c 0 := by
  unfold checkC restP tailC
  rw [if_neg (by omega), if_neg h2, if_neg h3]; rfl
theorem restP_at {c : Chs} {k : Nat} (hk : k < c.bows.length) : restP c k = if c.bows[k] < 0 ∨ (c.mdl.bows.length : Int) ≤ c.bows[k] then 1 else restP c (k + 1) := by
  unfold restP
  rw [List.drop_eq_getElem_cons hk, plansF]
  by_cases h : c.bows[k] < 0 ∨ (c.mdl.bows.length : Int) ≤ c.bows[k]
  · rw [if_pos h, if_pos h]; rfl
  · rw [if_neg h, if_neg h]
theorem restP_end {c : Chs} : restP c c.bows.length = tailC c := by
  unfold restP
  rw [List.drop_of_length_le (Nat.le_refl _), plansF, if_neg (by simp)]
theorem tailC_rest {c : Chs} (h1 : rangeC c = false) (h2 : ¬ (c.ord.length < 2 ∨ 11 < c.ord.length)) : tailC c = restO c 0 := by
  unfold tailC restO
  rw [if_neg (by simp [h1]), if_neg h2]; simp
theorem restO_at {c : Chs} {k : Nat} (hk : k < c.ord.length) : restO c k = if c.ord[k] < 0 ∨ (c.mdl.bats.length : Int) ≤ c.ord[k] then 1 else if c.ord[k] ∈ c.ord.take k then 7 else restO c (k + 1) := by
  unfold restO
  rw [List.drop_eq_getElem_cons hk, ordF, show c.ord.take (k + 1) = c.ord.take k ++ [c.ord[k]] by rw [List.take_add_one, List.getElem?_eq_getElem hk]; rfl]
theorem restO_end {c : Chs} : restO c c.ord.length = 0 := by
  unfold restO
  rw [List.drop_of_length_le (Nat.le_refl _), ordF]
/-- The ways through the ranges of a chase. -/
theorem rangeC_ways (c : Chs) : (rangeC c = true ∧ (c.over < 4 ∨ (¬ c.over < 4 ∧ 8 < c.over) ∨ (¬ c.over < 4 ∧ ¬ 8 < c.over ∧ c.done < 0) ∨ (¬ c.over < 4 ∧ ¬ 8 < c.over ∧ ¬ c.done < 0 ∧ c.over ≤ c.done) ∨ (¬ c.over < 4 ∧ ¬ 8 < c.over ∧ ¬ c.done < 0 ∧ ¬ c.over ≤ c.done ∧ c.need < 1) ∨ (¬ c.over < 4 ∧ ¬ 8 < c.over ∧ ¬ c.done < 0 ∧ ¬ c.over ≤ c.done ∧ ¬ c.need < 1 ∧ 84 < c.need))) ∨
    (rangeC c = false ∧ ¬ c.over < 4 ∧ ¬ 8 < c.over ∧ ¬ c.done < 0 ∧ ¬ c.over ≤ c.done ∧ ¬ c.need < 1 ∧ ¬ 84 < c.need) := by
  unfold rangeC
  by_cases h1 : c.over < 4
  · exact .inl ⟨by simp [h1], .inl h1⟩
  by_cases h2 : 8 < c.over
  · exact .inl ⟨by simp [h2], .inr (.inl ⟨h1, h2⟩)⟩
  by_cases h3 : c.done < 0
  · exact .inl ⟨by simp [h3], .inr (.inr (.inl ⟨h1, h2, h3⟩))⟩
  by_cases h4 : c.over ≤ c.done
  · exact .inl ⟨by simp [h4], .inr (.inr (.inr (.inl ⟨h1, h2, h3, h4⟩)))⟩
  by_cases h5 : c.need < 1
  · exact .inl ⟨by simp [h5], .inr (.inr (.inr (.inr (.inl ⟨h1, h2, h3, h4, h5⟩))))⟩
  by_cases h6 : 84 < c.need
  · exact .inl ⟨by simp [h6], .inr (.inr (.inr (.inr (.inr ⟨h1, h2, h3, h4, h5, h6⟩))))⟩
  exact .inr ⟨by simp [h1, h2, h3, h4, h5, h6], h1, h2, h3, h4, h5, h6⟩
/-- A state stepped, where it may be. -/
def hitC (c : Chs) (s : Cst) (o : Otc) : Bool := (mvC c s).any fun x => (x.runs == o.runs) && (x.wick == o.wick)
def stepSC (c : Chs) (s : Cst) (o : Otc) : Cst × Int := if (movesC c s).2 ≠ 0 then (noCst, (movesC c s).2) else if hitC c s o = true then (stepC c s o, 0) else (noCst, 6)
theorem movesC_ok {c : Chs} {s : Cst} (h : (movesC c s).2 = 0) : OkC c ∧ OkS c s ∧ stC c s = 1 ∧ (movesC c s).1 = mvC c s := by
  unfold movesC at h ⊢
  by_cases h1 : chstC c s ≠ 0
  · rw [if_pos h1] at h; exact absurd h h1
  rw [if_neg h1] at h ⊢
  by_cases h2 : stC c s ≠ 1
  · rw [if_pos h2] at h; cases h
  rw [if_neg h2]
  have h3 : chstC c s = 0 := by omega
  unfold chstC at h3
  by_cases h4 : checkC c ≠ 0
  · rw [if_pos h4] at h3; exact absurd h3 h4
  rw [if_neg h4] at h3
  exact ⟨checkC_ok (by omega), stateC_ok.1 h3, by omega, rfl⟩
theorem chst_ok {c : Chs} {s : Cst} (h : chstC c s = 0) : checkC c = 0 ∧ OkC c ∧ OkS c s := by
  unfold chstC at h
  by_cases h4 : checkC c ≠ 0
  · rw [if_pos h4] at h; exact absurd h h4
  rw [if_neg h4] at h
  exact ⟨by omega, checkC_ok (by omega), stateC_ok.1 h⟩
theorem chst_of {c : Chs} {s : Cst} (h1 : checkC c = 0) (h2 : OkS c s) : chstC c s = 0 := by
  unfold chstC; rw [if_neg (by omega)]; exact stateC_ok.2 h2
theorem hit_mem {c : Chs} {s : Cst} {o : Otc} (h : hitC c s o = true) : ∃ x ∈ mvC c s, x.runs = o.runs ∧ x.wick = o.wick := by
  obtain ⟨x, hx, h2⟩ := List.any_eq_true.1 h
  rw [Bool.and_eq_true, beq_iff_eq, beq_iff_eq] at h2
  exact ⟨x, hx, h2⟩
theorem hit_of {c : Chs} {s : Cst} {o : Otc} (h : o ∈ mvC c s) : hitC c s o = true := List.any_eq_true.2 ⟨o, h, by simp⟩
/-- Where a step is taken its state is valid. -/
theorem stepSC_ok {c : Chs} {s : Cst} {o : Otc} (h : (stepSC c s o).2 = 0) : chstC c (stepSC c s o).1 = 0 := by
  unfold stepSC at h ⊢
  by_cases h1 : (movesC c s).2 ≠ 0
  · rw [if_pos h1] at h; exact absurd h h1
  rw [if_neg h1] at h ⊢
  by_cases h2 : hitC c s o = true
  · rw [if_pos h2]
    obtain ⟨k1, k2, k3, _⟩ := movesC_ok (c := c) (s := s) (by omega)
    obtain ⟨x, hx, e1, _⟩ := hit_mem h2
    obtain ⟨_, _, _, _, _, _, _, _, _, _, _, _, _, _, _, hd⟩ := mvC_at k1 k2 k3
    have h3 := ((checkD_ok hd).each x hx).r0
    have hc : checkC c = 0 := by
      have : chstC c s = 0 := by
        unfold movesC at h1
        by_cases h4 : chstC c s ≠ 0
        · rw [if_pos h4] at h1; exact absurd h4 (by simpa using h1)
        · omega
      exact (chst_ok this).1
    exact chst_of hc (stepC_ok k1 k2 k3 (by omega)).1
  · rw [if_neg h2] at h; cases h
theorem stC_bd (c : Chs) (s : Cst) : 1 ≤ stC c s ∧ stC c s ≤ 3 := by unfold stC; split; omega; split <;> omega
/-- The value of a state, by its status. -/
theorem valS_won {c : Chs} {s : Cst} (h : stC c s = 2) : valS c s = pow16 (leftC c s) := by
  have hn : s.need = 0 := by
    unfold stC at h
    by_cases h1 : s.need = 0
    · exact h1
    · rw [if_neg h1] at h; split at h <;> cases h
  unfold valS
  cases leftC c s with
  | zero => rw [chF, if_pos hn]; rfl
  | succ n => rw [chF, if_pos hn]
theorem valS_lost {c : Chs} {s : Cst} (hs : OkS c s) (h : stC c s = 3) : valS c s = 0 := by
  unfold stC at h
  by_cases h1 : s.need = 0
  · rw [if_pos h1] at h; cases h
  rw [if_neg h1] at h
  by_cases h2 : s.str < 0 ∨ s.ball = c.bows.length
  · unfold valS
    cases hl : leftC c s with
    | zero => rw [chF, if_neg h1]
    | succ n =>
      rw [chF, if_neg h1]
      rcases h2 with h2 | h2
      · rw [if_pos h2]
      · unfold leftC at hl; omega
  · rw [if_neg h2] at h; cases h
theorem left_run {c : Chs} {s : Cst} (hs : OkS c s) (h : stC c s = 1) : s.need ≠ 0 ∧ ¬ s.str < 0 ∧ ∃ n, leftC c s = n + 1 ∧ (c.bows.length : Int) - s.ball = ((n + 1 : Nat) : Int) := by
  unfold stC at h
  by_cases h1 : s.need = 0
  · rw [if_pos h1] at h; cases h
  rw [if_neg h1] at h
  by_cases h2 : s.str < 0 ∨ s.ball = c.bows.length
  · rw [if_pos h2] at h; cases h
  have := hs.ball
  exact ⟨h1, by omega, (c.bows.length - s.ball).toNat - 1, by unfold leftC; omega, by omega⟩
theorem valS_run {c : Chs} {s : Cst} (hc : OkC c) (hs : OkS c s) (h : stC c s = 1) : valS c s = sumI ((mvC c s).map fun o => o.wt * valS c (stepC c s o)) := by
  obtain ⟨h1, h2, n, hn, hn2⟩ := left_run hs h
  obtain ⟨_, _, _, _, _, _, _, _, _, _, _, _, _, _, _, hd⟩ := mvC_at hc hs h
  have hok := checkD_ok hd
  have e : valS c s = chF c (n + 1) s := by unfold valS; rw [hn]
  rw [e, chF, if_neg h1, if_neg h2]
  congr 1
  refine List.map_congr_left fun o ho => ?_
  obtain ⟨_, k2, _⟩ := stepC_ok hc hs h (hok.each o ho).r0
  unfold valS leftC
  rw [k2, show ((c.bows.length : Int) - (s.ball + 1)).toNat = n by push_cast at hn2; omega]
theorem left_step {c : Chs} {s : Cst} {o : Otc} (hc : OkC c) (hs : OkS c s) (h : stC c s = 1) (ho : 0 ≤ o.runs) : leftC c s = leftC c (stepC c s o) + 1 := by
  obtain ⟨h1, h2, n, hn, hn2⟩ := left_run hs h
  obtain ⟨_, k2, _⟩ := stepC_ok hc hs h ho
  unfold leftC at hn ⊢
  rw [k2]; push_cast at hn2; omega
theorem left_le {c : Chs} {s : Cst} (hc : OkC c) (hs : OkS c s) : leftC c s ≤ 12 := by
  have := hc.nb; have := hs.ball
  unfold leftC; omega
theorem valS_bd {c : Chs} {s : Cst} (hc : OkC c) (hs : OkS c s) : 0 ≤ valS c s ∧ valS c s ≤ pow16 (leftC c s) := by
  have := hs.ball
  have := chF_law hc (leftC c s) s s hs hs (by unfold leftC; omega) rfl rfl rfl rfl (Int.le_refl _)
  exact ⟨this.1, this.2.1⟩
theorem valS_need {c : Chs} {s t : Cst} (hc : OkC c) (hs : OkS c s) (ht : OkS c t) (e1 : t.ball = s.ball) (e2 : t.str = s.str) (e3 : t.par = s.par) (e4 : t.nxt = s.nxt) (e5 : t.need ≤ s.need) : valS c s ≤ valS c t := by
  have := hs.ball
  have h := chF_law hc (leftC c s) s t hs ht (by unfold leftC; omega) e1 e2 e3 e4 e5
  have e : leftC c t = leftC c s := by unfold leftC; rw [e1]
  unfold valS; rw [e]; exact h.2.2
theorem pow16_le {n : Nat} (h : n ≤ 12) : 1 ≤ pow16 n ∧ pow16 n ≤ 281474976710656 := by rw [pow16_unit]; exact unitV_le h
/-- Sums of the first k products. -/
theorem sum_take {α : Type} (f : α → Int) {l : List α} {k : Nat} (hk : k < l.length) : sumI ((l.take (k + 1)).map f) = sumI ((l.take k).map f) + f l[k] := by
  rw [List.take_add_one, List.getElem?_eq_getElem hk, List.map_append, sumI_app]
  show _ = _
  simp [sumI_cons, sumI_nil]
end Go.Proofs.YtcbkpjiaipabbaaGreatDoor

namespace Go.Proofs.YtcbkpjiaipabbaaGreatDoor
open Go.RowKit

/-- A chase that lies: its four slices. -/
structure ChAt (w : World) (F : Nat → Prop) (bv wv pv ov : Value) (c : Chs) : Prop where
  mdl : MdlAt w F bv wv c.mdl
  bow : Sl 1 elInt w F pv c.bows
  ord : Sl 1 elInt w F ov c.ord
def chC (c : Chs) (bv wv pv ov : Value) : Array Value := #[bv, wv, pv, .int .i64 c.over, .int .i64 c.done, .int .i64 c.need, ov]
def chV (c : Chs) (bv wv pv ov : Value) : Value := .agg #[bv, wv, pv, .int .i64 c.over, .int .i64 c.done, .int .i64 c.need, ov]
def stV (s : Cst) : Value := .agg #[.int .i64 s.ball, .int .i64 s.need, .int .i64 s.str, .int .i64 s.par, .int .i64 s.nxt]
theorem ChAt.keep {w w' : World} {F G : Nat → Prop} {bv wv pv ov : Value} {c : Chs} (h : ChAt w F bv wv pv ov c) (hs : Same F w w') (hG : ∀ b, F b → G b) : ChAt w' G bv wv pv ov c := ⟨h.mdl.keep hs hG, h.bow.keep elInt_good hs hG, h.ord.keep elInt_good hs hG⟩
theorem ChAt.below {w w' : World} {bv wv pv ov : Value} {c : Chs} (h : ChAt w (· < w.heap.size) bv wv pv ov c) (hb : Below w.heap.size w w') : ChAt w' (· < w'.heap.size) bv wv pv ov c :=
  h.keep (Same.of_below hb) fun b h => Nat.lt_of_lt_of_le h hb.size
/-- A chase boxed in block g. -/
structure ChB (w W : World) (g : Nat) (c : Chs) (bv wv pv ov : Value) : Prop where
  bel : Below w.heap.size w W
  box : Blk W g 28 #[bv, wv, pv, .int .i64 c.over, .int .i64 c.done, .int .i64 c.need, ov]
theorem ChB.below {w W W' : World} {g : Nat} {c : Chs} {bv wv pv ov : Value} (h : ChB w W g c bv wv pv ov) (hb : Below W.heap.size W W') : ChB w W' g c bv wv pv ov := ⟨h.bel.trans (hb.mono h.bel.size), h.box.below hb h.box.lt⟩
theorem ChB.drew {w W : World} {g : Nat} {c : Chs} {bv wv pv ov : Value} (h : ChB w W g c bv wv pv ov) : ChB w W.drew g c bv wv pv ov := ⟨Below.drew h.bel, h.box.drew⟩
theorem ChB.alloc {w W : World} {g : Nat} {c : Chs} {bv wv pv ov : Value} (h : ChB w W g c bv wv pv ov) (o : Obj) : ChB w (W.alloc o) g c bv wv pv ov := ⟨h.bel.alloc h.bel.size _, h.box.alloc _⟩
theorem ChB.cells {w W : World} {g : Nat} {c : Chs} {bv wv pv ov : Value} (h : ChB w W g c bv wv pv ov) : W.cell? ⟨g, 0, none⟩ = some bv ∧ W.cell? ⟨g, 1, none⟩ = some wv ∧ W.cell? ⟨g, 2, none⟩ = some pv ∧ W.cell? ⟨g, 3, none⟩ = some (.int .i64 c.over) ∧ W.cell? ⟨g, 4, none⟩ = some (.int .i64 c.done) ∧ W.cell? ⟨g, 5, none⟩ = some (.int .i64 c.need) ∧ W.cell? ⟨g, 6, none⟩ = some ov :=
  ⟨h.box.cell 0, h.box.cell 1, h.box.cell 2, h.box.cell 3, h.box.cell 4, h.box.cell 5, h.box.cell 6⟩
theorem ChB.new (w : World) (c : Chs) (bv wv pv ov : Value) : ChB w (w.alloc (.cells #[bv, wv, pv, .int .i64 c.over, .int .i64 c.done, .int .i64 c.need, ov] 28)) w.heap.size c bv wv pv ov := ⟨Below.alloc (Below.refl _ _) (Nat.le_refl _) _, Blk.new _ _ _⟩
/-- The place of a number in a list, -1 where it is not. -/
def idxI (x : Int) : List Int → Nat → Int
  | [], _ => -1
  | a :: l, k => if a = x then (k : Int) else idxI x l (k + 1)
theorem idxI_mem (x : Int) : ∀ (l : List Int) (k : Nat), -1 ≤ idxI x l k ∧ (decide (0 ≤ idxI x l k) = decide (x ∈ l))
  | [], k => ⟨by simp [idxI], by simp [idxI]⟩
  | a :: l, k => by
    rw [idxI]
    by_cases h : a = x
    · rw [if_pos h]; exact ⟨by omega, by simp [h]⟩
    · rw [if_neg h]
      have := idxI_mem x l (k + 1)
      refine ⟨this.1, ?_⟩
      rw [this.2]
      have hx : (x ∈ a :: l) = (x ∈ l) := by rw [List.mem_cons]; exact propext ⟨fun k => k.elim (fun e => absurd e.symm h) id, .inr⟩
      simp only [hx]
set_option maxRecDepth 100000 in
set_option maxHeartbeats 2000000 in
theorem int_Index (l : List Int) (v : Value) (x : Int) (F : Nat → Prop) (w : World) (h : Sl 1 elInt w F v l) (hF : ∀ b, F b → b < w.heap.size) :
    Calls Tryz.prog 56 #[v, .int .i64 x] w fun e w' => e = .returned (.int .i64 (idxI x l 0)) ∧ Below w.heap.size w w' := by
  obtain ⟨z, hz⟩ : ∃ z, z = idxI x l 0 := ⟨_, rfl⟩
  rw [← hz]
  obtain ⟨A, c, rfl, hc, hc2⟩ := h.shape
  have HZ : Hid (z = idxI x (l.drop 0) 0) := hz
  have HL := Lib.hid h
  have HB := Lib.hid (Below.refl w.heap.size w)
  have HF := Lib.hid hF
  clear hz h hF
  go_enter Tryz.func56, Tryz.ntmps56
  go_wp2
  go_loopw [8] (fun i wr => ∃ k : Nat, k ≤ l.length ∧ i = .int .i64 k ∧ Below w.heap.size w wr ∧ Hid (z = idxI x (l.drop k) k)) (fun i _ => l.length - (intOf i).toNat)
  case atStart => exact ⟨0, Nat.zero_le _, rfl, HB.out, HZ⟩
  case round =>
    obtain ⟨k, hk, rfl, hb, hzz⟩ := hrel
    have HBB := Lib.hid hb
    by_cases hlt : k < l.length
    · obtain ⟨b0, o, rfl, hbl, yy0⟩ := int_at HL.out hlt
      have y0 := (hb.cell (p := ⟨b0, o + k, none⟩) (HF.out _ hbl)).trans yy0
      have hz2 := hzz.out
      rw [drop_get hlt, idxI] at hz2
      obtain ⟨p, hp⟩ : ∃ p, p = l[k] := ⟨_, rfl⟩
      rw [← hp] at hz2 y0
      clear hb hzz hp yy0
      by_cases hin : p = x
      · rw [if_pos hin] at hz2
        have e1 : (x == p) = true := beq_iff_eq.2 hin.symm
        have e2 : (p == x) = true := beq_iff_eq.2 hin
        have HZZ := Lib.hid hz2
        clear hz2 hin
        go_wp2
        go_ret
        exact ⟨ret_i HZZ.out.symm, HBB.out⟩
      · rw [if_neg hin] at hz2
        have e1 : (x == p) = false := beq_eq_false_iff_ne.2 (fun e => hin e.symm)
        have e2 : (p == x) = false := beq_eq_false_iff_ne.2 hin
        have HZZ := Lib.hid hz2
        clear hz2 hin
        go_wp2
        go_roundw
        case rel => exact ⟨k + 1, by omega, by go_num, HBB.out, HZZ⟩
        case measure => simp [intOf]; omega
    · obtain rfl : k = l.length := by omega
      have hz2 := hzz.out
      rw [List.drop_of_length_le (Nat.le_refl _), idxI] at hz2
      have HZZ := Lib.hid hz2
      clear hb hzz hz2
      go_wp2
      go_ret
      exact ⟨ret_i HZZ.out.symm, HBB.out⟩
set_option maxRecDepth 100000 in
theorem int_Contains (l : List Int) (v : Value) (x : Int) (F : Nat → Prop) (w : World) (h : Sl 1 elInt w F v l) (hF : ∀ b, F b → b < w.heap.size) :
    Calls Tryz.prog 35 #[v, .int .i64 x] w fun e w' => e = .returned (.bool (decide (x ∈ l))) ∧ Below w.heap.size w w' := by
  have hk := int_Index l v x F w h hF
  have hm := idxI_mem x l 0
  obtain ⟨i, hi⟩ : ∃ i, i = idxI x l 0 := ⟨_, rfl⟩
  rw [← hi] at hk hm
  have HM := Lib.hid hm.2
  have HK := Lib.hid hk
  obtain ⟨A, c, rfl, hc, hc2⟩ := h.shape
  clear hk hm hi h hF
  go_enter Tryz.func35, Tryz.ntmps35
  go_wp2_with (go_at_call 56; refine HK.out.mono ?_; rintro e w2 ⟨rfl, hb2⟩)
  go_ret
  exact ⟨ret_b HM.out, hb2⟩
end Go.Proofs.YtcbkpjiaipabbaaGreatDoor

namespace Go.Proofs.YtcbkpjiaipabbaaGreatDoor
open Go.RowKit

set_option maxRecDepth 100000 in
set_option maxHeartbeats 4000000 in
theorem ch44_Check (c : Chs) (bv wv pv ov : Value) (w : World) (h : ChAt w (· < w.heap.size) bv wv pv ov c) :
    Calls Tryz.prog 18 #[chV c bv wv pv ov] w fun e w' => e = .returned (.int .i64 (checkC c)) ∧ Below w.heap.size w w' := by
  unfold chV
  obtain ⟨z, hz⟩ : ∃ z, z = checkC c := ⟨_, rfl⟩
  rw [← hz]
  obtain ⟨A, ca, rfl, hc, hc2⟩ := h.mdl.bat.shape
  obtain ⟨A1, ca1, rfl, hc1, hc12⟩ := h.mdl.bow.shape
  obtain ⟨A2, ca2, rfl, hc3, hc32⟩ := h.bow.shape
  obtain ⟨A3, ca3, rfl, hc4, hc42⟩ := h.ord.shape
  have hx := ChB.new w c (.slice A c.mdl.bats.length ca) (.slice A1 c.mdl.bows.length ca1) (.slice A2 c.bows.length ca2) (.slice A3 c.ord.length ca3)
  have km := m_Check c.mdl _ _ _ (h.mdl.below hx.bel)
  have HM := Lib.hid h
  have HX := Lib.hid hx
  have hres := fun h1 h2 h3 => hz.trans (checkC_rest (c := c) h1 h2 h3)
  have hbad : checkM c.mdl ≠ 0 → z = checkM c.mdl := fun h => by rw [hz]; unfold checkC; rw [if_pos h]
  have hno : checkM c.mdl = 0 → c.bows.length = 0 → z = 6 := fun h h2 => by rw [hz]; unfold checkC; rw [if_neg (by omega), if_pos h2]
  have hmany : checkM c.mdl = 0 → c.bows.length ≠ 0 → 12 < c.bows.length → z = 9 := fun h h2 h3 => by rw [hz]; unfold checkC; rw [if_neg (by omega), if_neg h2, if_pos h3]
  obtain ⟨u, hu⟩ : ∃ u, u = checkM c.mdl := ⟨_, rfl⟩
  rw [← hu] at km hres hbad hno hmany
  clear hz h hx hu
  by_cases h0 : u = 0
  case neg =>
    have HZ := Lib.hid (hbad h0)
    have eu : (u != 0) = true := by simp [h0]
    have KM := Lib.hid km
    clear km hres hbad hno hmany h0
    go_enter Tryz.func18, Tryz.ntmps18
    go_wp2_with (go_at_call 34; refine KM.out.mono ?_; rintro e w2 ⟨rfl, hb2⟩; have HX2 := Lib.hid (HX.out.below hb2); obtain ⟨x0, x1, x2, x3, x4, x5, x6⟩ := HX2.out.cells; clear hb2)
    go_ret
    exact ⟨ret_i HZ.out.symm, HX2.out.bel⟩
  subst h0
  have KM := Lib.hid km
  clear km hbad
  by_cases h1 : c.bows.length = 0
  · have HZ := Lib.hid (hno rfl h1)
    have e1 : ((c.bows.length : Int) == 0) = true := beq_iff_eq.2 (by omega)
    have h1' := Lib.hid h1
    clear hres hno hmany h1
    go_enter Tryz.func18, Tryz.ntmps18
    go_wp2_with (go_at_call 34; refine KM.out.mono ?_; rintro e w2 ⟨rfl, hb2⟩; have HX2 := Lib.hid (HX.out.below hb2); obtain ⟨x0, x1, x2, x3, x4, x5, x6⟩ := HX2.out.cells; clear hb2)
    go_ret
    exact ⟨ret_i HZ.out.symm, HX2.out.bel⟩
  have e1 : ((c.bows.length : Int) == 0) = false := beq_eq_false_iff_ne.2 (by omega)
  by_cases h2 : 12 < c.bows.length
  · have HZ := Lib.hid (hmany rfl h1 h2)
    have e2 : (12 : Int) < (c.bows.length : Int) := by omega
    clear hres hno hmany h1 h2
    go_enter Tryz.func18, Tryz.ntmps18
    go_wp2_with (go_at_call 34; refine KM.out.mono ?_; rintro e w2 ⟨rfl, hb2⟩; have HX2 := Lib.hid (HX.out.below hb2); obtain ⟨x0, x1, x2, x3, x4, x5, x6⟩ := HX2.out.cells; clear hb2)
    go_ret
    exact ⟨ret_i HZ.out.symm, HX2.out.bel⟩
  have HZ0 := Lib.hid (hres rfl h1 h2)
  have e2 : ¬ (12 : Int) < (c.bows.length : Int) := by omega
  clear hres hno hmany h1 h2
  go_enter Tryz.func18, Tryz.ntmps18
  go_wp2_with (go_at_call 34; refine KM.out.mono ?_; rintro e w2 ⟨rfl, hb2⟩; have HX2 := Lib.hid (HX.out.below hb2); obtain ⟨x0, x1, x2, x3, x4, x5, x6⟩ := HX2.out.cells; clear hb2)
  go_loopw [27] (fun i wr => ∃ k : Nat, k ≤ c.bows.length ∧ i = .int .i64 k ∧ Hid (ChB w wr w.heap.size c (.slice A c.mdl.bats.length ca) (.slice A1 c.mdl.bows.length ca1) (.slice A2 c.bows.length ca2) (.slice A3 c.ord.length ca3)) ∧ Hid (z = restP c k)) (fun i _ => c.bows.length - (intOf i).toNat)
  case atStart => exact ⟨0, Nat.zero_le _, rfl, HX2, HZ0⟩
  case round =>
    clear HX2 HZ0 x0 x1 x2 x3 x4 x5 x6
    obtain ⟨k, hk, rfl, HW, hzz⟩ := hrel
    obtain ⟨x0, x1, x2, x3, x4, x5, x6⟩ := HW.out.cells
    by_cases hlt : k < c.bows.length
    · obtain ⟨b0, o, rfl, hbl, yy0⟩ := int_at HM.out.bow hlt
      have y0 := (HW.out.bel.cell (p := ⟨b0, o + k, none⟩) hbl).trans yy0
      have hz2 := hzz.out
      rw [restP_at hlt] at hz2
      obtain ⟨p, hp⟩ : ∃ p, p = c.bows[k] := ⟨_, rfl⟩
      rw [← hp] at hz2 y0
      clear hzz hp yy0
      by_cases g1 : p < 0
      · rw [if_pos (.inl g1)] at hz2
        have HZZ := Lib.hid hz2
        clear hz2
        go_wp2
        go_ret
        exact ⟨ret_i HZZ.out.symm, HW.out.bel⟩
      · by_cases g2 : (c.mdl.bows.length : Int) ≤ p
        · rw [if_pos (.inr g2)] at hz2
          have HZZ := Lib.hid hz2
          clear hz2
          go_wp2
          go_ret
          exact ⟨ret_i HZZ.out.symm, HW.out.bel⟩
        · rw [if_neg (by omega)] at hz2
          have HZZ := Lib.hid hz2
          clear hz2
          go_wp2
          go_roundw
          case rel => exact ⟨k + 1, by omega, by go_num, HW, HZZ⟩
          case measure => simp [intOf]; omega
    · obtain rfl : k = c.bows.length := by omega
      have hz2 := hzz.out
      rw [restP_end] at hz2
      have ht2 : rangeC c = true → z = 2 := fun h => by rw [hz2]; unfold tailC; rw [if_pos h]
      have ht9 : rangeC c = false → (c.ord.length < 2 ∨ 11 < c.ord.length) → z = 9 := fun h h2 => by rw [hz2]; unfold tailC; rw [if_neg (by simp [h]), if_pos h2]
      have htr : rangeC c = false → ¬ (c.ord.length < 2 ∨ 11 < c.ord.length) → z = restO c 0 := fun h h2 => hz2.trans (tailC_rest h h2)
      have hw := rangeC_ways c
      obtain ⟨over, hov⟩ : ∃ x, x = c.over := ⟨_, rfl⟩
      obtain ⟨done, hdo⟩ : ∃ x, x = c.done := ⟨_, rfl⟩
      obtain ⟨need, hne⟩ : ∃ x, x = c.need := ⟨_, rfl⟩
      rw [← hov, ← hdo, ← hne] at hw
      rw [← hov] at x3
      rw [← hdo] at x4
      rw [← hne] at x5
      clear hzz hz2 hov hdo hne
      rcases hw with ⟨hr, hw⟩ | ⟨hr, g1, g2, g3, g4, g5, g6⟩
      · have HZZ := Lib.hid (ht2 hr)
        clear ht2 ht9 htr hr
        rcases hw with g1 | ⟨g1, g2⟩ | ⟨g1, g2, g3⟩ | ⟨g1, g2, g3, g4⟩ | ⟨g1, g2, g3, g4, g5⟩ | ⟨g1, g2, g3, g4, g5, g6⟩
        all_goals go_wp2
        all_goals go_ret
        all_goals exact ⟨ret_i HZZ.out.symm, HW.out.bel⟩
      by_cases g7 : c.ord.length < 2
      · have HZZ := Lib.hid (ht9 hr (.inl g7))
        have g7' : (c.ord.length : Int) < 2 := by omega
        clear ht2 ht9 htr hr g7
        go_wp2
        go_ret
        exact ⟨ret_i HZZ.out.symm, HW.out.bel⟩
      by_cases g8 : 11 < c.ord.length
      · have HZZ := Lib.hid (ht9 hr (.inr g8))
        have g7' : ¬ (c.ord.length : Int) < 2 := by omega
        have g8' : (11 : Int) < (c.ord.length : Int) := by omega
        clear ht2 ht9 htr hr g7 g8
        go_wp2
        go_ret
        exact ⟨ret_i HZZ.out.symm, HW.out.bel⟩
      have HZ1 := Lib.hid (htr hr (by omega))
      have g7' : ¬ (c.ord.length : Int) < 2 := by omega
      have g8' : ¬ (11 : Int) < (c.ord.length : Int) := by omega
      have HW1 := HW
      clear ht2 ht9 htr hr g7 g8
      obtain ⟨wo, rfl⟩ : ∃ wo : World, wo = wr := ⟨_, rfl⟩
      go_wp2
      go_loopw [87] (fun i wr => ∃ k : Nat, k ≤ c.ord.length ∧ i = .int .i64 k ∧ Hid (ChB w wr w.heap.size c (.slice A c.mdl.bats.length ca) (.slice A1 c.mdl.bows.length ca1) (.slice A2 c.bows.length ca2) (.slice A3 c.ord.length ca3)) ∧ Hid (z = restO c k)) (fun i _ => c.ord.length - (intOf i).toNat)
      case atStart => exact ⟨0, Nat.zero_le _, rfl, HW1, HZ1⟩
      case round =>
        clear HW1 HZ1 HW x0 x1 x2 x3 x4 x5 x6
        obtain ⟨k, hk, rfl, HW, hzz⟩ := hrel
        obtain ⟨x0, x1, x2, x3, x4, x5, x6⟩ := HW.out.cells
        by_cases hlt : k < c.ord.length
        · obtain ⟨b0, o, rfl, hbl, yy0⟩ := int_at HM.out.ord hlt
          have y0 := (HW.out.bel.cell (p := ⟨b0, o + k, none⟩) hbl).trans yy0
          have hz2 := hzz.out
          rw [restO_at hlt] at hz2
          obtain ⟨p, hp⟩ : ∃ p, p = c.ord[k] := ⟨_, rfl⟩
          rw [← hp] at hz2 y0
          clear hzz hp yy0
          by_cases q1 : p < 0
          · rw [if_pos (.inl q1)] at hz2
            have HZZ := Lib.hid hz2
            clear hz2
            go_wp2
            go_ret
            exact ⟨ret_i HZZ.out.symm, HW.out.bel⟩
          by_cases q2 : (c.mdl.bats.length : Int) ≤ p
          · rw [if_pos (.inr q2)] at hz2
            have HZZ := Lib.hid hz2
            clear hz2
            go_wp2
            go_ret
            exact ⟨ret_i HZZ.out.symm, HW.out.bel⟩
          rw [if_neg (by omega)] at hz2
          have kc : ∀ W, Below w.heap.size w W → Calls Tryz.prog 35 #[.slice (some ⟨b0, o, none⟩) k ca3, .int .i64 p] W fun e W' => e = .returned (.bool (decide (p ∈ c.ord.take k))) ∧ Below W.heap.size W W' := fun W hW => by
            have ht := ((HM.out.below hW).ord.take (k := k) (by omega))
            have hl : (c.ord.take k).length = k := by rw [List.length_take]; omega
            exact int_Contains _ _ p _ W ht fun b h => h
          by_cases q3 : p ∈ c.ord.take k
          · rw [if_pos q3] at hz2
            rw [decide_eq_true q3] at kc
            have KC := Lib.hid kc
            have HZZ := Lib.hid hz2
            clear hz2 kc q3
            go_wp2_with (go_at_call 35; refine (KC.out _ HW.out.bel).mono ?_; rintro e w3 ⟨rfl, hb3⟩; have HX3 := Lib.hid (HW.out.below hb3); clear hb3)
            go_ret
            exact ⟨ret_i HZZ.out.symm, HX3.out.bel⟩
          · rw [if_neg q3] at hz2
            rw [decide_eq_false q3] at kc
            have KC := Lib.hid kc
            have HZZ := Lib.hid hz2
            clear hz2 kc q3
            go_wp2_with (go_at_call 35; refine (KC.out _ HW.out.bel).mono ?_; rintro e w3 ⟨rfl, hb3⟩; have HX3 := Lib.hid (HW.out.below hb3); clear hb3)
            go_roundw
            case rel => exact ⟨k + 1, by omega, by go_num, HX3, HZZ⟩
            case measure => simp [intOf]; omega
        · obtain rfl : k = c.ord.length := by omega
          have hz2 := hzz.out
          rw [restO_end] at hz2
          have HZ2 := Lib.hid hz2
          clear hzz hz2
          go_wp2
          go_ret
          exact ⟨ret_i HZ2.out.symm, HW.out.bel⟩
end Go.Proofs.YtcbkpjiaipabbaaGreatDoor

namespace Go.Proofs.YtcbkpjiaipabbaaGreatDoor
open Go.RowKit

set_option maxRecDepth 100000 in
set_option maxHeartbeats 4000000 in
theorem r44_Check (c : Chs) (bv wv pv ov : Value) (w : World) (h : ChAt w (· < w.heap.size) bv wv pv ov c) :
    Calls Tryz.prog 19 #[chV c bv wv pv ov] w fun e w' => e = .returned (.int .i64 (checkC c)) ∧ Below w.heap.size w w' := by
  unfold chV
  obtain ⟨z, hz⟩ : ∃ z, z = checkC c := ⟨_, rfl⟩
  rw [← hz]
  obtain ⟨A, ca, rfl, hc, hc2⟩ := h.mdl.bat.shape
  obtain ⟨A1, ca1, rfl, hc1, hc12⟩ := h.mdl.bow.shape
  obtain ⟨A2, ca2, rfl, hc3, hc32⟩ := h.bow.shape
  obtain ⟨A3, ca3, rfl, hc4, hc42⟩ := h.ord.shape
  have hx := ChB.new w c (.slice A c.mdl.bats.length ca) (.slice A1 c.mdl.bows.length ca1) (.slice A2 c.bows.length ca2) (.slice A3 c.ord.length ca3)
  have km := r_Check c.mdl _ _ _ (h.mdl.below hx.bel)
  have HM := Lib.hid h
  have HX := Lib.hid hx
  have hres := fun h1 h2 h3 => hz.trans (checkC_rest (c := c) h1 h2 h3)
  have hbad : checkM c.mdl ≠ 0 → z = checkM c.mdl := fun h => by rw [hz]; unfold checkC; rw [if_pos h]
  have hno : checkM c.mdl = 0 → c.bows.length = 0 → z = 6 := fun h h2 => by rw [hz]; unfold checkC; rw [if_neg (by omega), if_pos h2]
  have hmany : checkM c.mdl = 0 → c.bows.length ≠ 0 → 12 < c.bows.length → z = 9 := fun h h2 h3 => by rw [hz]; unfold checkC; rw [if_neg (by omega), if_neg h2, if_pos h3]
  obtain ⟨u, hu⟩ : ∃ u, u = checkM c.mdl := ⟨_, rfl⟩
  rw [← hu] at km hres hbad hno hmany
  clear hz h hx hu
  by_cases h0 : u = 0
  case neg =>
    have HZ := Lib.hid (hbad h0)
    have eu : (u != 0) = true := by simp [h0]
    have KM := Lib.hid km
    clear km hres hbad hno hmany h0
    go_enter Tryz.func19, Tryz.ntmps19
    go_wp2_with (go_at_call 36; refine KM.out.mono ?_; rintro e w2 ⟨rfl, hb2⟩; have HX2 := Lib.hid (HX.out.below hb2); obtain ⟨x0, x1, x2, x3, x4, x5, x6⟩ := HX2.out.cells; clear hb2)
    go_ret
    exact ⟨ret_i HZ.out.symm, HX2.out.bel⟩
  subst h0
  have KM := Lib.hid km
  clear km hbad
  by_cases h1 : c.bows.length = 0
  · have HZ := Lib.hid (hno rfl h1)
    have e1 : ((c.bows.length : Int) == 0) = true := beq_iff_eq.2 (by omega)
    have h1' := Lib.hid h1
    clear hres hno hmany h1
    go_enter Tryz.func19, Tryz.ntmps19
    go_wp2_with (go_at_call 36; refine KM.out.mono ?_; rintro e w2 ⟨rfl, hb2⟩; have HX2 := Lib.hid (HX.out.below hb2); obtain ⟨x0, x1, x2, x3, x4, x5, x6⟩ := HX2.out.cells; clear hb2)
    go_ret
    exact ⟨ret_i HZ.out.symm, HX2.out.bel⟩
  have e1 : ((c.bows.length : Int) == 0) = false := beq_eq_false_iff_ne.2 (by omega)
  by_cases h2 : 12 < c.bows.length
  · have HZ := Lib.hid (hmany rfl h1 h2)
    have e2 : (12 : Int) < (c.bows.length : Int) := by omega
    clear hres hno hmany h1 h2
    go_enter Tryz.func19, Tryz.ntmps19
    go_wp2_with (go_at_call 36; refine KM.out.mono ?_; rintro e w2 ⟨rfl, hb2⟩; have HX2 := Lib.hid (HX.out.below hb2); obtain ⟨x0, x1, x2, x3, x4, x5, x6⟩ := HX2.out.cells; clear hb2)
    go_ret
    exact ⟨ret_i HZ.out.symm, HX2.out.bel⟩
  have HZ0 := Lib.hid (hres rfl h1 h2)
  have e2 : ¬ (12 : Int) < (c.bows.length : Int) := by omega
  clear hres hno hmany h1 h2
  go_enter Tryz.func19, Tryz.ntmps19
  go_wp2_with (go_at_call 36; refine KM.out.mono ?_; rintro e w2 ⟨rfl, hb2⟩; have HX2 := Lib.hid (HX.out.below hb2); obtain ⟨x0, x1, x2, x3, x4, x5, x6⟩ := HX2.out.cells; clear hb2)
  go_loopw [27] (fun i wr => ∃ k : Nat, k ≤ c.bows.length ∧ i = .int .i64 k ∧ Hid (ChB w wr w.heap.size c (.slice A c.mdl.bats.length ca) (.slice A1 c.mdl.bows.length ca1) (.slice A2 c.bows.length ca2) (.slice A3 c.ord.length ca3)) ∧ Hid (z = restP c k)) (fun i _ => c.bows.length - (intOf i).toNat)
  case atStart => exact ⟨0, Nat.zero_le _, rfl, HX2, HZ0⟩
  case round =>
    clear HX2 HZ0 x0 x1 x2 x3 x4 x5 x6
    obtain ⟨k, hk, rfl, HW, hzz⟩ := hrel
    obtain ⟨x0, x1, x2, x3, x4, x5, x6⟩ := HW.out.cells
    by_cases hlt : k < c.bows.length
    · obtain ⟨b0, o, rfl, hbl, yy0⟩ := int_at HM.out.bow hlt
      have y0 := (HW.out.bel.cell (p := ⟨b0, o + k, none⟩) hbl).trans yy0
      have hz2 := hzz.out
      rw [restP_at hlt] at hz2
      obtain ⟨p, hp⟩ : ∃ p, p = c.bows[k] := ⟨_, rfl⟩
      rw [← hp] at hz2 y0
      clear hzz hp yy0
      by_cases g1 : p < 0
      · rw [if_pos (.inl g1)] at hz2
        have HZZ := Lib.hid hz2
        clear hz2
        go_wp2
        go_ret
        exact ⟨ret_i HZZ.out.symm, HW.out.bel⟩
      · by_cases g2 : (c.mdl.bows.length : Int) ≤ p
        · rw [if_pos (.inr g2)] at hz2
          have HZZ := Lib.hid hz2
          clear hz2
          go_wp2
          go_ret
          exact ⟨ret_i HZZ.out.symm, HW.out.bel⟩
        · rw [if_neg (by omega)] at hz2
          have HZZ := Lib.hid hz2
          clear hz2
          go_wp2
          go_roundw
          case rel => exact ⟨k + 1, by omega, by go_num, HW, HZZ⟩
          case measure => simp [intOf]; omega
    · obtain rfl : k = c.bows.length := by omega
      have hz2 := hzz.out
      rw [restP_end] at hz2
      have ht2 : rangeC c = true → z = 2 := fun h => by rw [hz2]; unfold tailC; rw [if_pos h]
      have ht9 : rangeC c = false → (c.ord.length < 2 ∨ 11 < c.ord.length) → z = 9 := fun h h2 => by rw [hz2]; unfold tailC; rw [if_neg (by simp [h]), if_pos h2]
      have htr : rangeC c = false → ¬ (c.ord.length < 2 ∨ 11 < c.ord.length) → z = restO c 0 := fun h h2 => hz2.trans (tailC_rest h h2)
      have hw := rangeC_ways c
      obtain ⟨over, hov⟩ : ∃ x, x = c.over := ⟨_, rfl⟩
      obtain ⟨done, hdo⟩ : ∃ x, x = c.done := ⟨_, rfl⟩
      obtain ⟨need, hne⟩ : ∃ x, x = c.need := ⟨_, rfl⟩
      rw [← hov, ← hdo, ← hne] at hw
      rw [← hov] at x3
      rw [← hdo] at x4
      rw [← hne] at x5
      clear hzz hz2 hov hdo hne
      rcases hw with ⟨hr, hw⟩ | ⟨hr, g1, g2, g3, g4, g5, g6⟩
      · have HZZ := Lib.hid (ht2 hr)
        clear ht2 ht9 htr hr
        rcases hw with g1 | ⟨g1, g2⟩ | ⟨g1, g2, g3⟩ | ⟨g1, g2, g3, g4⟩ | ⟨g1, g2, g3, g4, g5⟩ | ⟨g1, g2, g3, g4, g5, g6⟩
        all_goals go_wp2
        all_goals go_ret
        all_goals exact ⟨ret_i HZZ.out.symm, HW.out.bel⟩
      by_cases g7 : c.ord.length < 2
      · have HZZ := Lib.hid (ht9 hr (.inl g7))
        have g7' : (c.ord.length : Int) < 2 := by omega
        clear ht2 ht9 htr hr g7
        go_wp2
        go_ret
        exact ⟨ret_i HZZ.out.symm, HW.out.bel⟩
      by_cases g8 : 11 < c.ord.length
      · have HZZ := Lib.hid (ht9 hr (.inr g8))
        have g7' : ¬ (c.ord.length : Int) < 2 := by omega
        have g8' : (11 : Int) < (c.ord.length : Int) := by omega
        clear ht2 ht9 htr hr g7 g8
        go_wp2
        go_ret
        exact ⟨ret_i HZZ.out.symm, HW.out.bel⟩
      have HZ1 := Lib.hid (htr hr (by omega))
      have g7' : ¬ (c.ord.length : Int) < 2 := by omega
      have g8' : ¬ (11 : Int) < (c.ord.length : Int) := by omega
      have HW1 := HW
      clear ht2 ht9 htr hr g7 g8
      obtain ⟨wo, rfl⟩ : ∃ wo : World, wo = wr := ⟨_, rfl⟩
      go_wp2
      go_loopw [85] (fun i wr => ∃ k : Nat, k ≤ c.ord.length ∧ i = .int .i64 k ∧ Hid (ChB w wr w.heap.size c (.slice A c.mdl.bats.length ca) (.slice A1 c.mdl.bows.length ca1) (.slice A2 c.bows.length ca2) (.slice A3 c.ord.length ca3)) ∧ Hid (z = restO c k)) (fun i _ => c.ord.length - (intOf i).toNat)
      case atStart => exact ⟨0, Nat.zero_le _, rfl, HW1, HZ1⟩
      case round =>
        clear HW1 HZ1 HW x0 x1 x2 x3 x4 x5 x6
        obtain ⟨k, hk, rfl, HW, hzz⟩ := hrel
        obtain ⟨x0, x1, x2, x3, x4, x5, x6⟩ := HW.out.cells
        by_cases hlt : k < c.ord.length
        · obtain ⟨b0, o, rfl, hbl, yy0⟩ := int_at HM.out.ord hlt
          have y0 := (HW.out.bel.cell (p := ⟨b0, o + k, none⟩) hbl).trans yy0
          have hz2 := hzz.out
          rw [restO_at hlt] at hz2
          obtain ⟨p, hp⟩ : ∃ p, p = c.ord[k] := ⟨_, rfl⟩
          rw [← hp] at hz2 y0
          clear hzz hp yy0
          by_cases q1 : p < 0
          · rw [if_pos (.inl q1)] at hz2
            have HZZ := Lib.hid hz2
            clear hz2
            go_wp2
            go_ret
            exact ⟨ret_i HZZ.out.symm, HW.out.bel⟩
          by_cases q2 : (c.mdl.bats.length : Int) ≤ p
          · rw [if_pos (.inr q2)] at hz2
            have HZZ := Lib.hid hz2
            clear hz2
            go_wp2
            go_ret
            exact ⟨ret_i HZZ.out.symm, HW.out.bel⟩
          rw [if_neg (by omega)] at hz2
          have hl : (c.ord.take k).length = k := by rw [List.length_take]; omega
          obtain ⟨tl, htl⟩ : ∃ t, t = c.ord.take k := ⟨_, rfl⟩
          rw [← htl] at hz2 hl
          have HZ3 : Hid (z = if p ∈ tl.drop 0 then 7 else restO c (k + 1)) := by unfold Hid; rw [List.drop_zero]; exact hz2
          have HL := Lib.hid hl
          have HTL := Lib.hid htl
          have HW3 := HW
          clear hz2 htl hl
          obtain ⟨wo2, rfl⟩ : ∃ wo : World, wo = wr := ⟨_, rfl⟩
          go_wp2
          go_loopw [105] (fun i wr => ∃ j : Nat, j ≤ k ∧ i = .int .i64 j ∧ Hid (ChB w wr w.heap.size c (.slice A c.mdl.bats.length ca) (.slice A1 c.mdl.bows.length ca1) (.slice A2 c.bows.length ca2) (.slice (some ⟨b0, o, none⟩) c.ord.length ca3)) ∧ Hid (z = if p ∈ tl.drop j then 7 else restO c (k + 1))) (fun i _ => k - (intOf i).toNat)
          case atStart => exact ⟨0, Nat.zero_le _, rfl, HW3, HZ3⟩
          case round =>
            obtain ⟨j, hj, rfl, HWJ, hzj⟩ := hrel
            by_cases hjt : j < k
            · have hjl : j < tl.length := by rw [HL.out]; exact hjt
              have htj := (HM.out.below HWJ.out.bel).ord.take (k := k) (by omega)
              rw [← HTL.out] at htj
              obtain ⟨b1, o1, he1, _, yj⟩ := int_at htj (k := j) hjl
              obtain ⟨rfl, rfl⟩ : b1 = b0 ∧ o1 = o := by injection he1 with h; injection h with h1 h2; exact ⟨h1.symm, h2.symm⟩
              have hzj2 := hzj.out
              rw [drop_get hjl] at hzj2
              obtain ⟨q, hq⟩ : ∃ q, q = tl[j] := ⟨_, rfl⟩
              rw [← hq] at yj hzj2
              clear hzj hq htj he1
              by_cases hqp : q = p
              · rw [if_pos (by rw [hqp]; simp)] at hzj2
                have e1 : (q == p) = true := beq_iff_eq.2 hqp
                have e2 : (p == q) = true := beq_iff_eq.2 hqp.symm
                have HZZ := Lib.hid hzj2
                clear hzj2 hqp
                go_wp2
                go_ret
                exact ⟨ret_i HZZ.out.symm, HWJ.out.bel⟩
              · have hmm : (p ∈ q :: tl.drop (j + 1)) = (p ∈ tl.drop (j + 1)) := by rw [List.mem_cons]; exact propext ⟨fun k => k.elim (fun e => absurd e.symm hqp) id, .inr⟩
                simp only [hmm] at hzj2
                have e1 : (q == p) = false := beq_eq_false_iff_ne.2 hqp
                have e2 : (p == q) = false := beq_eq_false_iff_ne.2 (fun e => hqp e.symm)
                have HZZ := Lib.hid hzj2
                clear hzj2 hqp hmm
                go_wp2
                go_roundw
                case rel => exact ⟨j + 1, by omega, by go_num, HWJ, HZZ⟩
                case measure => simp [intOf]; omega
            · obtain rfl : j = k := by omega
              have hzj2 := hzj.out
              rw [List.drop_of_length_le (by rw [HL.out]; exact Nat.le_refl _), if_neg (by simp)] at hzj2
              have HZZ := Lib.hid hzj2
              clear hzj hzj2
              go_wp2
              go_roundw
              case rel => exact ⟨j + 1, by omega, by go_num, HWJ, HZZ⟩
              case measure => simp [intOf]; omega
        · obtain rfl : k = c.ord.length := by omega
          have hz2 := hzz.out
          rw [restO_end] at hz2
          have HZ2 := Lib.hid hz2
          clear hzz hz2
          go_wp2
          go_ret
          exact ⟨ret_i HZ2.out.symm, HW.out.bel⟩
end Go.Proofs.YtcbkpjiaipabbaaGreatDoor

namespace Go.Proofs.YtcbkpjiaipabbaaGreatDoor
open Go.RowKit

/-- A chase and a state boxed one behind the other. -/
structure CSB (w W : World) (g : Nat) (c : Chs) (bv wv pv ov : Value) (s : Cst) : Prop where
  bel : Below w.heap.size w W
  box : Blk W g 28 #[bv, wv, pv, .int .i64 c.over, .int .i64 c.done, .int .i64 c.need, ov]
  st : Blk W (g + 1) 30 #[.int .i64 s.ball, .int .i64 s.need, .int .i64 s.str, .int .i64 s.par, .int .i64 s.nxt]
section
variable {w W W' : World} {g : Nat} {c : Chs} {bv wv pv ov : Value} {s : Cst}
theorem CSB.below (h : CSB w W g c bv wv pv ov s) (hb : Below W.heap.size W W') : CSB w W' g c bv wv pv ov s := ⟨h.bel.trans (hb.mono h.bel.size), h.box.below hb h.box.lt, h.st.below hb h.st.lt⟩
theorem CSB.drew (h : CSB w W g c bv wv pv ov s) : CSB w W.drew g c bv wv pv ov s := ⟨Below.drew h.bel, h.box.drew, h.st.drew⟩
theorem CSB.cells (h : CSB w W g c bv wv pv ov s) : W.cell? ⟨g, 0, none⟩ = some bv ∧ W.cell? ⟨g, 1, none⟩ = some wv ∧ W.cell? ⟨g, 2, none⟩ = some pv ∧ W.cell? ⟨g, 3, none⟩ = some (.int .i64 c.over) ∧ W.cell? ⟨g, 4, none⟩ = some (.int .i64 c.done) ∧ W.cell? ⟨g, 5, none⟩ = some (.int .i64 c.need) ∧ W.cell? ⟨g, 6, none⟩ = some ov ∧
    W.cell? ⟨g + 1, 0, none⟩ = some (.int .i64 s.ball) ∧ W.cell? ⟨g + 1, 1, none⟩ = some (.int .i64 s.need) ∧ W.cell? ⟨g + 1, 2, none⟩ = some (.int .i64 s.str) ∧ W.cell? ⟨g + 1, 3, none⟩ = some (.int .i64 s.par) ∧ W.cell? ⟨g + 1, 4, none⟩ = some (.int .i64 s.nxt) :=
  ⟨h.box.cell 0, h.box.cell 1, h.box.cell 2, h.box.cell 3, h.box.cell 4, h.box.cell 5, h.box.cell 6, h.st.cell 0, h.st.cell 1, h.st.cell 2, h.st.cell 3, h.st.cell 4⟩
theorem CSB.new (w : World) (c : Chs) (bv wv pv ov : Value) (s : Cst) : CSB w ((w.alloc (.cells #[bv, wv, pv, .int .i64 c.over, .int .i64 c.done, .int .i64 c.need, ov] 28)).alloc (.cells #[.int .i64 s.ball, .int .i64 s.need, .int .i64 s.str, .int .i64 s.par, .int .i64 s.nxt] 30)) w.heap.size c bv wv pv ov s := by
  have h1 := ChB.new w c bv wv pv ov
  have h2 := Blk.new (w.alloc (.cells #[bv, wv, pv, .int .i64 c.over, .int .i64 c.done, .int .i64 c.need, ov] 28)) 30 #[.int .i64 s.ball, .int .i64 s.need, .int .i64 s.str, .int .i64 s.par, .int .i64 s.nxt]
  rw [World.size_alloc] at h2
  exact ⟨h1.bel.alloc h1.bel.size _, h1.box.alloc _, h2⟩
end
theorem stC_ways (c : Chs) (s : Cst) : (s.need = 0 ∧ stC c s = 2) ∨ (s.need ≠ 0 ∧ s.str < 0 ∧ stC c s = 3) ∨ (s.need ≠ 0 ∧ ¬ s.str < 0 ∧ s.ball = c.bows.length ∧ stC c s = 3) ∨ (s.need ≠ 0 ∧ ¬ s.str < 0 ∧ s.ball ≠ c.bows.length ∧ stC c s = 1) := by
  unfold stC
  by_cases h1 : s.need = 0
  · exact .inl ⟨h1, by rw [if_pos h1]⟩
  by_cases h2 : s.str < 0
  · exact .inr (.inl ⟨h1, h2, by rw [if_neg h1, if_pos (.inl h2)]⟩)
  by_cases h3 : s.ball = c.bows.length
  · exact .inr (.inr (.inl ⟨h1, h2, h3, by rw [if_neg h1, if_pos (.inr h3)]⟩))
  exact .inr (.inr (.inr ⟨h1, h2, h3, by rw [if_neg h1, if_neg (by omega)]⟩))
theorem ret_u8 {a b : Int} (h : a = b) : Ending.returned (.int .u8 a) = .returned (.int .u8 b) := by rw [h]
set_option maxRecDepth 100000 in
theorem ch_within (n lo hi : Int) (b : Bool) (hb : outC.inC n lo hi = b) (w : World) : Calls Tryz.prog 49 #[.int .i64 n, .int .i64 lo, .int .i64 hi] w fun e w' => e = .returned (.bool b) ∧ w' = w := by
  have HB := Lib.hid hb.symm
  unfold outC.inC at HB
  clear hb
  by_cases h1 : lo ≤ n
  · by_cases h2 : n ≤ hi
    · go_enter Tryz.func49, Tryz.ntmps49
      go_wp2
      go_ret
      exact ⟨ret_b (by rw [HB.out]; simp [h1, h2]), rfl⟩
    · go_enter Tryz.func49, Tryz.ntmps49
      go_wp2
      go_ret
      exact ⟨ret_b (by rw [HB.out]; simp [h1, h2]), rfl⟩
  · go_enter Tryz.func49, Tryz.ntmps49
    go_wp2
    go_ret
    exact ⟨ret_b (by rw [HB.out]; simp; omega), rfl⟩
set_option maxRecDepth 100000 in
set_option maxHeartbeats 4000000 in
theorem ch44_status (c : Chs) (s : Cst) (bv wv pv ov : Value) (w : World) (h : ChAt w (· < w.heap.size) bv wv pv ov c) (hs : OkS c s) :
    Calls Tryz.prog 30 #[chV c bv wv pv ov, stV s] w fun e w' => e = .returned (.int .u8 (stC c s)) ∧ Below w.heap.size w w' := by
  unfold chV stV
  obtain ⟨ball, need, str, par, nxt⟩ := s
  obtain ⟨A, ca, rfl, hc1, hc2⟩ := h.mdl.bat.shape
  obtain ⟨A1, ca1, rfl, hc3, hc4⟩ := h.mdl.bow.shape
  obtain ⟨A2, ca2, rfl, hc5, hc6⟩ := h.bow.shape
  obtain ⟨A3, ca3, rfl, hc7, hc8⟩ := h.ord.shape
  have hx := CSB.new w c (.slice A c.mdl.bats.length ca) (.slice A1 c.mdl.bows.length ca1) (.slice A2 c.bows.length ca2) (.slice A3 c.ord.length ca3) ⟨ball, need, str, par, nxt⟩
  have HX := Lib.hid hx
  have HM := Lib.hid h
  have hw := stC_ways c ⟨ball, need, str, par, nxt⟩
  have hm := hs.str.1
  obtain ⟨z, hz⟩ : ∃ z, z = stC c ⟨ball, need, str, par, nxt⟩ := ⟨_, rfl⟩
  rw [← hz] at hw ⊢
  dsimp only at hw hm
  clear hx h hs hz
  rcases hw with ⟨h1, hz⟩ | ⟨h1, h2, hz⟩ | ⟨h1, h2, h3, hz⟩ | ⟨h1, h2, h3, hz⟩
  · have e1 : (need == 0) = true := beq_iff_eq.2 h1
    have HZ := Lib.hid hz
    clear hz h1
    go_enter Tryz.func30, Tryz.ntmps30
    go_wp2
    go_ret
    exact ⟨ret_u8 HZ.out.symm, HX.out.bel⟩
  · have e1 : (need == 0) = false := beq_eq_false_iff_ne.2 h1
    have e2 : (str == -1) = true := beq_iff_eq.2 (by omega)
    have HZ := Lib.hid hz
    clear hz h1
    go_enter Tryz.func30, Tryz.ntmps30
    go_wp2
    go_ret
    exact ⟨ret_u8 HZ.out.symm, HX.out.bel⟩
  · have e1 : (need == 0) = false := beq_eq_false_iff_ne.2 h1
    have e2 : (str == -1) = false := beq_eq_false_iff_ne.2 (by omega)
    have e3 : (ball == (c.bows.length : Int)) = true := beq_iff_eq.2 h3
    have HZ := Lib.hid hz
    clear hz h1 h3
    go_enter Tryz.func30, Tryz.ntmps30
    go_wp2
    go_ret
    exact ⟨ret_u8 HZ.out.symm, HX.out.bel⟩
  · have e1 : (need == 0) = false := beq_eq_false_iff_ne.2 h1
    have e2 : (str == -1) = false := beq_eq_false_iff_ne.2 (by omega)
    have e3 : (ball == (c.bows.length : Int)) = false := beq_eq_false_iff_ne.2 h3
    have HZ := Lib.hid hz
    clear hz h1 h3
    go_enter Tryz.func30, Tryz.ntmps30
    go_wp2
    go_ret
    exact ⟨ret_u8 HZ.out.symm, HX.out.bel⟩
set_option maxRecDepth 100000 in
set_option maxHeartbeats 4000000 in
theorem ch44_checkState (c : Chs) (s : Cst) (bv wv pv ov : Value) (w : World) (h : ChAt w (· < w.heap.size) bv wv pv ov c) :
    Calls Tryz.prog 29 #[chV c bv wv pv ov, stV s] w fun e w' => e = .returned (.int .i64 (stateC c s)) ∧ Below w.heap.size w w' := by
  unfold chV stV
  obtain ⟨ball, need, str, par, nxt⟩ := s
  obtain ⟨A, ca, rfl, hc1, hc2⟩ := h.mdl.bat.shape
  obtain ⟨A1, ca1, rfl, hc3, hc4⟩ := h.mdl.bow.shape
  obtain ⟨A2, ca2, rfl, hc5, hc6⟩ := h.bow.shape
  obtain ⟨A3, ca3, rfl, hc7, hc8⟩ := h.ord.shape
  have hx := CSB.new w c (.slice A c.mdl.bats.length ca) (.slice A1 c.mdl.bows.length ca1) (.slice A2 c.bows.length ca2) (.slice A3 c.ord.length ca3) ⟨ball, need, str, par, nxt⟩
  have HX := Lib.hid hx
  have HM := Lib.hid h
  obtain ⟨z, hz⟩ : ∃ z, z = stateC c ⟨ball, need, str, par, nxt⟩ := ⟨_, rfl⟩
  rw [← hz]
  have hbad : outC c ⟨ball, need, str, par, nxt⟩ = true → z = 2 := fun h => by rw [hz]; unfold stateC; rw [if_pos h]
  have harg : outC c ⟨ball, need, str, par, nxt⟩ = false → (str = par ∨ (str = -1 ∧ nxt < c.ord.length)) → z = 1 := fun h h2 => by rw [hz]; unfold stateC; rw [if_neg (by simp [h]), if_pos h2]
  have hok : outC c ⟨ball, need, str, par, nxt⟩ = false → ¬ (str = par ∨ (str = -1 ∧ nxt < c.ord.length)) → z = 0 := fun h h2 => by rw [hz]; unfold stateC; rw [if_neg (by simp [h]), if_neg h2]
  clear hx h hz
  cases b0 : outC.inC ball 0 c.bows.length
  · have HZ := Lib.hid (hbad (by unfold outC; simp [b0]))
    clear hbad harg hok
    go_enter Tryz.func29, Tryz.ntmps29
    go_wp2_with (go_at_call 49; refine (ch_within _ _ _ _ (by first | exact b0 | exact b1 | exact b2 | exact b3 | exact b4) _).mono ?_; rintro e w2 ⟨rfl, rfl⟩)
    go_ret
    exact ⟨ret_i HZ.out.symm, HX.out.bel⟩
  cases b1 : outC.inC need 0 c.need
  · have HZ := Lib.hid (hbad (by unfold outC; simp [b0, b1]))
    clear hbad harg hok
    go_enter Tryz.func29, Tryz.ntmps29
    go_wp2_with (go_at_call 49; refine (ch_within _ _ _ _ (by first | exact b0 | exact b1 | exact b2 | exact b3 | exact b4) _).mono ?_; rintro e w2 ⟨rfl, rfl⟩)
    go_ret
    exact ⟨ret_i HZ.out.symm, HX.out.bel⟩
  cases b2 : outC.inC nxt 2 c.ord.length
  · have HZ := Lib.hid (hbad (by unfold outC; simp [b0, b1, b2]))
    clear hbad harg hok
    go_enter Tryz.func29, Tryz.ntmps29
    go_wp2_with (go_at_call 49; refine (ch_within _ _ _ _ (by first | exact b0 | exact b1 | exact b2 | exact b3 | exact b4) _).mono ?_; rintro e w2 ⟨rfl, rfl⟩)
    go_ret
    exact ⟨ret_i HZ.out.symm, HX.out.bel⟩
  have gn : 2 ≤ nxt ∧ nxt ≤ (c.ord.length : Int) := by have := b2; unfold outC.inC at this; simpa using this
  obtain ⟨gn1, gn2⟩ := gn
  cases b3 : outC.inC str (-1) (nxt - 1)
  · have HZ := Lib.hid (hbad (by unfold outC; simp [b0, b1, b2, b3]))
    clear hbad harg hok
    go_enter Tryz.func29, Tryz.ntmps29
    go_wp2_with (go_at_call 49; refine (ch_within _ _ _ _ (by first | exact b0 | exact b1 | exact b2 | exact b3 | exact b4) _).mono ?_; rintro e w2 ⟨rfl, rfl⟩)
    go_ret
    exact ⟨ret_i HZ.out.symm, HX.out.bel⟩
  cases b4 : outC.inC par 0 (nxt - 1)
  · have HZ := Lib.hid (hbad (by unfold outC; simp [b0, b1, b2, b3, b4]))
    clear hbad harg hok
    go_enter Tryz.func29, Tryz.ntmps29
    go_wp2_with (go_at_call 49; refine (ch_within _ _ _ _ (by first | exact b0 | exact b1 | exact b2 | exact b3 | exact b4) _).mono ?_; rintro e w2 ⟨rfl, rfl⟩)
    go_ret
    exact ⟨ret_i HZ.out.symm, HX.out.bel⟩
  have ho : outC c ⟨ball, need, str, par, nxt⟩ = false := by unfold outC; simp [b0, b1, b2, b3, b4]
  have hno := outC_no ho
  dsimp only at hno
  obtain ⟨⟨q1, q2⟩, ⟨q3, q4⟩, _, ⟨q5, q6⟩, ⟨q7, q8⟩⟩ := hno
  by_cases h1 : str = par
  · have HZ := Lib.hid (harg ho (.inl h1))
    have e1 : (str == par) = true := beq_iff_eq.2 h1
    have h1' := Lib.hid h1
    clear hbad harg hok ho h1
    go_enter Tryz.func29, Tryz.ntmps29
    go_wp2_with (go_at_call 49; refine (ch_within _ _ _ _ (by first | exact b0 | exact b1 | exact b2 | exact b3 | exact b4) _).mono ?_; rintro e w2 ⟨rfl, rfl⟩)
    go_ret
    exact ⟨ret_i HZ.out.symm, HX.out.bel⟩
  have e1 : (str == par) = false := beq_eq_false_iff_ne.2 h1
  by_cases h2 : str = -1
  · have e2 : (str == -1) = true := beq_iff_eq.2 h2
    by_cases h3 : nxt < (c.ord.length : Int)
    · have HZ := Lib.hid (harg ho (.inr ⟨h2, h3⟩))
      have h2' := Lib.hid h2
      clear hbad harg hok ho h1 h2
      go_enter Tryz.func29, Tryz.ntmps29
      go_wp2_with (go_at_call 49; refine (ch_within _ _ _ _ (by first | exact b0 | exact b1 | exact b2 | exact b3 | exact b4) _).mono ?_; rintro e w2 ⟨rfl, rfl⟩)
      go_ret
      exact ⟨ret_i HZ.out.symm, HX.out.bel⟩
    · have HZ := Lib.hid (hok ho (by rintro (h | h); exact h1 h; exact h3 h.2))
      have h2' := Lib.hid h2
      clear hbad harg hok ho h1 h2
      go_enter Tryz.func29, Tryz.ntmps29
      go_wp2_with (go_at_call 49; refine (ch_within _ _ _ _ (by first | exact b0 | exact b1 | exact b2 | exact b3 | exact b4) _).mono ?_; rintro e w2 ⟨rfl, rfl⟩)
      go_ret
      exact ⟨ret_i HZ.out.symm, HX.out.bel⟩
  · have e2 : (str == -1) = false := beq_eq_false_iff_ne.2 h2
    have HZ := Lib.hid (hok ho (by rintro (h | h); exact h1 h; exact h2 h.1))
    clear hbad harg hok ho h1 h2
    go_enter Tryz.func29, Tryz.ntmps29
    go_wp2_with (go_at_call 49; refine (ch_within _ _ _ _ (by first | exact b0 | exact b1 | exact b2 | exact b3 | exact b4) _).mono ?_; rintro e w2 ⟨rfl, rfl⟩)
    go_ret
    exact ⟨ret_i HZ.out.symm, HX.out.bel⟩
set_option maxRecDepth 100000 in
set_option maxHeartbeats 4000000 in
theorem ch44_CheckState (c : Chs) (s : Cst) (bv wv pv ov : Value) (w : World) (h : ChAt w (· < w.heap.size) bv wv pv ov c) :
    Calls Tryz.prog 12 #[chV c bv wv pv ov, stV s] w fun e w' => e = .returned (.int .i64 (chstC c s)) ∧ Below w.heap.size w w' := by
  unfold chV stV
  obtain ⟨ball, need, str, par, nxt⟩ := s
  obtain ⟨A, ca, rfl, hc1, hc2⟩ := h.mdl.bat.shape
  obtain ⟨A1, ca1, rfl, hc3, hc4⟩ := h.mdl.bow.shape
  obtain ⟨A2, ca2, rfl, hc5, hc6⟩ := h.bow.shape
  obtain ⟨A3, ca3, rfl, hc7, hc8⟩ := h.ord.shape
  have hx := CSB.new w c (.slice A c.mdl.bats.length ca) (.slice A1 c.mdl.bows.length ca1) (.slice A2 c.bows.length ca2) (.slice A3 c.ord.length ca3) ⟨ball, need, str, par, nxt⟩
  have HX := Lib.hid hx
  have HM := Lib.hid h
  obtain ⟨z, hz⟩ : ∃ z, z = chstC c ⟨ball, need, str, par, nxt⟩ := ⟨_, rfl⟩
  rw [← hz]
  unfold chstC at hz
  have k1 := fun W (hW : Below w.heap.size w W) => ch44_Check c _ _ _ _ W (HM.out.below hW)
  have k2 := fun W (hW : Below w.heap.size w W) => ch44_checkState c ⟨ball, need, str, par, nxt⟩ _ _ _ _ W (HM.out.below hW)
  unfold chV stV at k2
  unfold chV at k1
  dsimp only at k2
  obtain ⟨u, hu⟩ : ∃ u, u = checkC c := ⟨_, rfl⟩
  obtain ⟨v, hv⟩ : ∃ v, v = stateC c ⟨ball, need, str, par, nxt⟩ := ⟨_, rfl⟩
  rw [← hu] at k1 hz
  rw [← hv] at k2 hz
  have K1 := Lib.hid k1
  have K2 := Lib.hid k2
  have tok0 : True := trivial
  clear k1 k2 hu hv h hx
  by_cases h0 : u = 0
  · rw [if_neg (by omega)] at hz
    have HZ := Lib.hid hz
    have eu : (u != 0) = false := by simp [h0]
    clear hz h0
    go_enter Tryz.func12, Tryz.ntmps12
    go_wp2_with (first
      | (clear tok0; go_at_call 18; refine (K1.out _ HX.out.bel).mono ?_; rintro e w2 ⟨rfl, hb2⟩; have HX2 := Lib.hid (HX.out.below hb2); obtain ⟨x0, x1, x2, x3, x4, x5, x6, y0, y1, y2, y3, y4⟩ := HX2.out.cells; clear hb2; have tok1 : True := trivial)
      | (clear tok1; go_at_call 29; refine (K2.out _ HX2.out.bel).mono ?_; rintro e w3 ⟨rfl, hb3⟩; have HX3 := Lib.hid (HX2.out.below hb3); clear hb3; have tok2 : True := trivial))
    go_ret
    exact ⟨ret_i HZ.out.symm, HX3.out.bel⟩
  · rw [if_pos h0] at hz
    have HZ := Lib.hid hz
    have eu : (u != 0) = true := by simp [h0]
    clear hz h0
    go_enter Tryz.func12, Tryz.ntmps12
    go_wp2_with (clear tok0; go_at_call 18; refine (K1.out _ HX.out.bel).mono ?_; rintro e w2 ⟨rfl, hb2⟩; have HX2 := Lib.hid (HX.out.below hb2); obtain ⟨x0, x1, x2, x3, x4, x5, x6, y0, y1, y2, y3, y4⟩ := HX2.out.cells; clear hb2; have tok1 : True := trivial)
    go_ret
    exact ⟨ret_i HZ.out.symm, HX2.out.bel⟩
set_option maxRecDepth 100000 in
set_option maxHeartbeats 4000000 in
theorem ch44_Status (c : Chs) (s : Cst) (bv wv pv ov : Value) (w : World) (h : ChAt w (· < w.heap.size) bv wv pv ov c) :
    Calls Tryz.prog 21 #[chV c bv wv pv ov, stV s] w fun e w' => e = .returned (.int .u8 (statusC c s)) ∧ Below w.heap.size w w' := by
  unfold chV stV
  obtain ⟨ball, need, str, par, nxt⟩ := s
  obtain ⟨A, ca, rfl, hc1, hc2⟩ := h.mdl.bat.shape
  obtain ⟨A1, ca1, rfl, hc3, hc4⟩ := h.mdl.bow.shape
  obtain ⟨A2, ca2, rfl, hc5, hc6⟩ := h.bow.shape
  obtain ⟨A3, ca3, rfl, hc7, hc8⟩ := h.ord.shape
  have hx := CSB.new w c (.slice A c.mdl.bats.length ca) (.slice A1 c.mdl.bows.length ca1) (.slice A2 c.bows.length ca2) (.slice A3 c.ord.length ca3) ⟨ball, need, str, par, nxt⟩
  have HX := Lib.hid hx
  have HM := Lib.hid h
  obtain ⟨z, hz⟩ : ∃ z, z = statusC c ⟨ball, need, str, par, nxt⟩ := ⟨_, rfl⟩
  rw [← hz]
  unfold statusC at hz
  have k1 := fun W (hW : Below w.heap.size w W) => ch44_CheckState c ⟨ball, need, str, par, nxt⟩ _ _ _ _ W (HM.out.below hW)
  have k2 := fun (hs : OkS c ⟨ball, need, str, par, nxt⟩) W (hW : Below w.heap.size w W) => ch44_status c ⟨ball, need, str, par, nxt⟩ _ _ _ _ W (HM.out.below hW) hs
  have hok := fun h => (chst_ok (c := c) (s := ⟨ball, need, str, par, nxt⟩) h).2.2
  unfold chV stV at k1 k2
  dsimp only at k1 k2
  obtain ⟨u, hu⟩ : ∃ u, u = chstC c ⟨ball, need, str, par, nxt⟩ := ⟨_, rfl⟩
  obtain ⟨v, hv⟩ : ∃ v, v = stC c ⟨ball, need, str, par, nxt⟩ := ⟨_, rfl⟩
  rw [← hu] at k1 hz hok
  rw [← hv] at k2 hz
  have K1 := Lib.hid k1
  have tok0 : True := trivial
  clear k1 hu hv h hx
  by_cases h0 : u = 0
  · rw [if_neg (by omega)] at hz
    have HZ := Lib.hid hz
    have K2 := Lib.hid (k2 (hok h0))
    have eu : (u != 0) = false := by simp [h0]
    clear hz h0 hok k2
    go_enter Tryz.func21, Tryz.ntmps21
    go_wp2_with (first
      | (clear tok0; go_at_call 12; refine (K1.out _ HX.out.bel).mono ?_; rintro e w2 ⟨rfl, hb2⟩; have HX2 := Lib.hid (HX.out.below hb2); obtain ⟨x0, x1, x2, x3, x4, x5, x6, y0, y1, y2, y3, y4⟩ := HX2.out.cells; clear hb2; have tok1 : True := trivial)
      | (clear tok1; go_at_call 30; refine (K2.out _ HX2.out.bel).mono ?_; rintro e w3 ⟨rfl, hb3⟩; have HX3 := Lib.hid (HX2.out.below hb3); clear hb3; have tok2 : True := trivial))
    go_ret
    exact ⟨ret_u8 HZ.out.symm, HX3.out.bel⟩
  · rw [if_pos h0] at hz
    have HZ := Lib.hid hz
    have eu : (u != 0) = true := by simp [h0]
    clear hz h0 hok k2
    go_enter Tryz.func21, Tryz.ntmps21
    go_wp2_with (clear tok0; go_at_call 12; refine (K1.out _ HX.out.bel).mono ?_; rintro e w2 ⟨rfl, hb2⟩; have HX2 := Lib.hid (HX.out.below hb2); obtain ⟨x0, x1, x2, x3, x4, x5, x6, y0, y1, y2, y3, y4⟩ := HX2.out.cells; clear hb2; have tok1 : True := trivial)
    go_ret
    exact ⟨ret_u8 HZ.out.symm, HX2.out.bel⟩
set_option maxRecDepth 100000 in
set_option maxHeartbeats 4000000 in
theorem r44_status (c : Chs) (s : Cst) (bv wv pv ov : Value) (w : World) (h : ChAt w (· < w.heap.size) bv wv pv ov c) (hs : OkS c s) :
    Calls Tryz.prog 32 #[chV c bv wv pv ov, stV s] w fun e w' => e = .returned (.int .u8 (stC c s)) ∧ Below w.heap.size w w' := by
  unfold chV stV
  obtain ⟨ball, need, str, par, nxt⟩ := s
  obtain ⟨A, ca, rfl, hc1, hc2⟩ := h.mdl.bat.shape
  obtain ⟨A1, ca1, rfl, hc3, hc4⟩ := h.mdl.bow.shape
  obtain ⟨A2, ca2, rfl, hc5, hc6⟩ := h.bow.shape
  obtain ⟨A3, ca3, rfl, hc7, hc8⟩ := h.ord.shape
  have hx := CSB.new w c (.slice A c.mdl.bats.length ca) (.slice A1 c.mdl.bows.length ca1) (.slice A2 c.bows.length ca2) (.slice A3 c.ord.length ca3) ⟨ball, need, str, par, nxt⟩
  have HX := Lib.hid hx
  have HM := Lib.hid h
  have hw := stC_ways c ⟨ball, need, str, par, nxt⟩
  have hm := hs.str.1
  obtain ⟨z, hz⟩ : ∃ z, z = stC c ⟨ball, need, str, par, nxt⟩ := ⟨_, rfl⟩
  rw [← hz] at hw ⊢
  dsimp only at hw hm
  clear hx h hs hz
  rcases hw with ⟨h1, hz⟩ | ⟨h1, h2, hz⟩ | ⟨h1, h2, h3, hz⟩ | ⟨h1, h2, h3, hz⟩
  · have e1 : (need == 0) = true := beq_iff_eq.2 h1
    have HZ := Lib.hid hz
    clear hz h1
    go_enter Tryz.func32, Tryz.ntmps32
    go_wp2
    go_ret
    exact ⟨ret_u8 HZ.out.symm, HX.out.bel⟩
  · have e1 : (need == 0) = false := beq_eq_false_iff_ne.2 h1
    have e2 : (str == -1) = true := beq_iff_eq.2 (by omega)
    have HZ := Lib.hid hz
    clear hz h1
    go_enter Tryz.func32, Tryz.ntmps32
    go_wp2
    go_ret
    exact ⟨ret_u8 HZ.out.symm, HX.out.bel⟩
  · have e1 : (need == 0) = false := beq_eq_false_iff_ne.2 h1
    have e2 : (str == -1) = false := beq_eq_false_iff_ne.2 (by omega)
    have e3 : (ball == (c.bows.length : Int)) = true := beq_iff_eq.2 h3
    have HZ := Lib.hid hz
    clear hz h1 h3
    go_enter Tryz.func32, Tryz.ntmps32
    go_wp2
    go_ret
    exact ⟨ret_u8 HZ.out.symm, HX.out.bel⟩
  · have e1 : (need == 0) = false := beq_eq_false_iff_ne.2 h1
    have e2 : (str == -1) = false := beq_eq_false_iff_ne.2 (by omega)
    have e3 : (ball == (c.bows.length : Int)) = false := beq_eq_false_iff_ne.2 h3
    have HZ := Lib.hid hz
    clear hz h1 h3
    go_enter Tryz.func32, Tryz.ntmps32
    go_wp2
    go_ret
    exact ⟨ret_u8 HZ.out.symm, HX.out.bel⟩
set_option maxRecDepth 100000 in
set_option maxHeartbeats 4000000 in
theorem r44_checkState (c : Chs) (s : Cst) (bv wv pv ov : Value) (w : World) (h : ChAt w (· < w.heap.size) bv wv pv ov c) :
    Calls Tryz.prog 37 #[chV c bv wv pv ov, stV s] w fun e w' => e = .returned (.int .i64 (stateC c s)) ∧ Below w.heap.size w w' := by
  unfold chV stV
  obtain ⟨ball, need, str, par, nxt⟩ := s
  obtain ⟨A, ca, rfl, hc1, hc2⟩ := h.mdl.bat.shape
  obtain ⟨A1, ca1, rfl, hc3, hc4⟩ := h.mdl.bow.shape
  obtain ⟨A2, ca2, rfl, hc5, hc6⟩ := h.bow.shape
  obtain ⟨A3, ca3, rfl, hc7, hc8⟩ := h.ord.shape
  have hx := CSB.new w c (.slice A c.mdl.bats.length ca) (.slice A1 c.mdl.bows.length ca1) (.slice A2 c.bows.length ca2) (.slice A3 c.ord.length ca3) ⟨ball, need, str, par, nxt⟩
  have HX := Lib.hid hx
  have HM := Lib.hid h
  obtain ⟨z, hz⟩ : ∃ z, z = stateC c ⟨ball, need, str, par, nxt⟩ := ⟨_, rfl⟩
  rw [← hz]
  have hbad : outC c ⟨ball, need, str, par, nxt⟩ = true → z = 2 := fun h => by rw [hz]; unfold stateC; rw [if_pos h]
  have harg : outC c ⟨ball, need, str, par, nxt⟩ = false → (str = par ∨ (str = -1 ∧ nxt < c.ord.length)) → z = 1 := fun h h2 => by rw [hz]; unfold stateC; rw [if_neg (by simp [h]), if_pos h2]
  have hok : outC c ⟨ball, need, str, par, nxt⟩ = false → ¬ (str = par ∨ (str = -1 ∧ nxt < c.ord.length)) → z = 0 := fun h h2 => by rw [hz]; unfold stateC; rw [if_neg (by simp [h]), if_neg h2]
  clear hx h hz
  cases b0 : outC.inC ball 0 c.bows.length
  · have HZ := Lib.hid (hbad (by unfold outC; simp [b0]))
    clear hbad harg hok
    have pz : ball < 0 ∨ (¬ ball < 0 ∧ (c.bows.length : Int) < ball) := by have := b0; unfold outC.inC at this; simp at this; omega
    clear b0
    rcases pz with g | ⟨g, g2⟩
    · skip
      go_enter Tryz.func37, Tryz.ntmps37
      go_wp2
      go_ret
      exact ⟨ret_i HZ.out.symm, HX.out.bel⟩
    · skip
      go_enter Tryz.func37, Tryz.ntmps37
      go_wp2
      go_ret
      exact ⟨ret_i HZ.out.symm, HX.out.bel⟩
  cases b1 : outC.inC need 0 c.need
  · have HZ := Lib.hid (hbad (by unfold outC; simp [b0, b1]))
    clear hbad harg hok
    have p0 := (show 0 ≤ ball ∧ ball ≤ (c.bows.length : Int) by have := b0; unfold outC.inC at this; simpa using this)
    obtain ⟨p0a, p0b⟩ := p0
    have pz : need < 0 ∨ (¬ need < 0 ∧ c.need < need) := by have := b1; unfold outC.inC at this; simp at this; omega
    clear b0 b1
    rcases pz with g | ⟨g, g2⟩
    · skip
      go_enter Tryz.func37, Tryz.ntmps37
      go_wp2
      go_ret
      exact ⟨ret_i HZ.out.symm, HX.out.bel⟩
    · skip
      go_enter Tryz.func37, Tryz.ntmps37
      go_wp2
      go_ret
      exact ⟨ret_i HZ.out.symm, HX.out.bel⟩
  cases b2 : outC.inC nxt 2 c.ord.length
  · have HZ := Lib.hid (hbad (by unfold outC; simp [b0, b1, b2]))
    clear hbad harg hok
    have p0 := (show 0 ≤ ball ∧ ball ≤ (c.bows.length : Int) by have := b0; unfold outC.inC at this; simpa using this)
    obtain ⟨p0a, p0b⟩ := p0
    have p1 := (show 0 ≤ need ∧ need ≤ c.need by have := b1; unfold outC.inC at this; simpa using this)
    obtain ⟨p1a, p1b⟩ := p1
    have pz : nxt < 2 ∨ (¬ nxt < 2 ∧ (c.ord.length : Int) < nxt) := by have := b2; unfold outC.inC at this; simp at this; omega
    clear b0 b1 b2
    rcases pz with g | ⟨g, g2⟩
    · skip
      go_enter Tryz.func37, Tryz.ntmps37
      go_wp2
      go_ret
      exact ⟨ret_i HZ.out.symm, HX.out.bel⟩
    · skip
      go_enter Tryz.func37, Tryz.ntmps37
      go_wp2
      go_ret
      exact ⟨ret_i HZ.out.symm, HX.out.bel⟩
  have gn : 2 ≤ nxt ∧ nxt ≤ (c.ord.length : Int) := by have := b2; unfold outC.inC at this; simpa using this
  obtain ⟨gn1, gn2⟩ := gn
  cases b3 : outC.inC str (-1) (nxt - 1)
  · have HZ := Lib.hid (hbad (by unfold outC; simp [b0, b1, b2, b3]))
    clear hbad harg hok
    have p0 := (show 0 ≤ ball ∧ ball ≤ (c.bows.length : Int) by have := b0; unfold outC.inC at this; simpa using this)
    obtain ⟨p0a, p0b⟩ := p0
    have p1 := (show 0 ≤ need ∧ need ≤ c.need by have := b1; unfold outC.inC at this; simpa using this)
    obtain ⟨p1a, p1b⟩ := p1
    have p2 := (show 2 ≤ nxt ∧ nxt ≤ (c.ord.length : Int) by have := b2; unfold outC.inC at this; simpa using this)
    obtain ⟨p2a, p2b⟩ := p2
    have pz : str < -1 ∨ (¬ str < -1 ∧ nxt - 1 < str) := by have := b3; unfold outC.inC at this; simp at this; omega
    clear b0 b1 b2 b3
    rcases pz with g | ⟨g, g2⟩
    · skip
      go_enter Tryz.func37, Tryz.ntmps37
      go_wp2
      go_ret
      exact ⟨ret_i HZ.out.symm, HX.out.bel⟩
    · skip
      go_enter Tryz.func37, Tryz.ntmps37
      go_wp2
      go_ret
      exact ⟨ret_i HZ.out.symm, HX.out.bel⟩
  cases b4 : outC.inC par 0 (nxt - 1)
  · have HZ := Lib.hid (hbad (by unfold outC; simp [b0, b1, b2, b3, b4]))
    clear hbad harg hok
    have p0 := (show 0 ≤ ball ∧ ball ≤ (c.bows.length : Int) by have := b0; unfold outC.inC at this; simpa using this)
    obtain ⟨p0a, p0b⟩ := p0
    have p1 := (show 0 ≤ need ∧ need ≤ c.need by have := b1; unfold outC.inC at this; simpa using this)
    obtain ⟨p1a, p1b⟩ := p1
    have p2 := (show 2 ≤ nxt ∧ nxt ≤ (c.ord.length : Int) by have := b2; unfold outC.inC at this; simpa using this)
    obtain ⟨p2a, p2b⟩ := p2
    have p3 := (show -1 ≤ str ∧ str ≤ nxt - 1 by have := b3; unfold outC.inC at this; simpa using this)
    obtain ⟨p3a, p3b⟩ := p3
    have pz : par < 0 ∨ (¬ par < 0 ∧ nxt - 1 < par) := by have := b4; unfold outC.inC at this; simp at this; omega
    clear b0 b1 b2 b3 b4
    rcases pz with g | ⟨g, g2⟩
    · skip
      go_enter Tryz.func37, Tryz.ntmps37
      go_wp2
      go_ret
      exact ⟨ret_i HZ.out.symm, HX.out.bel⟩
    · skip
      go_enter Tryz.func37, Tryz.ntmps37
      go_wp2
      go_ret
      exact ⟨ret_i HZ.out.symm, HX.out.bel⟩
  have ho : outC c ⟨ball, need, str, par, nxt⟩ = false := by unfold outC; simp [b0, b1, b2, b3, b4]
  have hno := outC_no ho
  dsimp only at hno
  obtain ⟨⟨q1, q2⟩, ⟨q3, q4⟩, _, ⟨q5, q6⟩, ⟨q7, q8⟩⟩ := hno
  by_cases h1 : str = par
  · have HZ := Lib.hid (harg ho (.inl h1))
    have e1 : (str == par) = true := beq_iff_eq.2 h1
    have h1' := Lib.hid h1
    clear hbad harg hok ho h1
    go_enter Tryz.func37, Tryz.ntmps37
    go_wp2
    go_ret
    exact ⟨ret_i HZ.out.symm, HX.out.bel⟩
  have e1 : (str == par) = false := beq_eq_false_iff_ne.2 h1
  by_cases h2 : str = -1
  · have e2 : (str == -1) = true := beq_iff_eq.2 h2
    by_cases h3 : nxt < (c.ord.length : Int)
    · have HZ := Lib.hid (harg ho (.inr ⟨h2, h3⟩))
      have h2' := Lib.hid h2
      clear hbad harg hok ho h1 h2
      go_enter Tryz.func37, Tryz.ntmps37
      go_wp2
      go_ret
      exact ⟨ret_i HZ.out.symm, HX.out.bel⟩
    · have HZ := Lib.hid (hok ho (by rintro (h | h); exact h1 h; exact h3 h.2))
      have h2' := Lib.hid h2
      clear hbad harg hok ho h1 h2
      go_enter Tryz.func37, Tryz.ntmps37
      go_wp2
      go_ret
      exact ⟨ret_i HZ.out.symm, HX.out.bel⟩
  · have e2 : (str == -1) = false := beq_eq_false_iff_ne.2 h2
    have HZ := Lib.hid (hok ho (by rintro (h | h); exact h1 h; exact h2 h.1))
    clear hbad harg hok ho h1 h2
    go_enter Tryz.func37, Tryz.ntmps37
    go_wp2
    go_ret
    exact ⟨ret_i HZ.out.symm, HX.out.bel⟩
set_option maxRecDepth 100000 in
set_option maxHeartbeats 4000000 in
theorem r44_CheckState (c : Chs) (s : Cst) (bv wv pv ov : Value) (w : World) (h : ChAt w (· < w.heap.size) bv wv pv ov c) :
    Calls Tryz.prog 20 #[chV c bv wv pv ov, stV s] w fun e w' => e = .returned (.int .i64 (chstC c s)) ∧ Below w.heap.size w w' := by
  unfold chV stV
  obtain ⟨ball, need, str, par, nxt⟩ := s
  obtain ⟨A, ca, rfl, hc1, hc2⟩ := h.mdl.bat.shape
  obtain ⟨A1, ca1, rfl, hc3, hc4⟩ := h.mdl.bow.shape
  obtain ⟨A2, ca2, rfl, hc5, hc6⟩ := h.bow.shape
  obtain ⟨A3, ca3, rfl, hc7, hc8⟩ := h.ord.shape
  have hx := CSB.new w c (.slice A c.mdl.bats.length ca) (.slice A1 c.mdl.bows.length ca1) (.slice A2 c.bows.length ca2) (.slice A3 c.ord.length ca3) ⟨ball, need, str, par, nxt⟩
  have HX := Lib.hid hx
  have HM := Lib.hid h
  obtain ⟨z, hz⟩ : ∃ z, z = chstC c ⟨ball, need, str, par, nxt⟩ := ⟨_, rfl⟩
  rw [← hz]
  unfold chstC at hz
  have k1 := fun W (hW : Below w.heap.size w W) => r44_Check c _ _ _ _ W (HM.out.below hW)
  have k2 := fun W (hW : Below w.heap.size w W) => r44_checkState c ⟨ball, need, str, par, nxt⟩ _ _ _ _ W (HM.out.below hW)
  unfold chV stV at k2
  unfold chV at k1
  dsimp only at k2
  obtain ⟨u, hu⟩ : ∃ u, u = checkC c := ⟨_, rfl⟩
  obtain ⟨v, hv⟩ : ∃ v, v = stateC c ⟨ball, need, str, par, nxt⟩ := ⟨_, rfl⟩
  rw [← hu] at k1 hz
  rw [← hv] at k2 hz
  have K1 := Lib.hid k1
  have K2 := Lib.hid k2
  have tok0 : True := trivial
  clear k1 k2 hu hv h hx
  by_cases h0 : u = 0
  · rw [if_neg (by omega)] at hz
    have HZ := Lib.hid hz
    have eu : (u != 0) = false := by simp [h0]
    clear hz h0
    go_enter Tryz.func20, Tryz.ntmps20
    go_wp2_with (first
      | (clear tok0; go_at_call 19; refine (K1.out _ HX.out.bel).mono ?_; rintro e w2 ⟨rfl, hb2⟩; have HX2 := Lib.hid (HX.out.below hb2); obtain ⟨x0, x1, x2, x3, x4, x5, x6, y0, y1, y2, y3, y4⟩ := HX2.out.cells; clear hb2; have tok1 : True := trivial)
      | (clear tok1; go_at_call 37; refine (K2.out _ HX2.out.bel).mono ?_; rintro e w3 ⟨rfl, hb3⟩; have HX3 := Lib.hid (HX2.out.below hb3); clear hb3; have tok2 : True := trivial))
    go_ret
    exact ⟨ret_i HZ.out.symm, HX3.out.bel⟩
  · rw [if_pos h0] at hz
    have HZ := Lib.hid hz
    have eu : (u != 0) = true := by simp [h0]
    clear hz h0
    go_enter Tryz.func20, Tryz.ntmps20
    go_wp2_with (clear tok0; go_at_call 19; refine (K1.out _ HX.out.bel).mono ?_; rintro e w2 ⟨rfl, hb2⟩; have HX2 := Lib.hid (HX.out.below hb2); obtain ⟨x0, x1, x2, x3, x4, x5, x6, y0, y1, y2, y3, y4⟩ := HX2.out.cells; clear hb2; have tok1 : True := trivial)
    go_ret
    exact ⟨ret_i HZ.out.symm, HX2.out.bel⟩
set_option maxRecDepth 100000 in
set_option maxHeartbeats 4000000 in
theorem r44_Status (c : Chs) (s : Cst) (bv wv pv ov : Value) (w : World) (h : ChAt w (· < w.heap.size) bv wv pv ov c) :
    Calls Tryz.prog 22 #[chV c bv wv pv ov, stV s] w fun e w' => e = .returned (.int .u8 (statusC c s)) ∧ Below w.heap.size w w' := by
  unfold chV stV
  obtain ⟨ball, need, str, par, nxt⟩ := s
  obtain ⟨A, ca, rfl, hc1, hc2⟩ := h.mdl.bat.shape
  obtain ⟨A1, ca1, rfl, hc3, hc4⟩ := h.mdl.bow.shape
  obtain ⟨A2, ca2, rfl, hc5, hc6⟩ := h.bow.shape
  obtain ⟨A3, ca3, rfl, hc7, hc8⟩ := h.ord.shape
  have hx := CSB.new w c (.slice A c.mdl.bats.length ca) (.slice A1 c.mdl.bows.length ca1) (.slice A2 c.bows.length ca2) (.slice A3 c.ord.length ca3) ⟨ball, need, str, par, nxt⟩
  have HX := Lib.hid hx
  have HM := Lib.hid h
  obtain ⟨z, hz⟩ : ∃ z, z = statusC c ⟨ball, need, str, par, nxt⟩ := ⟨_, rfl⟩
  rw [← hz]
  unfold statusC at hz
  have k1 := fun W (hW : Below w.heap.size w W) => r44_CheckState c ⟨ball, need, str, par, nxt⟩ _ _ _ _ W (HM.out.below hW)
  have k2 := fun (hs : OkS c ⟨ball, need, str, par, nxt⟩) W (hW : Below w.heap.size w W) => r44_status c ⟨ball, need, str, par, nxt⟩ _ _ _ _ W (HM.out.below hW) hs
  have hok := fun h => (chst_ok (c := c) (s := ⟨ball, need, str, par, nxt⟩) h).2.2
  unfold chV stV at k1 k2
  dsimp only at k1 k2
  obtain ⟨u, hu⟩ : ∃ u, u = chstC c ⟨ball, need, str, par, nxt⟩ := ⟨_, rfl⟩
  obtain ⟨v, hv⟩ : ∃ v, v = stC c ⟨ball, need, str, par, nxt⟩ := ⟨_, rfl⟩
  rw [← hu] at k1 hz hok
  rw [← hv] at k2 hz
  have K1 := Lib.hid k1
  have tok0 : True := trivial
  clear k1 hu hv h hx
  by_cases h0 : u = 0
  · rw [if_neg (by omega)] at hz
    have HZ := Lib.hid hz
    have K2 := Lib.hid (k2 (hok h0))
    have eu : (u != 0) = false := by simp [h0]
    clear hz h0 hok k2
    go_enter Tryz.func22, Tryz.ntmps22
    go_wp2_with (first
      | (clear tok0; go_at_call 20; refine (K1.out _ HX.out.bel).mono ?_; rintro e w2 ⟨rfl, hb2⟩; have HX2 := Lib.hid (HX.out.below hb2); obtain ⟨x0, x1, x2, x3, x4, x5, x6, y0, y1, y2, y3, y4⟩ := HX2.out.cells; clear hb2; have tok1 : True := trivial)
      | (clear tok1; go_at_call 32; refine (K2.out _ HX2.out.bel).mono ?_; rintro e w3 ⟨rfl, hb3⟩; have HX3 := Lib.hid (HX2.out.below hb3); clear hb3; have tok2 : True := trivial))
    go_ret
    exact ⟨ret_u8 HZ.out.symm, HX3.out.bel⟩
  · rw [if_pos h0] at hz
    have HZ := Lib.hid hz
    have eu : (u != 0) = true := by simp [h0]
    clear hz h0 hok k2
    go_enter Tryz.func22, Tryz.ntmps22
    go_wp2_with (clear tok0; go_at_call 20; refine (K1.out _ HX.out.bel).mono ?_; rintro e w2 ⟨rfl, hb2⟩; have HX2 := Lib.hid (HX.out.below hb2); obtain ⟨x0, x1, x2, x3, x4, x5, x6, y0, y1, y2, y3, y4⟩ := HX2.out.cells; clear hb2; have tok1 : True := trivial)
    go_ret
    exact ⟨ret_u8 HZ.out.symm, HX2.out.bel⟩
end Go.Proofs.YtcbkpjiaipabbaaGreatDoor

namespace Go.Proofs.YtcbkpjiaipabbaaGreatDoor
open Go.RowKit

theorem Blk.put5 {w : World} {g : Nat} {t : TypeId} {a b c d e : Value} (h : Blk w g t #[a, b, c, d, e]) (x0 x1 x2 x3 x4 : Value) :
    Blk (((((w.setCell ⟨g, 0, none⟩ x0).setCell ⟨g, 1, none⟩ x1).setCell ⟨g, 2, none⟩ x2).setCell ⟨g, 3, none⟩ x3).setCell ⟨g, 4, none⟩ x4) g t #[x0, x1, x2, x3, x4] :=
  ((((h.set_ 0 x0).set_ 1 x1).set_ 2 x2).set_ 3 x3).set_ 4 x4
theorem below_set5 {B : Nat} {a w : World} (h : Below B a w) {g : Nat} (hg : B ≤ g) (x0 x1 x2 x3 x4 : Value) :
    Below B a (((((w.setCell ⟨g, 0, none⟩ x0).setCell ⟨g, 1, none⟩ x1).setCell ⟨g, 2, none⟩ x2).setCell ⟨g, 3, none⟩ x3).setCell ⟨g, 4, none⟩ x4) :=
  Below.setCell (Below.setCell (Below.setCell (Below.setCell (Below.setCell h hg x0) hg x1) hg x2) hg x3) hg x4
set_option maxRecDepth 100000 in
set_option maxHeartbeats 4000000 in
theorem ch44_moves (c : Chs) (s : Cst) (bv wv pv ov : Value) (w : World) (h : ChAt w (· < w.heap.size) bv wv pv ov c) (hc : OkC c) (hs : OkS c s) (h1 : stC c s = 1) :
    Calls Tryz.prog 31 #[chV c bv wv pv ov, stV s] w fun e w' => ∃ A n k, e = .returned (.slice A n k) ∧ Below w.heap.size w w' ∧ Sl 3 elOtc w' (fun b => w.heap.size ≤ b ∧ b < w'.heap.size) (.slice A n k) (mvC c s) := by
  unfold chV stV
  obtain ⟨ball, need, str, par, nxt⟩ := s
  obtain ⟨A, ca, rfl, hc1, hc2⟩ := h.mdl.bat.shape
  obtain ⟨A1, ca1, rfl, hc3, hc4⟩ := h.mdl.bow.shape
  obtain ⟨A2, ca2, rfl, hc5, hc6⟩ := h.bow.shape
  obtain ⟨A3, ca3, rfl, hc7, hc8⟩ := h.ord.shape
  have hx := CSB.new w c (.slice A c.mdl.bats.length ca) (.slice A1 c.mdl.bows.length ca1) (.slice A2 c.bows.length ca2) (.slice A3 c.ord.length ca3) ⟨ball, need, str, par, nxt⟩
  have HX := Lib.hid hx
  have HM := Lib.hid h
  obtain ⟨i, j, bt, bw, e1, e2, s0, s1, i0, i1, j0, j1, f1, f2, hsh, hq5⟩ := mvC_at hc hs h1
  have sn := hs.str.2
  have sx := hs.nxt.2
  have sb := hs.ball.1
  dsimp only at e1 e2 s0 s1 sn sx sb
  obtain ⟨a, rfl⟩ : ∃ a : Nat, str = (a : Int) := ⟨str.toNat, by omega⟩
  obtain ⟨e, rfl⟩ : ∃ a : Nat, ball = (a : Int) := ⟨ball.toNat, by omega⟩
  obtain ⟨i, rfl⟩ : ∃ a : Nat, i = (a : Int) := ⟨i.toNat, by omega⟩
  obtain ⟨j, rfl⟩ : ∃ a : Nat, j = (a : Int) := ⟨j.toNat, by omega⟩
  rw [Int.toNat_natCast] at e1 e2 f1 f2
  have la : a < c.ord.length := by omega
  have le : e < c.bows.length := by omega
  have li : i < c.mdl.bats.length := by omega
  have lj : j < c.mdl.bows.length := by omega
  have ga : c.ord[a] = (i : Int) := by rw [List.getElem?_eq_getElem la] at e1; exact Option.some.inj e1
  have ge : c.bows[e] = (j : Int) := by rw [List.getElem?_eq_getElem le] at e2; exact Option.some.inj e2
  have gi : c.mdl.bats[i] = bt := by rw [List.getElem?_eq_getElem li] at f1; exact Option.some.inj f1
  have gj : c.mdl.bows[j] = bw := by rw [List.getElem?_eq_getElem lj] at f2; exact Option.some.inj f2
  obtain ⟨b0, o0, rfl, hb0, z0⟩ := int_at h.ord la
  obtain ⟨b1, o1, rfl, hb1, z1⟩ := int_at h.bow le
  obtain ⟨b2, o2, v, rfl, hb2, hq3, z2, hv, hq1⟩ := bat_at h.mdl.bat li
  obtain ⟨b3, o3, rfl, hb3, hq4, z3, hq2⟩ := bow_at h.mdl.bow lj
  rw [ga] at z0
  rw [ge] at z1
  rw [gi] at hv
  rw [gj] at z3
  have ks := fun W (hW : Below w.heap.size w W) => m_Shift bt.dist v bw.shift W (hv.keep elOtc_good (Same.of_below hW) fun b h => Nat.lt_of_lt_of_le h hW.size)
  rw [hsh] at ks
  obtain ⟨n, hn⟩ : ∃ n, n = bw.shift := ⟨_, rfl⟩
  rw [← hn] at ks z3
  obtain ⟨l, hl⟩ : ∃ l, l = mvC c ⟨(e : Int), need, (a : Int), par, nxt⟩ := ⟨_, rfl⟩
  rw [← hl] at ks ⊢
  have KS := Lib.hid ks
  obtain ⟨W, hW⟩ : ∃ W, W = (w.alloc (.cells (chC c (.slice (some ⟨b2, o2, none⟩) c.mdl.bats.length ca) (.slice (some ⟨b3, o3, none⟩) c.mdl.bows.length ca1) (.slice (some ⟨b1, o1, none⟩) c.bows.length ca2) (.slice (some ⟨b0, o0, none⟩) c.ord.length ca3)) 28)).alloc (.cells #[.int .i64 (e : Int), .int .i64 need, .int .i64 (a : Int), .int .i64 par, .int .i64 nxt] 30) := ⟨_, rfl⟩
  have hx2 : CSB w W w.heap.size c (.slice (some ⟨b2, o2, none⟩) c.mdl.bats.length ca) (.slice (some ⟨b3, o3, none⟩) c.mdl.bows.length ca1) (.slice (some ⟨b1, o1, none⟩) c.bows.length ca2) (.slice (some ⟨b0, o0, none⟩) c.ord.length ca3) ⟨(e : Int), need, (a : Int), par, nxt⟩ := by rw [hW]; exact hx
  have y0 : W.cell? ⟨b0, o0 + a, none⟩ = some (.int .i64 (i : Int)) := (hx2.bel.cell (p := ⟨b0, o0 + a, none⟩) hb0).trans z0
  have y1 : W.cell? ⟨b1, o1 + e, none⟩ = some (.int .i64 (j : Int)) := (hx2.bel.cell (p := ⟨b1, o1 + e, none⟩) hb1).trans z1
  have y2 : W.cell? ⟨b2, o2 + i * 2 + 1, none⟩ = some v := (hx2.bel.cell (p := ⟨b2, o2 + i * 2 + 1, none⟩) hb2).trans z2
  have y3 : W.cell? ⟨b3, o3 + j * 2 + 1, none⟩ = some (.int .i64 n) := (hx2.bel.cell (p := ⟨b3, o3 + j * 2 + 1, none⟩) hb3).trans z3
  have HX2 := Lib.hid hx2
  have Z0 := Lib.hid z0
  have Z1 := Lib.hid z1
  have Z2 := Lib.hid z2
  have Z3 := Lib.hid z3
  have B0 := Lib.hid hb0
  have B1 := Lib.hid hb1
  have B2 := Lib.hid hb2
  have B3 := Lib.hid hb3
  have HW := Lib.hid hW
  have p1 : (0 : Int) ≤ (a : Int) := by omega
  have p2 : (a : Int) < (c.ord.length : Int) := by omega
  have p3 : (0 : Int) ≤ (e : Int) := by omega
  have p4 : (e : Int) < (c.bows.length : Int) := by omega
  have p5 : (0 : Int) ≤ (i : Int) := by omega
  have p6 : (i : Int) < (c.mdl.bats.length : Int) := by omega
  have p7 : (0 : Int) ≤ (j : Int) := by omega
  have p8 : (j : Int) < (c.mdl.bows.length : Int) := by omega
  clear hq1 hq2 hq3 hq4 hq5 ks hn hl hsh hv z0 z1 z2 z3 hb0 hb1 hb2 hb3 ga ge gi gj la le li lj e1 e2 f1 f2 s0 s1 i0 i1 j0 j1 sn sx sb h1 hs hc hx h HM HX hx2 hW y0 y1 y2 y3
  go_enter Tryz.func31, Tryz.ntmps31
  go_wp2
  unfold chC at HW
  rw [← HW.out]
  clear HW
  have y0 : W.cell? ⟨b0, o0 + a, none⟩ = some (.int .i64 (i : Int)) := (HX2.out.bel.cell (p := ⟨b0, o0 + a, none⟩) B0.out).trans Z0.out
  have y1 : W.cell? ⟨b1, o1 + e, none⟩ = some (.int .i64 (j : Int)) := (HX2.out.bel.cell (p := ⟨b1, o1 + e, none⟩) B1.out).trans Z1.out
  have y2 : W.cell? ⟨b2, o2 + i * 2 + 1, none⟩ = some v := (HX2.out.bel.cell (p := ⟨b2, o2 + i * 2 + 1, none⟩) B2.out).trans Z2.out
  have y3 : W.cell? ⟨b3, o3 + j * 2 + 1, none⟩ = some (.int .i64 n) := (HX2.out.bel.cell (p := ⟨b3, o3 + j * 2 + 1, none⟩) B3.out).trans Z3.out
  obtain ⟨x0, x1, x2, x3, x4, x5, x6, t0, t1, t2, t3, t4⟩ := HX2.out.cells
  dsimp only at t0 t1 t2 t3 t4
  have HXD := Lib.hid HX2.out.drew
  go_region_held3 (fun w' => w'.cell? ⟨w.heap.size, 0, none⟩ = some (.slice (some ⟨b2, o2, none⟩) c.mdl.bats.length ca) ∧ w'.cell? ⟨w.heap.size, 1, none⟩ = some (.slice (some ⟨b3, o3, none⟩) c.mdl.bows.length ca1) ∧ w'.cell? ⟨w.heap.size, 2, none⟩ = some (.slice (some ⟨b1, o1, none⟩) c.bows.length ca2) ∧ w'.cell? ⟨w.heap.size, 6, none⟩ = some (.slice (some ⟨b0, o0, none⟩) c.ord.length ca3) ∧ w'.cell? ⟨w.heap.size + 1, 0, none⟩ = some (.int .i64 (e : Int)) ∧ w'.cell? ⟨w.heap.size + 1, 2, none⟩ = some (.int .i64 (a : Int)) ∧ w'.cell? ⟨b0, o0 + a, none⟩ = some (.int .i64 (i : Int)) ∧ w'.cell? ⟨b1, o1 + e, none⟩ = some (.int .i64 (j : Int)) ∧ w'.cell? ⟨b2, o2 + i * 2 + 1, none⟩ = some v ∧ w'.cell? ⟨b3, o3 + j * 2 + 1, none⟩ = some (.int .i64 n)) (first | exact ⟨x0, x1, x2, x6, t0, t2, u0, u1, u2, u3⟩ | exact ⟨x0, x1, x2, x6, t0, t2, y0, y1, y2, y3⟩ | go_keep) ((go_at_call 50; refine (KS.out _ HXD.out.bel).mono ?_; rintro e4 w4 ⟨v4, rfl, hs4, hb4⟩; obtain ⟨A4, c4, rfl, hc41, hc42⟩ := hs4.shape; have HX4 := Lib.hid (HXD.out.below hb4); obtain ⟨x0, x1, x2, x3, x4, x5, x6, t0, t1, t2, t3, t4⟩ := HX4.out.cells; dsimp only at t0 t1 t2 t3 t4; have u0 := (hb4.cell (p := ⟨b0, o0 + a, none⟩) (Nat.lt_of_lt_of_le B0.out HXD.out.bel.size)).trans y0; have u1 := (hb4.cell (p := ⟨b1, o1 + e, none⟩) (Nat.lt_of_lt_of_le B1.out HXD.out.bel.size)).trans y1; have u2 := (hb4.cell (p := ⟨b2, o2 + i * 2 + 1, none⟩) (Nat.lt_of_lt_of_le B2.out HXD.out.bel.size)).trans y2; have u3 := (hb4.cell (p := ⟨b3, o3 + j * 2 + 1, none⟩) (Nat.lt_of_lt_of_le B3.out HXD.out.bel.size)).trans y3; have HS4 := Lib.hid hs4; clear hs4 hb4))
  all_goals go_wp2
  go_ret
  exact ⟨_, _, _, rfl, HX4.out.bel, HS4.out.keep elOtc_good (Same.refl _ _) fun b h => ⟨Nat.le_trans HXD.out.bel.size h.1, h.2⟩⟩
set_option maxRecDepth 100000 in
set_option maxHeartbeats 4000000 in
theorem ch44_Moves (c : Chs) (s : Cst) (bv wv pv ov : Value) (w : World) (h : ChAt w (· < w.heap.size) bv wv pv ov c) :
    Calls Tryz.prog 16 #[chV c bv wv pv ov, stV s] w (OtcPost w (movesC c s)) := by
  unfold chV stV
  obtain ⟨ball, need, str, par, nxt⟩ := s
  obtain ⟨A, ca, rfl, hc1, hc2⟩ := h.mdl.bat.shape
  obtain ⟨A1, ca1, rfl, hc3, hc4⟩ := h.mdl.bow.shape
  obtain ⟨A2, ca2, rfl, hc5, hc6⟩ := h.bow.shape
  obtain ⟨A3, ca3, rfl, hc7, hc8⟩ := h.ord.shape
  have hx := CSB.new w c (.slice A c.mdl.bats.length ca) (.slice A1 c.mdl.bows.length ca1) (.slice A2 c.bows.length ca2) (.slice A3 c.ord.length ca3) ⟨ball, need, str, par, nxt⟩
  have HX := Lib.hid hx
  have HM := Lib.hid h
  obtain ⟨z, hz⟩ : ∃ z, z = movesC c ⟨ball, need, str, par, nxt⟩ := ⟨_, rfl⟩
  rw [← hz]
  unfold movesC at hz
  have k1 := fun W (hW : Below w.heap.size w W) => ch44_CheckState c ⟨ball, need, str, par, nxt⟩ _ _ _ _ W (HM.out.below hW)
  have k2 := fun (hs : OkS c ⟨ball, need, str, par, nxt⟩) W (hW : Below w.heap.size w W) => ch44_status c ⟨ball, need, str, par, nxt⟩ _ _ _ _ W (HM.out.below hW) hs
  have k3 := fun (hc : OkC c) (hs : OkS c ⟨ball, need, str, par, nxt⟩) (h1 : stC c ⟨ball, need, str, par, nxt⟩ = 1) W (hW : Below w.heap.size w W) => ch44_moves c ⟨ball, need, str, par, nxt⟩ _ _ _ _ W (HM.out.below hW) hc hs h1
  have hok := fun h => (chst_ok (c := c) (s := ⟨ball, need, str, par, nxt⟩) h).2
  unfold chV stV at k1 k2 k3
  dsimp only at k1 k2 k3
  obtain ⟨u, hu⟩ : ∃ u, u = chstC c ⟨ball, need, str, par, nxt⟩ := ⟨_, rfl⟩
  obtain ⟨v, hv⟩ : ∃ v, v = stC c ⟨ball, need, str, par, nxt⟩ := ⟨_, rfl⟩
  rw [← hu] at k1 hz hok
  rw [← hv] at k2 k3 hz
  have K1 := Lib.hid k1
  have tok0 : True := trivial
  clear k1 hu h hx
  by_cases h0 : u = 0
  · rw [if_neg (by omega)] at hz
    have K2 := Lib.hid (k2 (hok h0).2)
    have eu : (u != 0) = false := by simp [h0]
    by_cases hv1 : v = 1
    · rw [if_neg (by omega)] at hz
      have K3 := Lib.hid (k3 (hok h0).1 (hok h0).2 hv1)
      have ev : (v != 1) = false := by simp [hv1]
      have HZ := Lib.hid hz
      clear hz h0 hok k2 k3 hv1 hv
      go_enter Tryz.func16, Tryz.ntmps16
      go_wp2_with (first
        | (clear tok0; go_at_call 12; refine (K1.out _ HX.out.bel).mono ?_; rintro e w2 ⟨rfl, hb2⟩; have HX2 := Lib.hid (HX.out.below hb2); obtain ⟨x0, x1, x2, x3, x4, x5, x6, y0, y1, y2, y3, y4⟩ := HX2.out.cells; clear hb2; have tok1 : True := trivial)
        | (clear tok1; go_at_call 30; refine (K2.out _ HX2.out.bel).mono ?_; rintro e w3 ⟨rfl, hb3⟩; have HX3 := Lib.hid (HX2.out.below hb3); obtain ⟨x0, x1, x2, x3, x4, x5, x6, y0, y1, y2, y3, y4⟩ := HX3.out.cells; clear hb3; have tok2 : True := trivial)
        | (clear tok2; go_at_call 31; refine (K3.out _ HX3.out.bel).mono ?_; rintro e w4 ⟨A4, n4, k4, rfl, hb4, hs4⟩; have HS4 := Lib.hid hs4; have HX4 := Lib.hid (HX3.out.below hb4); clear hb4 hs4; have tok3 : True := trivial))
      go_ret2
      rw [HZ.out]
      exact ⟨_, rfl, HS4.out.keep elOtc_good (Same.refl _ _) fun b h => ⟨Nat.le_trans HX3.out.bel.size h.1, h.2⟩, HX4.out.bel⟩
    · rw [if_pos hv1] at hz
      have ev : (v != 1) = true := by simp [hv1]
      have HZ := Lib.hid hz
      clear hz h0 hok k2 k3 hv1 hv
      go_enter Tryz.func16, Tryz.ntmps16
      go_wp2_with (first
        | (clear tok0; go_at_call 12; refine (K1.out _ HX.out.bel).mono ?_; rintro e w2 ⟨rfl, hb2⟩; have HX2 := Lib.hid (HX.out.below hb2); obtain ⟨x0, x1, x2, x3, x4, x5, x6, y0, y1, y2, y3, y4⟩ := HX2.out.cells; clear hb2; have tok1 : True := trivial)
        | (clear tok1; go_at_call 30; refine (K2.out _ HX2.out.bel).mono ?_; rintro e w3 ⟨rfl, hb3⟩; have HX3 := Lib.hid (HX2.out.below hb3); obtain ⟨x0, x1, x2, x3, x4, x5, x6, y0, y1, y2, y3, y4⟩ := HX3.out.cells; clear hb3; have tok2 : True := trivial))
      go_ret2
      exact otc_nil HX3.out.bel HZ.out
  · rw [if_pos h0] at hz
    have HZ := Lib.hid hz
    have eu : (u != 0) = true := by simp [h0]
    clear hz h0 hok k2 k3 hv
    go_enter Tryz.func16, Tryz.ntmps16
    go_wp2_with (clear tok0; go_at_call 12; refine (K1.out _ HX.out.bel).mono ?_; rintro e w2 ⟨rfl, hb2⟩; have HX2 := Lib.hid (HX.out.below hb2); obtain ⟨x0, x1, x2, x3, x4, x5, x6, y0, y1, y2, y3, y4⟩ := HX2.out.cells; clear hb2; have tok1 : True := trivial)
    go_ret2
    exact otc_nil HX2.out.bel HZ.out
theorem ch44_start_ret {R' : Ending → World → Prop} {a : Act} {w : World} {x0 x1 x2 x3 x4 v : Value} {g : Nat} (h2 : a.tmps[2]? = some (.pointer (some ⟨g, 0, none⟩))) (h3 : a.tmps[3]? = some v) (hb : Blk w g 30 #[x0, x1, x2, x3, x4])
    (hd : a.defers = []) (hR : R' (.returned (.tuple #[.agg #[x0, x1, x2, x3, x4], v])) w) : bodyPost Tryz.prog Tryz.f14 R' .ret a w := by
  have r0 := hb.cell 0
  have r1 := hb.cell 1
  have r2 := hb.cell 2
  have r3 := hb.cell 3
  have r4 := hb.cell 4
  simp only [List.getElem?_toArray, List.getElem?_cons_zero, List.getElem?_cons_succ] at r0 r1 r2 r3 r4
  refine bodyPost_ret (v := .tuple #[.agg #[x0, x1, x2, x3, x4], v]) (by simp [results, Tryz.results14, go_sem, h2, h3, r0, r1, r2, r3, r4]) hd hR
set_option maxRecDepth 100000 in
set_option maxHeartbeats 4000000 in
theorem ch44_Start (c : Chs) (bv wv pv ov : Value) (w : World) (h : ChAt w (· < w.heap.size) bv wv pv ov c) :
    Calls Tryz.prog 14 #[chV c bv wv pv ov] w fun e w' => e = .returned (.tuple #[stV (startC c).1, .int .i64 (startC c).2]) ∧ Below w.heap.size w w' := by
  unfold chV
  obtain ⟨z, hz⟩ : ∃ z, z = startC c := ⟨_, rfl⟩
  rw [← hz]
  unfold startC at hz
  have hx := ChB.new w c bv wv pv ov
  have k1 := fun W (hW : Below w.heap.size w W) => ch44_Check c _ _ _ _ W (h.below hW)
  unfold chV at k1
  obtain ⟨u, hu⟩ : ∃ u, u = checkC c := ⟨_, rfl⟩
  rw [← hu] at k1 hz
  obtain ⟨A, ca, rfl, hc1, hc2⟩ := h.mdl.bat.shape
  obtain ⟨A1, ca1, rfl, hc3, hc4⟩ := h.mdl.bow.shape
  obtain ⟨A2, ca2, rfl, hc5, hc6⟩ := h.bow.shape
  obtain ⟨A3, ca3, rfl, hc7, hc8⟩ := h.ord.shape
  have HXR := Lib.hid (⟨hx.alloc (.cells #[.int .i64 0, .int .i64 0, .int .i64 0, .int .i64 0, .int .i64 0] 30), by have := Blk.new (w.alloc (.cells #[.slice A c.mdl.bats.length ca, .slice A1 c.mdl.bows.length ca1, .slice A2 c.bows.length ca2, .int .i64 c.over, .int .i64 c.done, .int .i64 c.need, .slice A3 c.ord.length ca3] 28)) 30 #[.int .i64 0, .int .i64 0, .int .i64 0, .int .i64 0, .int .i64 0]; rw [World.size_alloc] at this; exact this⟩ : ChB w ((w.alloc (.cells #[.slice A c.mdl.bats.length ca, .slice A1 c.mdl.bows.length ca1, .slice A2 c.bows.length ca2, .int .i64 c.over, .int .i64 c.done, .int .i64 c.need, .slice A3 c.ord.length ca3] 28)).alloc (.cells #[.int .i64 0, .int .i64 0, .int .i64 0, .int .i64 0, .int .i64 0] 30)) w.heap.size c (.slice A c.mdl.bats.length ca) (.slice A1 c.mdl.bows.length ca1) (.slice A2 c.bows.length ca2) (.slice A3 c.ord.length ca3) ∧ Blk ((w.alloc (.cells #[.slice A c.mdl.bats.length ca, .slice A1 c.mdl.bows.length ca1, .slice A2 c.bows.length ca2, .int .i64 c.over, .int .i64 c.done, .int .i64 c.need, .slice A3 c.ord.length ca3] 28)).alloc (.cells #[.int .i64 0, .int .i64 0, .int .i64 0, .int .i64 0, .int .i64 0] 30)) (w.heap.size + 1) 30 #[.int .i64 0, .int .i64 0, .int .i64 0, .int .i64 0, .int .i64 0])
  have K1 := Lib.hid k1
  clear k1 hu h hx
  by_cases h0 : u = 0
  · rw [if_neg (by omega)] at hz
    have HZ := Lib.hid hz
    have eu : (u != 0) = false := by simp [h0]
    clear hz h0
    go_enter Tryz.func14, Tryz.ntmps14
    go_wp2_with (go_at_call 18; refine (K1.out _ HXR.out.1.bel).mono ?_; rintro e w2 ⟨rfl, hb2⟩; have HX2 := Lib.hid (HXR.out.1.below hb2); have HR2 := Lib.hid (HXR.out.2.below hb2 HXR.out.2.lt); obtain ⟨x0, x1, x2, x3, x4, x5, x6⟩ := HX2.out.cells; have y0 := HR2.out.cell 0; have y1 := HR2.out.cell 1; have y2 := HR2.out.cell 2; have y3 := HR2.out.cell 3; have y4 := HR2.out.cell 4; have g0 := HR2.out.frozen 0; have g1 := HR2.out.frozen 1; have g2 := HR2.out.frozen 2; have g3 := HR2.out.frozen 3; have g4 := HR2.out.frozen 4; simp only [List.getElem?_toArray, List.getElem?_cons_zero, List.getElem?_cons_succ] at y0 y1 y2 y3 y4; clear hb2)
    refine ch44_start_ret rfl rfl (HR2.out.put5 _ _ _ _ _) rfl ⟨by rw [HZ.out]; rfl, ?_⟩
    exact below_set5 HX2.out.bel (by omega) _ _ _ _ _
  · rw [if_pos h0] at hz
    have HZ := Lib.hid hz
    have eu : (u != 0) = true := by simp [h0]
    clear hz h0
    go_enter Tryz.func14, Tryz.ntmps14
    go_wp2_with (go_at_call 18; refine (K1.out _ HXR.out.1.bel).mono ?_; rintro e w2 ⟨rfl, hb2⟩; have HX2 := Lib.hid (HXR.out.1.below hb2); have HR2 := Lib.hid (HXR.out.2.below hb2 HXR.out.2.lt); obtain ⟨x0, x1, x2, x3, x4, x5, x6⟩ := HX2.out.cells; have y0 := HR2.out.cell 0; have y1 := HR2.out.cell 1; have y2 := HR2.out.cell 2; have y3 := HR2.out.cell 3; have y4 := HR2.out.cell 4; have g0 := HR2.out.frozen 0; have g1 := HR2.out.frozen 1; have g2 := HR2.out.frozen 2; have g3 := HR2.out.frozen 3; have g4 := HR2.out.frozen 4; simp only [List.getElem?_toArray, List.getElem?_cons_zero, List.getElem?_cons_succ] at y0 y1 y2 y3 y4; clear hb2)
    refine ch44_start_ret rfl rfl (HR2.out.put5 _ _ _ _ _) rfl ⟨by rw [HZ.out]; rfl, ?_⟩
    exact below_set5 HX2.out.bel (by omega) _ _ _ _ _
set_option maxRecDepth 100000 in
set_option maxHeartbeats 4000000 in
theorem r44_moves (c : Chs) (s : Cst) (bv wv pv ov : Value) (w : World) (h : ChAt w (· < w.heap.size) bv wv pv ov c) (hc : OkC c) (hs : OkS c s) (h1 : stC c s = 1) :
    Calls Tryz.prog 33 #[chV c bv wv pv ov, stV s] w fun e w' => ∃ A n k, e = .returned (.slice A n k) ∧ Below w.heap.size w w' ∧ Sl 3 elOtc w' (fun b => w.heap.size ≤ b ∧ b < w'.heap.size) (.slice A n k) (mvC c s) := by
  unfold chV stV
  obtain ⟨ball, need, str, par, nxt⟩ := s
  obtain ⟨A, ca, rfl, hc1, hc2⟩ := h.mdl.bat.shape
  obtain ⟨A1, ca1, rfl, hc3, hc4⟩ := h.mdl.bow.shape
  obtain ⟨A2, ca2, rfl, hc5, hc6⟩ := h.bow.shape
  obtain ⟨A3, ca3, rfl, hc7, hc8⟩ := h.ord.shape
  have hx := CSB.new w c (.slice A c.mdl.bats.length ca) (.slice A1 c.mdl.bows.length ca1) (.slice A2 c.bows.length ca2) (.slice A3 c.ord.length ca3) ⟨ball, need, str, par, nxt⟩
  have HX := Lib.hid hx
  have HM := Lib.hid h
  obtain ⟨i, j, bt, bw, e1, e2, s0, s1, i0, i1, j0, j1, f1, f2, hsh, hq5⟩ := mvC_at hc hs h1
  have sn := hs.str.2
  have sx := hs.nxt.2
  have sb := hs.ball.1
  dsimp only at e1 e2 s0 s1 sn sx sb
  obtain ⟨a, rfl⟩ : ∃ a : Nat, str = (a : Int) := ⟨str.toNat, by omega⟩
  obtain ⟨e, rfl⟩ : ∃ a : Nat, ball = (a : Int) := ⟨ball.toNat, by omega⟩
  obtain ⟨i, rfl⟩ : ∃ a : Nat, i = (a : Int) := ⟨i.toNat, by omega⟩
  obtain ⟨j, rfl⟩ : ∃ a : Nat, j = (a : Int) := ⟨j.toNat, by omega⟩
  rw [Int.toNat_natCast] at e1 e2 f1 f2
  have la : a < c.ord.length := by omega
  have le : e < c.bows.length := by omega
  have li : i < c.mdl.bats.length := by omega
  have lj : j < c.mdl.bows.length := by omega
  have ga : c.ord[a] = (i : Int) := by rw [List.getElem?_eq_getElem la] at e1; exact Option.some.inj e1
  have ge : c.bows[e] = (j : Int) := by rw [List.getElem?_eq_getElem le] at e2; exact Option.some.inj e2
  have gi : c.mdl.bats[i] = bt := by rw [List.getElem?_eq_getElem li] at f1; exact Option.some.inj f1
  have gj : c.mdl.bows[j] = bw := by rw [List.getElem?_eq_getElem lj] at f2; exact Option.some.inj f2
  obtain ⟨b0, o0, rfl, hb0, z0⟩ := int_at h.ord la
  obtain ⟨b1, o1, rfl, hb1, z1⟩ := int_at h.bow le
  obtain ⟨b2, o2, v, rfl, hb2, hq3, z2, hv, hq1⟩ := bat_at h.mdl.bat li
  obtain ⟨b3, o3, rfl, hb3, hq4, z3, hq2⟩ := bow_at h.mdl.bow lj
  rw [ga] at z0
  rw [ge] at z1
  rw [gi] at hv
  rw [gj] at z3
  have ks := fun W (hW : Below w.heap.size w W) => r_Shift bt.dist v bw.shift W (hv.keep elOtc_good (Same.of_below hW) fun b h => Nat.lt_of_lt_of_le h hW.size)
  rw [hsh] at ks
  obtain ⟨n, hn⟩ : ∃ n, n = bw.shift := ⟨_, rfl⟩
  rw [← hn] at ks z3
  obtain ⟨l, hl⟩ : ∃ l, l = mvC c ⟨(e : Int), need, (a : Int), par, nxt⟩ := ⟨_, rfl⟩
  rw [← hl] at ks ⊢
  have KS := Lib.hid ks
  obtain ⟨W, hW⟩ : ∃ W, W = (w.alloc (.cells (chC c (.slice (some ⟨b2, o2, none⟩) c.mdl.bats.length ca) (.slice (some ⟨b3, o3, none⟩) c.mdl.bows.length ca1) (.slice (some ⟨b1, o1, none⟩) c.bows.length ca2) (.slice (some ⟨b0, o0, none⟩) c.ord.length ca3)) 28)).alloc (.cells #[.int .i64 (e : Int), .int .i64 need, .int .i64 (a : Int), .int .i64 par, .int .i64 nxt] 30) := ⟨_, rfl⟩
  have hx2 : CSB w W w.heap.size c (.slice (some ⟨b2, o2, none⟩) c.mdl.bats.length ca) (.slice (some ⟨b3, o3, none⟩) c.mdl.bows.length ca1) (.slice (some ⟨b1, o1, none⟩) c.bows.length ca2) (.slice (some ⟨b0, o0, none⟩) c.ord.length ca3) ⟨(e : Int), need, (a : Int), par, nxt⟩ := by rw [hW]; exact hx
  have y0 : W.cell? ⟨b0, o0 + a, none⟩ = some (.int .i64 (i : Int)) := (hx2.bel.cell (p := ⟨b0, o0 + a, none⟩) hb0).trans z0
  have y1 : W.cell? ⟨b1, o1 + e, none⟩ = some (.int .i64 (j : Int)) := (hx2.bel.cell (p := ⟨b1, o1 + e, none⟩) hb1).trans z1
  have y2 : W.cell? ⟨b2, o2 + i * 2 + 1, none⟩ = some v := (hx2.bel.cell (p := ⟨b2, o2 + i * 2 + 1, none⟩) hb2).trans z2
  have y3 : W.cell? ⟨b3, o3 + j * 2 + 1, none⟩ = some (.int .i64 n) := (hx2.bel.cell (p := ⟨b3, o3 + j * 2 + 1, none⟩) hb3).trans z3
  have HX2 := Lib.hid hx2
  have Z0 := Lib.hid z0
  have Z1 := Lib.hid z1
  have Z2 := Lib.hid z2
  have Z3 := Lib.hid z3
  have B0 := Lib.hid hb0
  have B1 := Lib.hid hb1
  have B2 := Lib.hid hb2
  have B3 := Lib.hid hb3
  have HW := Lib.hid hW
  have p1 : (0 : Int) ≤ (a : Int) := by omega
  have p2 : (a : Int) < (c.ord.length : Int) := by omega
  have p3 : (0 : Int) ≤ (e : Int) := by omega
  have p4 : (e : Int) < (c.bows.length : Int) := by omega
  have p5 : (0 : Int) ≤ (i : Int) := by omega
  have p6 : (i : Int) < (c.mdl.bats.length : Int) := by omega
  have p7 : (0 : Int) ≤ (j : Int) := by omega
  have p8 : (j : Int) < (c.mdl.bows.length : Int) := by omega
  clear hq1 hq2 hq3 hq4 hq5 ks hn hl hsh hv z0 z1 z2 z3 hb0 hb1 hb2 hb3 ga ge gi gj la le li lj e1 e2 f1 f2 s0 s1 i0 i1 j0 j1 sn sx sb h1 hs hc hx h HM HX hx2 hW y0 y1 y2 y3
  go_enter Tryz.func33, Tryz.ntmps33
  go_wp2
  unfold chC at HW
  rw [← HW.out]
  clear HW
  have y0 : W.cell? ⟨b0, o0 + a, none⟩ = some (.int .i64 (i : Int)) := (HX2.out.bel.cell (p := ⟨b0, o0 + a, none⟩) B0.out).trans Z0.out
  have y1 : W.cell? ⟨b1, o1 + e, none⟩ = some (.int .i64 (j : Int)) := (HX2.out.bel.cell (p := ⟨b1, o1 + e, none⟩) B1.out).trans Z1.out
  have y2 : W.cell? ⟨b2, o2 + i * 2 + 1, none⟩ = some v := (HX2.out.bel.cell (p := ⟨b2, o2 + i * 2 + 1, none⟩) B2.out).trans Z2.out
  have y3 : W.cell? ⟨b3, o3 + j * 2 + 1, none⟩ = some (.int .i64 n) := (HX2.out.bel.cell (p := ⟨b3, o3 + j * 2 + 1, none⟩) B3.out).trans Z3.out
  obtain ⟨x0, x1, x2, x3, x4, x5, x6, t0, t1, t2, t3, t4⟩ := HX2.out.cells
  dsimp only at t0 t1 t2 t3 t4
  have HXD := Lib.hid HX2.out.drew
  go_region_held3 (fun w' => w'.cell? ⟨w.heap.size, 0, none⟩ = some (.slice (some ⟨b2, o2, none⟩) c.mdl.bats.length ca) ∧ w'.cell? ⟨w.heap.size, 1, none⟩ = some (.slice (some ⟨b3, o3, none⟩) c.mdl.bows.length ca1) ∧ w'.cell? ⟨w.heap.size, 2, none⟩ = some (.slice (some ⟨b1, o1, none⟩) c.bows.length ca2) ∧ w'.cell? ⟨w.heap.size, 6, none⟩ = some (.slice (some ⟨b0, o0, none⟩) c.ord.length ca3) ∧ w'.cell? ⟨w.heap.size + 1, 0, none⟩ = some (.int .i64 (e : Int)) ∧ w'.cell? ⟨w.heap.size + 1, 2, none⟩ = some (.int .i64 (a : Int)) ∧ w'.cell? ⟨b0, o0 + a, none⟩ = some (.int .i64 (i : Int)) ∧ w'.cell? ⟨b1, o1 + e, none⟩ = some (.int .i64 (j : Int)) ∧ w'.cell? ⟨b2, o2 + i * 2 + 1, none⟩ = some v ∧ w'.cell? ⟨b3, o3 + j * 2 + 1, none⟩ = some (.int .i64 n)) (first | exact ⟨x0, x1, x2, x6, t0, t2, u0, u1, u2, u3⟩ | exact ⟨x0, x1, x2, x6, t0, t2, y0, y1, y2, y3⟩ | go_keep) ((go_at_call 51; refine (KS.out _ HXD.out.bel).mono ?_; rintro e4 w4 ⟨v4, rfl, hs4, hb4⟩; obtain ⟨A4, c4, rfl, hc41, hc42⟩ := hs4.shape; have HX4 := Lib.hid (HXD.out.below hb4); obtain ⟨x0, x1, x2, x3, x4, x5, x6, t0, t1, t2, t3, t4⟩ := HX4.out.cells; dsimp only at t0 t1 t2 t3 t4; have u0 := (hb4.cell (p := ⟨b0, o0 + a, none⟩) (Nat.lt_of_lt_of_le B0.out HXD.out.bel.size)).trans y0; have u1 := (hb4.cell (p := ⟨b1, o1 + e, none⟩) (Nat.lt_of_lt_of_le B1.out HXD.out.bel.size)).trans y1; have u2 := (hb4.cell (p := ⟨b2, o2 + i * 2 + 1, none⟩) (Nat.lt_of_lt_of_le B2.out HXD.out.bel.size)).trans y2; have u3 := (hb4.cell (p := ⟨b3, o3 + j * 2 + 1, none⟩) (Nat.lt_of_lt_of_le B3.out HXD.out.bel.size)).trans y3; have HS4 := Lib.hid hs4; clear hs4 hb4))
  all_goals go_wp2
  go_ret
  exact ⟨_, _, _, rfl, HX4.out.bel, HS4.out.keep elOtc_good (Same.refl _ _) fun b h => ⟨Nat.le_trans HXD.out.bel.size h.1, h.2⟩⟩
set_option maxRecDepth 100000 in
set_option maxHeartbeats 4000000 in
theorem r44_Moves (c : Chs) (s : Cst) (bv wv pv ov : Value) (w : World) (h : ChAt w (· < w.heap.size) bv wv pv ov c) :
    Calls Tryz.prog 17 #[chV c bv wv pv ov, stV s] w (OtcPost w (movesC c s)) := by
  unfold chV stV
  obtain ⟨ball, need, str, par, nxt⟩ := s
  obtain ⟨A, ca, rfl, hc1, hc2⟩ := h.mdl.bat.shape
  obtain ⟨A1, ca1, rfl, hc3, hc4⟩ := h.mdl.bow.shape
  obtain ⟨A2, ca2, rfl, hc5, hc6⟩ := h.bow.shape
  obtain ⟨A3, ca3, rfl, hc7, hc8⟩ := h.ord.shape
  have hx := CSB.new w c (.slice A c.mdl.bats.length ca) (.slice A1 c.mdl.bows.length ca1) (.slice A2 c.bows.length ca2) (.slice A3 c.ord.length ca3) ⟨ball, need, str, par, nxt⟩
  have HX := Lib.hid hx
  have HM := Lib.hid h
  obtain ⟨z, hz⟩ : ∃ z, z = movesC c ⟨ball, need, str, par, nxt⟩ := ⟨_, rfl⟩
  rw [← hz]
  unfold movesC at hz
  have k1 := fun W (hW : Below w.heap.size w W) => r44_CheckState c ⟨ball, need, str, par, nxt⟩ _ _ _ _ W (HM.out.below hW)
  have k2 := fun (hs : OkS c ⟨ball, need, str, par, nxt⟩) W (hW : Below w.heap.size w W) => r44_status c ⟨ball, need, str, par, nxt⟩ _ _ _ _ W (HM.out.below hW) hs
  have k3 := fun (hc : OkC c) (hs : OkS c ⟨ball, need, str, par, nxt⟩) (h1 : stC c ⟨ball, need, str, par, nxt⟩ = 1) W (hW : Below w.heap.size w W) => r44_moves c ⟨ball, need, str, par, nxt⟩ _ _ _ _ W (HM.out.below hW) hc hs h1
  have hok := fun h => (chst_ok (c := c) (s := ⟨ball, need, str, par, nxt⟩) h).2
  unfold chV stV at k1 k2 k3
  dsimp only at k1 k2 k3
  obtain ⟨u, hu⟩ : ∃ u, u = chstC c ⟨ball, need, str, par, nxt⟩ := ⟨_, rfl⟩
  obtain ⟨v, hv⟩ : ∃ v, v = stC c ⟨ball, need, str, par, nxt⟩ := ⟨_, rfl⟩
  rw [← hu] at k1 hz hok
  rw [← hv] at k2 k3 hz
  have K1 := Lib.hid k1
  have tok0 : True := trivial
  clear k1 hu h hx
  by_cases h0 : u = 0
  · rw [if_neg (by omega)] at hz
    have K2 := Lib.hid (k2 (hok h0).2)
    have eu : (u != 0) = false := by simp [h0]
    by_cases hv1 : v = 1
    · rw [if_neg (by omega)] at hz
      have K3 := Lib.hid (k3 (hok h0).1 (hok h0).2 hv1)
      have ev : (v != 1) = false := by simp [hv1]
      have HZ := Lib.hid hz
      clear hz h0 hok k2 k3 hv1 hv
      go_enter Tryz.func17, Tryz.ntmps17
      go_wp2_with (first
        | (clear tok0; go_at_call 20; refine (K1.out _ HX.out.bel).mono ?_; rintro e w2 ⟨rfl, hb2⟩; have HX2 := Lib.hid (HX.out.below hb2); obtain ⟨x0, x1, x2, x3, x4, x5, x6, y0, y1, y2, y3, y4⟩ := HX2.out.cells; clear hb2; have tok1 : True := trivial)
        | (clear tok1; go_at_call 32; refine (K2.out _ HX2.out.bel).mono ?_; rintro e w3 ⟨rfl, hb3⟩; have HX3 := Lib.hid (HX2.out.below hb3); obtain ⟨x0, x1, x2, x3, x4, x5, x6, y0, y1, y2, y3, y4⟩ := HX3.out.cells; clear hb3; have tok2 : True := trivial)
        | (clear tok2; go_at_call 33; refine (K3.out _ HX3.out.bel).mono ?_; rintro e w4 ⟨A4, n4, k4, rfl, hb4, hs4⟩; have HS4 := Lib.hid hs4; have HX4 := Lib.hid (HX3.out.below hb4); clear hb4 hs4; have tok3 : True := trivial))
      go_ret2
      rw [HZ.out]
      exact ⟨_, rfl, HS4.out.keep elOtc_good (Same.refl _ _) fun b h => ⟨Nat.le_trans HX3.out.bel.size h.1, h.2⟩, HX4.out.bel⟩
    · rw [if_pos hv1] at hz
      have ev : (v != 1) = true := by simp [hv1]
      have HZ := Lib.hid hz
      clear hz h0 hok k2 k3 hv1 hv
      go_enter Tryz.func17, Tryz.ntmps17
      go_wp2_with (first
        | (clear tok0; go_at_call 20; refine (K1.out _ HX.out.bel).mono ?_; rintro e w2 ⟨rfl, hb2⟩; have HX2 := Lib.hid (HX.out.below hb2); obtain ⟨x0, x1, x2, x3, x4, x5, x6, y0, y1, y2, y3, y4⟩ := HX2.out.cells; clear hb2; have tok1 : True := trivial)
        | (clear tok1; go_at_call 32; refine (K2.out _ HX2.out.bel).mono ?_; rintro e w3 ⟨rfl, hb3⟩; have HX3 := Lib.hid (HX2.out.below hb3); obtain ⟨x0, x1, x2, x3, x4, x5, x6, y0, y1, y2, y3, y4⟩ := HX3.out.cells; clear hb3; have tok2 : True := trivial))
      go_ret2
      exact otc_nil HX3.out.bel HZ.out
  · rw [if_pos h0] at hz
    have HZ := Lib.hid hz
    have eu : (u != 0) = true := by simp [h0]
    clear hz h0 hok k2 k3 hv
    go_enter Tryz.func17, Tryz.ntmps17
    go_wp2_with (clear tok0; go_at_call 20; refine (K1.out _ HX.out.bel).mono ?_; rintro e w2 ⟨rfl, hb2⟩; have HX2 := Lib.hid (HX.out.below hb2); obtain ⟨x0, x1, x2, x3, x4, x5, x6, y0, y1, y2, y3, y4⟩ := HX2.out.cells; clear hb2; have tok1 : True := trivial)
    go_ret2
    exact otc_nil HX2.out.bel HZ.out
theorem r44_start_ret {R' : Ending → World → Prop} {a : Act} {w : World} {x0 x1 x2 x3 x4 v : Value} {g : Nat} (h2 : a.tmps[2]? = some (.pointer (some ⟨g, 0, none⟩))) (h3 : a.tmps[3]? = some v) (hb : Blk w g 30 #[x0, x1, x2, x3, x4])
    (hd : a.defers = []) (hR : R' (.returned (.tuple #[.agg #[x0, x1, x2, x3, x4], v])) w) : bodyPost Tryz.prog Tryz.f15 R' .ret a w := by
  have r0 := hb.cell 0
  have r1 := hb.cell 1
  have r2 := hb.cell 2
  have r3 := hb.cell 3
  have r4 := hb.cell 4
  simp only [List.getElem?_toArray, List.getElem?_cons_zero, List.getElem?_cons_succ] at r0 r1 r2 r3 r4
  refine bodyPost_ret (v := .tuple #[.agg #[x0, x1, x2, x3, x4], v]) (by simp [results, Tryz.results15, go_sem, h2, h3, r0, r1, r2, r3, r4]) hd hR
set_option maxRecDepth 100000 in
set_option maxHeartbeats 4000000 in
theorem r44_Start (c : Chs) (bv wv pv ov : Value) (w : World) (h : ChAt w (· < w.heap.size) bv wv pv ov c) :
    Calls Tryz.prog 15 #[chV c bv wv pv ov] w fun e w' => e = .returned (.tuple #[stV (startC c).1, .int .i64 (startC c).2]) ∧ Below w.heap.size w w' := by
  unfold chV
  obtain ⟨z, hz⟩ : ∃ z, z = startC c := ⟨_, rfl⟩
  rw [← hz]
  unfold startC at hz
  have hx := ChB.new w c bv wv pv ov
  have k1 := fun W (hW : Below w.heap.size w W) => r44_Check c _ _ _ _ W (h.below hW)
  unfold chV at k1
  obtain ⟨u, hu⟩ : ∃ u, u = checkC c := ⟨_, rfl⟩
  rw [← hu] at k1 hz
  obtain ⟨A, ca, rfl, hc1, hc2⟩ := h.mdl.bat.shape
  obtain ⟨A1, ca1, rfl, hc3, hc4⟩ := h.mdl.bow.shape
  obtain ⟨A2, ca2, rfl, hc5, hc6⟩ := h.bow.shape
  obtain ⟨A3, ca3, rfl, hc7, hc8⟩ := h.ord.shape
  have HXR := Lib.hid (⟨hx.alloc (.cells #[.int .i64 0, .int .i64 0, .int .i64 0, .int .i64 0, .int .i64 0] 30), by have := Blk.new (w.alloc (.cells #[.slice A c.mdl.bats.length ca, .slice A1 c.mdl.bows.length ca1, .slice A2 c.bows.length ca2, .int .i64 c.over, .int .i64 c.done, .int .i64 c.need, .slice A3 c.ord.length ca3] 28)) 30 #[.int .i64 0, .int .i64 0, .int .i64 0, .int .i64 0, .int .i64 0]; rw [World.size_alloc] at this; exact this⟩ : ChB w ((w.alloc (.cells #[.slice A c.mdl.bats.length ca, .slice A1 c.mdl.bows.length ca1, .slice A2 c.bows.length ca2, .int .i64 c.over, .int .i64 c.done, .int .i64 c.need, .slice A3 c.ord.length ca3] 28)).alloc (.cells #[.int .i64 0, .int .i64 0, .int .i64 0, .int .i64 0, .int .i64 0] 30)) w.heap.size c (.slice A c.mdl.bats.length ca) (.slice A1 c.mdl.bows.length ca1) (.slice A2 c.bows.length ca2) (.slice A3 c.ord.length ca3) ∧ Blk ((w.alloc (.cells #[.slice A c.mdl.bats.length ca, .slice A1 c.mdl.bows.length ca1, .slice A2 c.bows.length ca2, .int .i64 c.over, .int .i64 c.done, .int .i64 c.need, .slice A3 c.ord.length ca3] 28)).alloc (.cells #[.int .i64 0, .int .i64 0, .int .i64 0, .int .i64 0, .int .i64 0] 30)) (w.heap.size + 1) 30 #[.int .i64 0, .int .i64 0, .int .i64 0, .int .i64 0, .int .i64 0])
  have K1 := Lib.hid k1
  clear k1 hu h hx
  by_cases h0 : u = 0
  · rw [if_neg (by omega)] at hz
    have HZ := Lib.hid hz
    have eu : (u != 0) = false := by simp [h0]
    clear hz h0
    go_enter Tryz.func15, Tryz.ntmps15
    go_wp2_with (go_at_call 19; refine (K1.out _ HXR.out.1.bel).mono ?_; rintro e w2 ⟨rfl, hb2⟩; have HX2 := Lib.hid (HXR.out.1.below hb2); have HR2 := Lib.hid (HXR.out.2.below hb2 HXR.out.2.lt); obtain ⟨x0, x1, x2, x3, x4, x5, x6⟩ := HX2.out.cells; have y0 := HR2.out.cell 0; have y1 := HR2.out.cell 1; have y2 := HR2.out.cell 2; have y3 := HR2.out.cell 3; have y4 := HR2.out.cell 4; have g0 := HR2.out.frozen 0; have g1 := HR2.out.frozen 1; have g2 := HR2.out.frozen 2; have g3 := HR2.out.frozen 3; have g4 := HR2.out.frozen 4; simp only [List.getElem?_toArray, List.getElem?_cons_zero, List.getElem?_cons_succ] at y0 y1 y2 y3 y4; clear hb2)
    refine r44_start_ret rfl rfl (HR2.out.put5 _ _ _ _ _) rfl ⟨by rw [HZ.out]; rfl, ?_⟩
    exact below_set5 HX2.out.bel (by omega) _ _ _ _ _
  · rw [if_pos h0] at hz
    have HZ := Lib.hid hz
    have eu : (u != 0) = true := by simp [h0]
    clear hz h0
    go_enter Tryz.func15, Tryz.ntmps15
    go_wp2_with (go_at_call 19; refine (K1.out _ HXR.out.1.bel).mono ?_; rintro e w2 ⟨rfl, hb2⟩; have HX2 := Lib.hid (HXR.out.1.below hb2); have HR2 := Lib.hid (HXR.out.2.below hb2 HXR.out.2.lt); obtain ⟨x0, x1, x2, x3, x4, x5, x6⟩ := HX2.out.cells; have y0 := HR2.out.cell 0; have y1 := HR2.out.cell 1; have y2 := HR2.out.cell 2; have y3 := HR2.out.cell 3; have y4 := HR2.out.cell 4; have g0 := HR2.out.frozen 0; have g1 := HR2.out.frozen 1; have g2 := HR2.out.frozen 2; have g3 := HR2.out.frozen 3; have g4 := HR2.out.frozen 4; simp only [List.getElem?_toArray, List.getElem?_cons_zero, List.getElem?_cons_succ] at y0 y1 y2 y3 y4; clear hb2)
    refine r44_start_ret rfl rfl (HR2.out.put5 _ _ _ _ _) rfl ⟨by rw [HZ.out]; rfl, ?_⟩
    exact below_set5 HX2.out.bel (by omega) _ _ _ _ _
end Go.Proofs.YtcbkpjiaipabbaaGreatDoor

namespace Go.Proofs.YtcbkpjiaipabbaaGreatDoor
open Go.RowKit

theorem Blk.drewNB {w : World} {g : Nat} {t : TypeId} {cs : Array Value} (h : Blk w g t cs) (n : Nat) : Blk (w.drewN n) g t cs := h
theorem blk_r (w : World) (o1 o2 o3 : Obj) : Blk ((((w.alloc o1).alloc o2).alloc o3).alloc (.cells #[.int .i64 0, .int .i64 0, .int .i64 0, .int .i64 0, .int .i64 0] 30)) (w.heap.size + 1 + 1 + 1) 30 #[.int .i64 0, .int .i64 0, .int .i64 0, .int .i64 0, .int .i64 0] := by
  have h := Blk.new (((w.alloc o1).alloc o2).alloc o3) 30 #[.int .i64 0, .int .i64 0, .int .i64 0, .int .i64 0, .int .i64 0]
  rw [World.size_alloc, World.size_alloc, World.size_alloc] at h
  exact h
theorem blk_rv (w : World) (o1 o2 o3 : Obj) (x0 x1 x2 x3 x4 : Value) : Blk ((((w.alloc o1).alloc o2).alloc o3).alloc (.cells #[x0, x1, x2, x3, x4] 30)) (w.heap.size + 1 + 1 + 1) 30 #[x0, x1, x2, x3, x4] := by
  have h := Blk.new (((w.alloc o1).alloc o2).alloc o3) 30 #[x0, x1, x2, x3, x4]
  rw [World.size_alloc, World.size_alloc, World.size_alloc] at h
  exact h
theorem ne31 (n : Nat) : n + 1 + 1 + 1 ≠ n + 1 := by omega
theorem le3 (n : Nat) : n ≤ n + 1 + 1 + 1 := by omega
theorem le1 (n : Nat) : n ≤ n + 1 := by omega
theorem blk_far1 {W : World} {n : Nat} {t : TypeId} {cs : Array Value} (h : Blk W (n + 1 + 1 + 1) t cs) (i : Nat) (u : Value) : Blk (W.setCell ⟨n + 1, i, none⟩ u) (n + 1 + 1 + 1) t cs := h.far (ne31 n) u
theorem below_far1 {W a : World} {n : Nat} (h : Below n a W) (i : Nat) (u : Value) : Below n a (W.setCell ⟨n + 1, i, none⟩ u) := Below.setCell h (le1 n) u
theorem blk_swap {W : World} {n : Nat} {t : TypeId} {cs : Array Value} (h : Blk W (n + 1 + 1 + 1) t cs) (i j : Nat) (u v : Value) : Blk ((W.setCell ⟨n + 1, i, none⟩ u).setCell ⟨n + 1, j, none⟩ v) (n + 1 + 1 + 1) t cs := (h.far (ne31 n) u).far (ne31 n) v
theorem below_swap {W a : World} {n : Nat} (h : Below n a W) (i j : Nat) (u v : Value) : Below n a ((W.setCell ⟨n + 1, i, none⟩ u).setCell ⟨n + 1, j, none⟩ v) := Below.setCell (Below.setCell h (le1 n) u) (le1 n) v
theorem below_r (w : World) (o1 o2 o3 o4 : Obj) : Below w.heap.size w ((((w.alloc o1).alloc o2).alloc o3).alloc o4) :=
  Below.alloc (Below.alloc (Below.alloc (Below.alloc (Below.refl _ _) (Nat.le_refl _) o1) (by simp) o2) (by simp; omega) o3) (by simp; omega) o4
theorem ch44_step_ret {R' : Ending → World → Prop} {a : Act} {w : World} {x0 x1 x2 x3 x4 : Value} {g : Nat} (h2 : a.tmps[6]? = some (.pointer (some ⟨g, 0, none⟩))) (hb : Blk w g 30 #[x0, x1, x2, x3, x4])
    (hd : a.defers = []) (hR : R' (.returned (.agg #[x0, x1, x2, x3, x4])) w) : bodyPost Tryz.prog Tryz.f40 R' .ret a w := by
  have r0 := hb.cell 0
  have r1 := hb.cell 1
  have r2 := hb.cell 2
  have r3 := hb.cell 3
  have r4 := hb.cell 4
  simp only [List.getElem?_toArray, List.getElem?_cons_zero, List.getElem?_cons_succ] at r0 r1 r2 r3 r4
  refine bodyPost_ret (v := .agg #[x0, x1, x2, x3, x4]) (by simp [results, Tryz.results40, go_sem, h2, r0, r1, r2, r3, r4]) hd hR
set_option maxRecDepth 100000 in
set_option maxHeartbeats 4000000 in
theorem ch44_step (c : Chs) (s : Cst) (o : Otc) (A A1 A2 A3 : Option Addr) (ca ca1 ca2 ca3 : Nat) (w : World) (hc : OkC c) (hs : OkS c s) (h1 : stC c s = 1) (hr : 0 ≤ o.runs ∧ o.runs ≤ 7) :
    Calls Tryz.prog 40 #[.agg #[.slice A c.mdl.bats.length ca, .slice A1 c.mdl.bows.length ca1, .slice A2 c.bows.length ca2, .int .i64 c.over, .int .i64 c.done, .int .i64 c.need, .slice A3 c.ord.length ca3], stV s, .agg #[.int .i64 o.runs, .bool o.wick, .int .i64 o.wt]] w fun e w' => e = .returned (stV (stepC c s o)) ∧ Below w.heap.size w w' := by
  obtain ⟨z, hz⟩ : ∃ z, z = stepC c s o := ⟨_, rfl⟩
  rw [← hz]
  unfold stepC at hz
  obtain ⟨ball, need, str, par, nxt⟩ := s
  obtain ⟨pr, pw, pt⟩ := o
  unfold stV
  dsimp only at hr hz ⊢
  have b1 := hs.ball
  have b2 := hs.need
  have b3 := hs.nxt
  have b4 := hs.str
  have b5 := hs.par
  have b6 := hc.nb
  have b7 := hc.need
  have b8 := hc.no
  have b9 := hc.over
  have b10 := hc.done
  have hst := (left_run hs h1).2.1
  dsimp only at b1 b2 b3 b4 b5 hst
  obtain ⟨m, hm⟩ : ∃ m, max (need - pr) 0 = m := ⟨_, rfl⟩
  have hm2 : max 0 (need - pr) = m := by rw [← hm]; omega
  have hm3 : 0 ≤ m ∧ m ≤ 84 := by omega
  rw [hm] at hz
  have hsw : swapC c (ball + 1) ⟨pr, pw, pt⟩ = (decide (pr % 2 = 1) != decide ((c.done + (ball + 1)) % c.over = 0)) := rfl
  have e1 : (pr % 2 == 1) = decide (pr % 2 = 1) := by by_cases h : pr % 2 = 1 <;> simp [h]
  have e2 : ((c.done + (ball + 1)) % c.over == 0) = decide ((c.done + (ball + 1)) % c.over = 0) := by by_cases h : (c.done + (ball + 1)) % c.over = 0 <;> simp [h]
  rw [hsw] at hz
  obtain ⟨x1, hx1⟩ : ∃ x, x = decide (pr % 2 = 1) := ⟨_, rfl⟩
  obtain ⟨x2, hx2⟩ : ∃ x, x = decide ((c.done + (ball + 1)) % c.over = 0) := ⟨_, rfl⟩
  rw [← hx1] at e1 hz
  rw [← hx2] at e2 hz
  obtain ⟨over, hov⟩ : ∃ x, x = c.over := ⟨_, rfl⟩
  obtain ⟨done, hdo⟩ : ∃ x, x = c.done := ⟨_, rfl⟩
  rw [← hov, ← hdo] at e2 ⊢
  rw [← hov] at b9
  rw [← hdo, ← hov] at b10
  obtain ⟨c1, c2⟩ := b1
  obtain ⟨c3, c4⟩ := b2
  obtain ⟨c5, c6⟩ := b3
  obtain ⟨c7, c8⟩ := b4
  obtain ⟨c9, c10⟩ := b5
  obtain ⟨c11, c12⟩ := b6
  obtain ⟨c13, c14⟩ := b7
  obtain ⟨c15, c16⟩ := b8
  obtain ⟨c17, c18⟩ := b9
  obtain ⟨c19, c20⟩ := b10
  obtain ⟨c21, c22⟩ := hr
  obtain ⟨c23, c24⟩ := hm3
  have d0 : (str == -1) = false := beq_eq_false_iff_ne.2 (by omega)
  clear hx1 hx2 hov hdo hsw hs hc h1
  cases pw
  · rw [if_neg (by simp)] at hz
    cases x1 <;> cases x2 <;> simp only [bne_self_eq_false, if_true, if_false, Bool.false_eq_true, Bool.bne_false, Bool.bne_true, Bool.not_false, Bool.not_true] at hz
    all_goals
      have HZ := Lib.hid hz
      clear hz
      go_enter Tryz.func40, Tryz.ntmps40
      go_wp2
      go_quiet (fail)
      go_wp2
      apply ch44_step_ret (g := w.heap.size + 1 + 1 + 1) (h2 := rfl) (hd := rfl)
      case hb =>
        first
          | with_reducible exact blk_rv _ _ _ _ _ _ _ _ _
          | (with_reducible apply Blk.put5
             repeat (first | with_reducible refine Blk.drewNB ?_ _ | with_reducible refine blk_far1 ?_ _ _)
             with_reducible exact blk_r _ _ _ _)
      case hR =>
        refine ⟨by rw [HZ.out], ?_⟩
        first
          | with_reducible exact below_r _ _ _ _ _
          | (with_reducible refine below_set5 ?_ (le3 _) _ _ _ _ _
             repeat (first | with_reducible refine Below.drewN_ ?_ _ | with_reducible refine below_far1 ?_ _ _)
             with_reducible exact below_r _ _ _ _ _)
  · rw [if_pos rfl] at hz
    by_cases hn : nxt = (c.ord.length : Int)
    · rw [if_pos hn] at hz
      have en : (nxt == (c.ord.length : Int)) = true := beq_iff_eq.2 hn
      have en2 : ¬ nxt < (c.ord.length : Int) := by omega
      have HZ := Lib.hid hz
      clear hz hn
      cases x1 <;> cases x2
      all_goals
        go_enter Tryz.func40, Tryz.ntmps40
        go_wp2
        apply ch44_step_ret (g := w.heap.size + 1 + 1 + 1) (h2 := rfl) (hd := rfl)
        case hb =>
          first
            | with_reducible exact blk_rv _ _ _ _ _ _ _ _ _
            | (with_reducible apply Blk.put5
               repeat (first | with_reducible refine Blk.drewNB ?_ _ | with_reducible refine blk_far1 ?_ _ _)
               with_reducible exact blk_r _ _ _ _)
        case hR =>
          refine ⟨by rw [HZ.out], ?_⟩
          first
            | with_reducible exact below_r _ _ _ _ _
            | (with_reducible refine below_set5 ?_ (le3 _) _ _ _ _ _
               repeat (first | with_reducible refine Below.drewN_ ?_ _ | with_reducible refine below_far1 ?_ _ _)
               with_reducible exact below_r _ _ _ _ _)
    · rw [if_neg hn] at hz
      have en : (nxt == (c.ord.length : Int)) = false := beq_eq_false_iff_ne.2 hn
      have en2 : nxt < (c.ord.length : Int) := by omega
      cases x1 <;> cases x2 <;> simp only [bne_self_eq_false, if_true, if_false, Bool.false_eq_true, Bool.bne_false, Bool.bne_true, Bool.not_false, Bool.not_true] at hz
      all_goals
        have HZ := Lib.hid hz
        clear hz hn
        go_enter Tryz.func40, Tryz.ntmps40
        go_wp2
        go_quiet (fail)
        go_wp2
        apply ch44_step_ret (g := w.heap.size + 1 + 1 + 1) (h2 := rfl) (hd := rfl)
        case hb =>
          first
            | with_reducible exact blk_rv _ _ _ _ _ _ _ _ _
            | (with_reducible apply Blk.put5
               repeat (first | with_reducible refine Blk.drewNB ?_ _ | with_reducible refine blk_far1 ?_ _ _)
               with_reducible exact blk_r _ _ _ _)
        case hR =>
          refine ⟨by rw [HZ.out], ?_⟩
          first
            | with_reducible exact below_r _ _ _ _ _
            | (with_reducible refine below_set5 ?_ (le3 _) _ _ _ _ _
               repeat (first | with_reducible refine Below.drewN_ ?_ _ | with_reducible refine below_far1 ?_ _ _)
               with_reducible exact below_r _ _ _ _ _)

theorem r44_after_ret {R' : Ending → World → Prop} {a : Act} {w : World} {x0 x1 x2 x3 x4 : Value} {g : Nat} (h2 : a.tmps[6]? = some (.pointer (some ⟨g, 0, none⟩))) (hb : Blk w g 30 #[x0, x1, x2, x3, x4])
    (hd : a.defers = []) (hR : R' (.returned (.agg #[x0, x1, x2, x3, x4])) w) : bodyPost Tryz.prog Tryz.f41 R' .ret a w := by
  have r0 := hb.cell 0
  have r1 := hb.cell 1
  have r2 := hb.cell 2
  have r3 := hb.cell 3
  have r4 := hb.cell 4
  simp only [List.getElem?_toArray, List.getElem?_cons_zero, List.getElem?_cons_succ] at r0 r1 r2 r3 r4
  refine bodyPost_ret (v := .agg #[x0, x1, x2, x3, x4]) (by simp [results, Tryz.results41, go_sem, h2, r0, r1, r2, r3, r4]) hd hR
set_option maxRecDepth 100000 in
set_option maxHeartbeats 4000000 in
theorem r44_after (c : Chs) (s : Cst) (o : Otc) (A A1 A2 A3 : Option Addr) (ca ca1 ca2 ca3 : Nat) (w : World) (hc : OkC c) (hs : OkS c s) (h1 : stC c s = 1) (hr : 0 ≤ o.runs ∧ o.runs ≤ 7) :
    Calls Tryz.prog 41 #[.agg #[.slice A c.mdl.bats.length ca, .slice A1 c.mdl.bows.length ca1, .slice A2 c.bows.length ca2, .int .i64 c.over, .int .i64 c.done, .int .i64 c.need, .slice A3 c.ord.length ca3], stV s, .agg #[.int .i64 o.runs, .bool o.wick, .int .i64 o.wt]] w fun e w' => e = .returned (stV (stepC c s o)) ∧ Below w.heap.size w w' := by
  obtain ⟨z, hz⟩ : ∃ z, z = stepC c s o := ⟨_, rfl⟩
  rw [← hz]
  unfold stepC at hz
  obtain ⟨ball, need, str, par, nxt⟩ := s
  obtain ⟨pr, pw, pt⟩ := o
  unfold stV
  dsimp only at hr hz ⊢
  have b1 := hs.ball
  have b2 := hs.need
  have b3 := hs.nxt
  have b4 := hs.str
  have b5 := hs.par
  have b6 := hc.nb
  have b7 := hc.need
  have b8 := hc.no
  have b9 := hc.over
  have b10 := hc.done
  have hst := (left_run hs h1).2.1
  dsimp only at b1 b2 b3 b4 b5 hst
  obtain ⟨m, hm⟩ : ∃ m, max (need - pr) 0 = m := ⟨_, rfl⟩
  have hm2 : max 0 (need - pr) = m := by rw [← hm]; omega
  have hm3 : 0 ≤ m ∧ m ≤ 84 := by omega
  rw [hm] at hz
  have hsw : swapC c (ball + 1) ⟨pr, pw, pt⟩ = (decide (pr % 2 = 1) != decide ((c.done + (ball + 1)) % c.over = 0)) := rfl
  have e1 : (pr % 2 == 1) = decide (pr % 2 = 1) := by by_cases h : pr % 2 = 1 <;> simp [h]
  have e2 : ((c.done + (ball + 1)) % c.over == 0) = decide ((c.done + (ball + 1)) % c.over = 0) := by by_cases h : (c.done + (ball + 1)) % c.over = 0 <;> simp [h]
  rw [hsw] at hz
  obtain ⟨x1, hx1⟩ : ∃ x, x = decide (pr % 2 = 1) := ⟨_, rfl⟩
  obtain ⟨x2, hx2⟩ : ∃ x, x = decide ((c.done + (ball + 1)) % c.over = 0) := ⟨_, rfl⟩
  rw [← hx1] at e1 hz
  rw [← hx2] at e2 hz
  obtain ⟨over, hov⟩ : ∃ x, x = c.over := ⟨_, rfl⟩
  obtain ⟨done, hdo⟩ : ∃ x, x = c.done := ⟨_, rfl⟩
  rw [← hov, ← hdo] at e2 ⊢
  rw [← hov] at b9
  rw [← hdo, ← hov] at b10
  obtain ⟨c1, c2⟩ := b1
  obtain ⟨c3, c4⟩ := b2
  obtain ⟨c5, c6⟩ := b3
  obtain ⟨c7, c8⟩ := b4
  obtain ⟨c9, c10⟩ := b5
  obtain ⟨c11, c12⟩ := b6
  obtain ⟨c13, c14⟩ := b7
  obtain ⟨c15, c16⟩ := b8
  obtain ⟨c17, c18⟩ := b9
  obtain ⟨c19, c20⟩ := b10
  obtain ⟨c21, c22⟩ := hr
  obtain ⟨c23, c24⟩ := hm3
  have d0 : (str == -1) = false := beq_eq_false_iff_ne.2 (by omega)
  clear hx1 hx2 hov hdo hsw hs hc h1
  cases pw
  · rw [if_neg (by simp)] at hz
    cases x1 <;> cases x2 <;> simp only [bne_self_eq_false, if_true, if_false, Bool.false_eq_true, Bool.bne_false, Bool.bne_true, Bool.not_false, Bool.not_true] at hz
    all_goals
      have HZ := Lib.hid hz
      clear hz
      go_enter Tryz.func41, Tryz.ntmps41
      go_wp2
      apply r44_after_ret (g := w.heap.size + 1 + 1 + 1) (h2 := rfl) (hd := rfl)
      case hb =>
        first
          | with_reducible exact blk_rv _ _ _ _ _ _ _ _ _
          | (with_reducible apply Blk.put5
             repeat (first | with_reducible refine Blk.drewNB ?_ _ | with_reducible refine blk_far1 ?_ _ _)
             with_reducible exact blk_r _ _ _ _)
      case hR =>
        refine ⟨by rw [HZ.out], ?_⟩
        first
          | with_reducible exact below_r _ _ _ _ _
          | (with_reducible refine below_set5 ?_ (le3 _) _ _ _ _ _
             repeat (first | with_reducible refine Below.drewN_ ?_ _ | with_reducible refine below_far1 ?_ _ _)
             with_reducible exact below_r _ _ _ _ _)
  · rw [if_pos rfl] at hz
    by_cases hn : nxt = (c.ord.length : Int)
    · rw [if_pos hn] at hz
      have en : (nxt == (c.ord.length : Int)) = true := beq_iff_eq.2 hn
      have en2 : ¬ nxt < (c.ord.length : Int) := by omega
      have HZ := Lib.hid hz
      clear hz hn
      cases x1 <;> cases x2
      all_goals
        go_enter Tryz.func41, Tryz.ntmps41
        go_wp2
        apply r44_after_ret (g := w.heap.size + 1 + 1 + 1) (h2 := rfl) (hd := rfl)
        case hb =>
          first
            | with_reducible exact blk_rv _ _ _ _ _ _ _ _ _
            | (with_reducible apply Blk.put5
               repeat (first | with_reducible refine Blk.drewNB ?_ _ | with_reducible refine blk_far1 ?_ _ _)
               with_reducible exact blk_r _ _ _ _)
        case hR =>
          refine ⟨by rw [HZ.out], ?_⟩
          first
            | with_reducible exact below_r _ _ _ _ _
            | (with_reducible refine below_set5 ?_ (le3 _) _ _ _ _ _
               repeat (first | with_reducible refine Below.drewN_ ?_ _ | with_reducible refine below_far1 ?_ _ _)
               with_reducible exact below_r _ _ _ _ _)
    · rw [if_neg hn] at hz
      have en : (nxt == (c.ord.length : Int)) = false := beq_eq_false_iff_ne.2 hn
      have en2 : nxt < (c.ord.length : Int) := by omega
      cases x1 <;> cases x2 <;> simp only [bne_self_eq_false, if_true, if_false, Bool.false_eq_true, Bool.bne_false, Bool.bne_true, Bool.not_false, Bool.not_true] at hz
      all_goals
        have HZ := Lib.hid hz
        clear hz hn
        go_enter Tryz.func41, Tryz.ntmps41
        go_wp2
        apply r44_after_ret (g := w.heap.size + 1 + 1 + 1) (h2 := rfl) (hd := rfl)
        case hb =>
          first
            | with_reducible exact blk_rv _ _ _ _ _ _ _ _ _
            | (with_reducible apply Blk.put5
               repeat (first | with_reducible refine Blk.drewNB ?_ _ | with_reducible refine blk_far1 ?_ _ _)
               with_reducible exact blk_r _ _ _ _)
        case hR =>
          refine ⟨by rw [HZ.out], ?_⟩
          first
            | with_reducible exact below_r _ _ _ _ _
            | (with_reducible refine below_set5 ?_ (le3 _) _ _ _ _ _
               repeat (first | with_reducible refine Below.drewN_ ?_ _ | with_reducible refine below_far1 ?_ _ _)
               with_reducible exact below_r _ _ _ _ _)

end Go.Proofs.YtcbkpjiaipabbaaGreatDoor

namespace Go.Proofs.YtcbkpjiaipabbaaGreatDoor
open Go.RowKit

set_option maxRecDepth 100000 in
set_option maxHeartbeats 4000000 in
theorem ch44_power (c : Chs) (s : Cst) (bv wv pv ov : Value) (w : World) (h : ChAt w (· < w.heap.size) bv wv pv ov c) (hc : OkC c) (hs : OkS c s) :
    Calls Tryz.prog 47 #[chV c bv wv pv ov, stV s] w fun e w' => e = .returned (.int .i64 (pow16 (leftC c s))) ∧ Below w.heap.size w w' := by
  unfold chV stV
  obtain ⟨ball, need, str, par, nxt⟩ := s
  obtain ⟨A, ca, rfl, hc1, hc2⟩ := h.mdl.bat.shape
  obtain ⟨A1, ca1, rfl, hc3, hc4⟩ := h.mdl.bow.shape
  obtain ⟨A2, ca2, rfl, hc5, hc6⟩ := h.bow.shape
  obtain ⟨A3, ca3, rfl, hc7, hc8⟩ := h.ord.shape
  have hx := CSB.new w c (.slice A c.mdl.bats.length ca) (.slice A1 c.mdl.bows.length ca1) (.slice A2 c.bows.length ca2) (.slice A3 c.ord.length ca3) ⟨ball, need, str, par, nxt⟩
  have HX := Lib.hid hx
  have HM := Lib.hid h
  obtain ⟨n, hn⟩ : ∃ n, n = leftC c ⟨ball, need, str, par, nxt⟩ := ⟨_, rfl⟩
  have hn12 := left_le hc hs
  rw [← hn] at hn12
  have hb := hs.ball
  dsimp only at hb
  have hbn : (c.bows.length : Int) - ball = (n : Int) := by rw [hn]; unfold leftC; dsimp only; omega
  rw [← hn]
  obtain ⟨z, hz⟩ : ∃ z, z = pow16 n := ⟨_, rfl⟩
  rw [← hz]
  have hnb := hc.nb
  obtain ⟨hb1, hb2⟩ := hb
  obtain ⟨hnb1, hnb2⟩ := hnb
  clear hs hc hn hx h
  have hcase : n = 0 ∨ n = 1 ∨ n = 2 ∨ n = 3 ∨ n = 4 ∨ n = 5 ∨ n = 6 ∨ n = 7 ∨ n = 8 ∨ n = 9 ∨ n = 10 ∨ n = 11 ∨ n = 12 := by omega
  clear hn12
  rcases hcase with rfl | rfl | rfl | rfl | rfl | rfl | rfl | rfl | rfl | rfl | rfl | rfl | rfl
  all_goals
    have HZ := Lib.hid hz
    have hq := hbn
    simp only [Int.natCast_zero, Int.natCast_one, Int.cast_ofNat_Int] at hq
    clear hz hbn
    go_enter Tryz.func47, Tryz.ntmps47
    go_wp2
    go_ret
    exact ⟨ret_i (by rw [HZ.out]; first | rfl | decide), HX.out.bel⟩
set_option maxRecDepth 100000 in
set_option maxHeartbeats 4000000 in
theorem r44_ended (c : Chs) (s : Cst) (bv wv pv ov : Value) (w : World) (h : ChAt w (· < w.heap.size) bv wv pv ov c) (hc : OkC c) (hs : OkS c s) :
    Calls Tryz.prog 48 #[chV c bv wv pv ov, stV s] w fun e w' => e = .returned (.int .i64 (if stC c s = 2 then pow16 (leftC c s) else 0)) ∧ Below w.heap.size w w' := by
  unfold chV stV
  obtain ⟨ball, need, str, par, nxt⟩ := s
  obtain ⟨A, ca, rfl, hc1, hc2⟩ := h.mdl.bat.shape
  obtain ⟨A1, ca1, rfl, hc3, hc4⟩ := h.mdl.bow.shape
  obtain ⟨A2, ca2, rfl, hc5, hc6⟩ := h.bow.shape
  obtain ⟨A3, ca3, rfl, hc7, hc8⟩ := h.ord.shape
  have hx := CSB.new w c (.slice A c.mdl.bats.length ca) (.slice A1 c.mdl.bows.length ca1) (.slice A2 c.bows.length ca2) (.slice A3 c.ord.length ca3) ⟨ball, need, str, par, nxt⟩
  have HX := Lib.hid hx
  have HM := Lib.hid h
  obtain ⟨n, hn⟩ : ∃ n, n = leftC c ⟨ball, need, str, par, nxt⟩ := ⟨_, rfl⟩
  have hn12 := left_le hc hs
  rw [← hn] at hn12
  have hb := hs.ball
  dsimp only at hb
  have hbn : (c.bows.length : Int) - ball = (n : Int) := by rw [hn]; unfold leftC; dsimp only; omega
  rw [← hn]
  have k1 := fun W (hW : Below w.heap.size w W) => r44_status c ⟨ball, need, str, par, nxt⟩ _ _ _ _ W (HM.out.below hW) hs
  unfold chV stV at k1
  dsimp only at k1
  have k2 := fun W => ref_Unit (n : Int) W
  have hu : unitS (n : Int) = (pow16 n, 0) := by unfold unitS; rw [if_neg (by omega), Int.toNat_natCast, pow16_unit]
  rw [hu] at k2
  rw [← hbn] at k2
  obtain ⟨v, hv⟩ : ∃ v, v = stC c ⟨ball, need, str, par, nxt⟩ := ⟨_, rfl⟩
  rw [← hv] at k1 ⊢
  have K1 := Lib.hid k1
  have K2 := Lib.hid k2
  have hnb := hc.nb
  obtain ⟨hb1, hb2⟩ := hb
  obtain ⟨hnb1, hnb2⟩ := hnb
  have tok0 : True := trivial
  clear k1 k2 hs hc hn hx h hu hv hbn hn12
  by_cases h2 : v = 2
  · rw [if_pos h2]
    have e2 : (v == 2) = true := beq_iff_eq.2 h2
    clear h2
    go_enter Tryz.func48, Tryz.ntmps48
    go_wp2_with (first
      | (clear tok0; go_at_call 32; refine (K1.out _ HX.out.bel).mono ?_; rintro e w2 ⟨rfl, hb2'⟩; have HX2 := Lib.hid (HX.out.below hb2'); obtain ⟨x0, x1, x2, x3, x4, x5, x6, y0, y1, y2, y3, y4⟩ := HX2.out.cells; dsimp only at y0 y1 y2 y3 y4; clear hb2'; have tok1 : True := trivial)
      | (clear tok1; go_at_call 69; refine (K2.out _).mono ?_; rintro e w3 ⟨rfl, rfl⟩; have tok2 : True := trivial))
    go_ret
    exact ⟨rfl, HX2.out.bel⟩
  · rw [if_neg h2]
    have e2 : (v == 2) = false := beq_eq_false_iff_ne.2 h2
    clear h2
    go_enter Tryz.func48, Tryz.ntmps48
    go_wp2_with (clear tok0; go_at_call 32; refine (K1.out _ HX.out.bel).mono ?_; rintro e w2 ⟨rfl, hb2'⟩; have HX2 := Lib.hid (HX.out.below hb2'); obtain ⟨x0, x1, x2, x3, x4, x5, x6, y0, y1, y2, y3, y4⟩ := HX2.out.cells; dsimp only at y0 y1 y2 y3 y4; clear hb2'; have tok1 : True := trivial)
    go_ret
    exact ⟨rfl, HX2.out.bel⟩
end Go.Proofs.YtcbkpjiaipabbaaGreatDoor

namespace Go.Proofs.YtcbkpjiaipabbaaGreatDoor
open Go.RowKit Go.Maps

def keyS (s : Cst) : Lit := .string (keyBytes [.int .i64 s.ball, .int .i64 s.need, .int .i64 s.str, .int .i64 s.par, .int .i64 s.nxt])
structure Smol (s : Cst) : Prop where
  ball : -1000 ≤ s.ball ∧ s.ball ≤ 1000
  need : -1000 ≤ s.need ∧ s.need ≤ 1000
  str : -1000 ≤ s.str ∧ s.str ≤ 1000
  par : -1000 ≤ s.par ∧ s.par ≤ 1000
  nxt : -1000 ≤ s.nxt ∧ s.nxt ≤ 1000
theorem OkS.smol {c : Chs} {s : Cst} (hc : OkC c) (h : OkS c s) : Smol s := by
  have := hc.nb; have := hc.need; have := hc.no; have := h.ball; have := h.need; have := h.nxt; have := h.str; have := h.par
  exact ⟨by omega, by omega, by omega, by omega, by omega⟩
theorem law44 : Keyed Tryz.prog 30 := Keyed.of_law (deep_law_gate (by kernel_rfl) (of_decide_eq_true (by kernel_rfl)) (of_decide_eq_true (by kernel_rfl)) (by kernel_rfl) (by kernel_rfl))
theorem wf_small {x : Int} (h : -1000 ≤ x ∧ x ≤ 1000) : (Lit.int .i64 x).wf = true := WalkArith.wf_i64 (by omega)
theorem key_of {s : Cst} (h : Smol s) : keyOf Tryz.prog 30 (stV s) = some (keyS s) := by
  have hkt : Tryz.prog.keyType 30 = true := by kernel_rfl
  have hce : Tryz.prog.cellsOf 30 = 5 := by kernel_rfl
  have hci : Tryz.prog.cellsOf 3 = 1 := by kernel_rfl
  obtain ⟨m, hm⟩ : ∃ m, Tryz.prog.types.size = m + 1 := ⟨Tryz.prog.types.size - 1, by kernel_rfl⟩
  have w0 := wf_small h.ball
  have w1 := wf_small h.need
  have w2 := wf_small h.str
  have w3 := wf_small h.par
  have w4 := wf_small h.nxt
  unfold keyOf stV keyS
  simp only [Tryz.underlying30]
  rw [if_pos (by simp [hkt, Value.formed, Tryz.underlying30, hce]), hm]
  unfold Program.keyLits
  simp only [Tryz.underlying30, Value.cells]
  rw [if_pos ⟨by rw [hce]; rfl, by kernel_rfl⟩]
  simp [hci, Program.keyLits, Tryz.underlying3, w0, w1, w2, w3, w4]
theorem key_inj {s t : Cst} (hs : Smol s) (ht : Smol t) (h : keyS s = keyS t) : s = t := by
  have e := keyOf_inj_deep (P := Tryz.prog) (m := Tryz.prog.types.size + 1) (k := 30) (by kernel_rfl) (by kernel_rfl) (key_of hs) (h ▸ key_of ht)
  obtain ⟨a1, a2, a3, a4, a5⟩ := s
  obtain ⟨b1, b2, b3, b4, b5⟩ := t
  unfold stV at e
  simp at e
  obtain ⟨rfl, rfl, rfl, rfl, rfl⟩ := e
  rfl
theorem key_lit (s : Cst) : WideAt.IsKeyLit (keyS s) := by unfold keyS; trivial
theorem zero_i64 (w : World) : (zeroValue 2).run Tryz.prog w = .ok (.int .i64 0) w := by kernel_rfl
/-- Every state of the map has its value. -/
def Known (c : Chs) (D : DataW Unit) : Prop := ∀ s, OkS c s → Maps.has D (keyS s) = true → D.atKey (keyS s) (.lit (.int .i64 0)) = .lit (.int .i64 (valS c s))
theorem Known.none (c : Chs) : Known c (.map []) := fun s _ h => by cases h
theorem Known.put {c : Chs} {D : DataW Unit} (h : Known c D) (hD : IsMap D) (hc : OkC c) {s : Cst} (hs : OkS c s) : Known c (D.put (keyS s) (.lit (.int .i64 (valS c s)))) := fun t ht hh => by
  by_cases e : keyS t = keyS s
  · have := key_inj (ht.smol hc) (hs.smol hc) e
    subst this
    exact atKey_put_same hD (key_lit _) _ _
  · rw [has_put_other e] at hh
    rw [atKey_put_other e]
    exact h t ht hh
abbrev Vals (w : World) (b N : Nat) (D : DataW Unit) : Prop := w.ownsMap Tryz.prog 30 (plainElem Tryz.prog 2) b N D
def cntV : Nat → Nat
  | 0 => 1
  | n + 1 => 1 + 16 * cntV n
theorem cntV_le : ∀ n, n ≤ 12 → cntV n ≤ 17 ^ 13 := fun n h => by
  have hm : ∀ k, cntV k ≤ 17 ^ k := fun k => by
    induction k with
    | zero => decide
    | succ k ih => rw [cntV, Nat.pow_succ]; have : 0 < 17 ^ k := Nat.pow_pos (by omega); omega
  exact Nat.le_trans (hm n) (Nat.pow_le_pow_right (by omega) (by omega))
end Go.Proofs.YtcbkpjiaipabbaaGreatDoor

namespace Go.Proofs.YtcbkpjiaipabbaaGreatDoor
open Go.RowKit Go.Maps

/-- A chase and a state boxed, a map of values beside them. -/
structure Sol (w W : World) (b N : Nat) (c : Chs) (bv wv pv ov : Value) (s : Cst) : Prop where
  only : Only b w W
  box : Blk W w.heap.size 28 #[bv, wv, pv, .int .i64 c.over, .int .i64 c.done, .int .i64 c.need, ov]
  st : Blk W (w.heap.size + 1) 30 #[.int .i64 s.ball, .int .i64 s.need, .int .i64 s.str, .int .i64 s.par, .int .i64 s.nxt]
  blt : b < w.heap.size
  vals : ∃ D, Vals W b N D ∧ Known c D
section
variable {w W W' : World} {b N N' : Nat} {c : Chs} {bv wv pv ov : Value} {s : Cst}
theorem vals_below {D : DataW Unit} (h : Vals W b N D) (hb : Below W.heap.size W W') : Vals W' b N D := h.kept (Only.of_below (g := b + 1) hb) (by simp)
theorem Sol.below (h : Sol w W b N c bv wv pv ov s) (hb : Below W.heap.size W W') : Sol w W' b N c bv wv pv ov s :=
  ⟨h.only.trans (Only.of_below hb), h.box.below hb h.box.lt, h.st.below hb h.st.lt, h.blt, let ⟨D, h1, h2⟩ := h.vals; ⟨D, vals_below h1 hb, h2⟩⟩
theorem Sol.alloc (h : Sol w W b N c bv wv pv ov s) (o : Obj) : Sol w (W.alloc o) b N c bv wv pv ov s := h.below (Below.alloc (Below.refl _ _) (Nat.le_refl _) o)
theorem Sol.drew (h : Sol w W b N c bv wv pv ov s) : Sol w W.drew b N c bv wv pv ov s := h.below (Below.drew (Below.refl _ _))
theorem Sol.into (h : Sol w W b N c bv wv pv ov s) (ho : Only b W W') (hv : ∃ D, Vals W' b N' D ∧ Known c D) : Sol w W' b N' c bv wv pv ov s :=
  ⟨h.only.trans ho, h.box.grown ho (by intro e; injection e with e; have := h.blt; omega), h.st.grown ho (by intro e; injection e with e; have := h.blt; omega), h.blt, hv⟩
theorem Sol.cells (h : Sol w W b N c bv wv pv ov s) : W.cell? ⟨w.heap.size, 0, none⟩ = some bv ∧ W.cell? ⟨w.heap.size, 1, none⟩ = some wv ∧ W.cell? ⟨w.heap.size, 2, none⟩ = some pv ∧ W.cell? ⟨w.heap.size, 3, none⟩ = some (.int .i64 c.over) ∧ W.cell? ⟨w.heap.size, 4, none⟩ = some (.int .i64 c.done) ∧ W.cell? ⟨w.heap.size, 5, none⟩ = some (.int .i64 c.need) ∧ W.cell? ⟨w.heap.size, 6, none⟩ = some ov ∧
    W.cell? ⟨w.heap.size + 1, 0, none⟩ = some (.int .i64 s.ball) ∧ W.cell? ⟨w.heap.size + 1, 1, none⟩ = some (.int .i64 s.need) ∧ W.cell? ⟨w.heap.size + 1, 2, none⟩ = some (.int .i64 s.str) ∧ W.cell? ⟨w.heap.size + 1, 3, none⟩ = some (.int .i64 s.par) ∧ W.cell? ⟨w.heap.size + 1, 4, none⟩ = some (.int .i64 s.nxt) :=
  ⟨h.box.cell 0, h.box.cell 1, h.box.cell 2, h.box.cell 3, h.box.cell 4, h.box.cell 5, h.box.cell 6, h.st.cell 0, h.st.cell 1, h.st.cell 2, h.st.cell 3, h.st.cell 4⟩
theorem Sol.new {D : DataW Unit} (h1 : Vals w b N D) (h2 : Known c D) : Sol w ((w.alloc (.cells #[bv, wv, pv, .int .i64 c.over, .int .i64 c.done, .int .i64 c.need, ov] 28)).alloc (.cells #[.int .i64 s.ball, .int .i64 s.need, .int .i64 s.str, .int .i64 s.par, .int .i64 s.nxt] 30)) b N c bv wv pv ov s :=
  let hx := CSB.new w c bv wv pv ov s
  ⟨Only.of_below hx.bel, hx.box, hx.st, h1.lt, D, vals_below h1 hx.bel, h2⟩
end
/-- A list that lies in blocks other than b. -/
theorem sl_only {W W' : World} {b : Nat} {v : Value} {l : List Otc} (h : Sl 3 elOtc W (fun x => x < W.heap.size ∧ x ≠ b) v l) (ho : Only b W W') : Sl 3 elOtc W' (fun x => x < W'.heap.size ∧ x ≠ b) v l :=
  h.keep elOtc_good (ho.same fun x hx => hx) fun x hx => ⟨Nat.lt_of_lt_of_le hx.1 ho.size, hx.2⟩
/-- What a function that values states does. -/
def SolveAt (f : FuncId) (c : Chs) (n : Nat) : Prop := ∀ (s : Cst), leftC c s = n → OkS c s → ∀ (bv wv pv ov : Value) (F : Nat → Prop) (b N : Nat) (D : DataW Unit) (w : World), ChAt w F bv wv pv ov c → (∀ x, F x → x < w.heap.size ∧ x ≠ b) → Vals w b N D → Known c D → N + cntV n ≤ 2000000000000000000 →
  Calls Tryz.prog f #[chV c bv wv pv ov, stV s, .map (some b)] w fun e w' => e = .returned (.int .i64 (valS c s)) ∧ Only b w w' ∧ ∃ D', Vals w' b (N + cntV n) D' ∧ Known c D'
theorem sum_step {c : Chs} {s : Cst} {k : Nat} {sm : Int} (hk : k < (mvC c s).length) (h : sm = sumI (((mvC c s).take k).map fun o => o.wt * valS c (stepC c s o))) :
    sm + (mvC c s)[k].wt * valS c (stepC c s (mvC c s)[k]) = sumI (((mvC c s).take (k + 1)).map fun o => o.wt * valS c (stepC c s o)) := by
  rw [h, sum_take (fun o : Otc => o.wt * valS c (stepC c s o)) hk]
theorem prod_bd {x y : Int} {n : Nat} (hn : n ≤ 11) (hx : 1 ≤ x ∧ x ≤ 16) (hy : 0 ≤ y ∧ y ≤ pow16 n) : 0 ≤ x * y ∧ x * y ≤ 281474976710656 := by
  have h1 : pow16 n ≤ 17592186044416 := by
    have h2 := (pow16_le (n := n + 1) (by omega)).2
    rw [pow16] at h2; omega
  refine ⟨Int.mul_nonneg (by omega) hy.1, ?_⟩
  have := Int.mul_le_mul hx.2 (Int.le_trans hy.2 h1) hy.1 (by omega)
  omega
set_option maxRecDepth 100000 in
set_option maxHeartbeats 8000000 in
theorem ch44_solve_at (c : Chs) (hc : OkC c) (n : Nat) (ih : ∀ k, n = k + 1 → SolveAt 27 c k) : SolveAt 27 c n := by
  intro s hl hs bv wv pv ov F b N D w h hF hown hkn hN
  have hkey := key_of (hs.smol hc)
  have hn12 := left_le hc hs
  rw [hl] at hn12
  obtain ⟨z, hz⟩ : ∃ z, z = valS c s := ⟨_, rfl⟩
  have hbd := valS_bd hc hs
  rw [hl] at hbd
  have hp16 := pow16_le hn12
  have hz0 : 0 ≤ z ∧ z ≤ 281474976710656 := by rw [hz]; omega
  have hit : Maps.has D (keyS s) = true → D.atKey (keyS s) (.lit (.int .i64 0)) = .lit (.int .i64 z) := fun hh => by rw [hz]; exact hkn s hs hh
  have hput : ∀ (D2 : DataW Unit), Known c D2 → IsMap D2 → Known c (D2.put (keyS s) (.lit (.int .i64 z))) := fun D2 h1 h2 => by rw [hz]; exact h1.put h2 hc hs
  have hsol : Sol w _ b N c bv wv pv ov s := Sol.new hown hkn
  have kst := fun W (hW : Only b w W) => ch44_status c s bv wv pv ov W ((h.keep (hW.same hF) fun x hx => Nat.lt_of_lt_of_le (hF x hx).1 hW.size)) hs
  have kmv := fun (h1 : stC c s = 1) W (hW : Only b w W) => ch44_moves c s bv wv pv ov W ((h.keep (hW.same hF) fun x hx => Nat.lt_of_lt_of_le (hF x hx).1 hW.size)) hc hs h1
  have ken := fun W (hW : Only b w W) => ch44_power c s bv wv pv ov W ((h.keep (hW.same hF) fun x hx => Nat.lt_of_lt_of_le (hF x hx).1 hW.size)) hc hs
  have hend : stC c s ≠ 1 → (if stC c s = 2 then pow16 (leftC c s) else 0) = z := fun h1 => by
    have := stC_bd c s
    rw [hz]
    by_cases h2 : stC c s = 2
    · rw [if_pos h2, valS_won h2]
    · rw [if_neg h2, valS_lost hs (by omega)]
  have HA := Lib.hid h
  have HF := Lib.hid hF
  have HKN := Lib.hid hkn
  rw [← hz]
  clear hbd hp16
  obtain ⟨A, ca, rfl, hc1, hc2⟩ := h.mdl.bat.shape
  obtain ⟨A1, ca1, rfl, hc3, hc4⟩ := h.mdl.bow.shape
  obtain ⟨A2, ca2, rfl, hc5, hc6⟩ := h.bow.shape
  obtain ⟨A3, ca3, rfl, hc7, hc8⟩ := h.ord.shape
  unfold chV stV at kst kmv ken ⊢
  unfold stV at hkey
  have HSOL := Lib.hid hsol
  have HKEY := Lib.hid hkey
  have HV2 := Lib.hid (vals_below hown (CSB.new w c (.slice A c.mdl.bats.length ca) (.slice A1 c.mdl.bows.length ca1) (.slice A2 c.bows.length ca2) (.slice A3 c.ord.length ca3) s).bel)
  have HPUT := Lib.hid hput
  clear hsol hkey h hF hown hput
  obtain ⟨y0, y1, y2, y3, y4, y5, y6, t0, t1, t2, t3, t4⟩ := HSOL.out.cells
  clear y0 y1 y2 y3 y4 y5 y6 t0 t1 t2 t3 t4
  cases hh : Maps.has D (keyS s)
  case true =>
    have HIT := Lib.hid (hit hh)
    clear hit ih kst kmv ken hend hz hl hs hc hkn
    go_enter Tryz.func27, Tryz.ntmps27
    go_wp2_with (at_lookup; refine wpList_lookup_own_ok_int _ rfl _ _ 57 rfl 30 2 .i64 law44 Tryz.underlying57 Tryz.underlying2 (zero_i64 _) b N D rfl HV2.out _ _ rfl HKEY.out ?_; intro cc hat hwc; have HC := Lib.hid (show cc = z from by have := hat.symm.trans HIT.out; injection this with this; injection this); clear hat hwc)
    go_ret
    exact ⟨ret_i HC.out, HSOL.out.only, D, HV2.out.mono (by omega), HKN.out⟩
  case false =>
    clear hit
    obtain ⟨st, hst⟩ : ∃ x, x = stC c s := ⟨_, rfl⟩
    have hst3 := stC_bd c s
    rw [← hst] at kst kmv hend hst3
    by_cases h1 : st = 1
    case neg =>
      have HSt := Lib.hid hst
      have KST := Lib.hid kst
      have hcn : 1 ≤ cntV n := by cases n <;> rw [cntV] <;> omega
      have tok0 : True := trivial
      by_cases h2 : st = 2
      · have he := hend h1
        rw [if_pos h2] at he
        rw [he] at ken
        have KEN := Lib.hid ken
        have e2 : (st == 2) = true := beq_iff_eq.2 h2
        clear kst kmv ken hend hst hst3 h1 h2 he ih hl hs hc hkn hz hn12
        go_enter Tryz.func27, Tryz.ntmps27
        go_wp2_with (first
          | (at_lookup; refine wpList_lookup_own_ok_int _ rfl _ _ 57 rfl 30 2 .i64 law44 Tryz.underlying57 Tryz.underlying2 (zero_i64 _) b N D rfl HV2.out _ _ rfl HKEY.out ?_; intro cc hat hwc; clear hat hwc)
          | (clear tok0; go_at_call 30; refine (KST.out _ HSOL.out.only).mono ?_; rintro e w2 ⟨rfl, hb2⟩; have HS2 := Lib.hid (HSOL.out.below hb2); obtain ⟨y0, y1, y2, y3, y4, y5, y6, t0, t1, t2, t3, t4⟩ := HS2.out.cells; clear hb2; have tok1 : True := trivial)
          | (clear tok1; go_at_call 47; refine (KEN.out _ HS2.out.only).mono ?_; rintro e w3 ⟨rfl, hb3⟩; have HS3 := Lib.hid (HS2.out.below hb3); clear y0 y1 y2 y3 y4 y5 y6 t0 t1 t2 t3 t4; obtain ⟨y0, y1, y2, y3, y4, y5, y6, t0, t1, t2, t3, t4⟩ := HS3.out.cells; obtain ⟨D2, hv9, hk9⟩ := HS3.out.vals; have HV9 := Lib.hid hv9; have HK9 := Lib.hid hk9; clear hb3 hv9 hk9; have tok2 : True := trivial)
          | (at_mapUpdate; refine wpList_mapUpdate_own _ rfl _ _ _ 57 rfl 30 2 law44 Tryz.underlying57 _ b N D2 rfl HV9.out (by unfold maxLen; omega) _ _ _ rfl rfl HKEY.out _ [] (plainElem_int Tryz.underlying2 (WalkArith.wf_i64 (by omega))) ?_; intro w9 hown9 hgrow9; have HG9 := Lib.hid hgrow9; have HO9 := Lib.hid hown9; clear hgrow9 hown9))
        go_ret
        exact ⟨rfl, HS3.out.only.trans HG9.out, _, HO9.out.mono (by omega), HPUT.out _ HK9.out HV9.out.isMap⟩
      · have he := hend h1
        rw [if_neg h2] at he
        subst he
        have e2 : (st == 2) = false := beq_eq_false_iff_ne.2 h2
        have e1 : (st == 1) = false := beq_eq_false_iff_ne.2 h1
        clear kst kmv ken hend hst hst3 h1 h2 ih hl hs hc hkn hz hn12
        go_enter Tryz.func27, Tryz.ntmps27
        go_wp2_with (first
          | (at_lookup; refine wpList_lookup_own_ok_int _ rfl _ _ 57 rfl 30 2 .i64 law44 Tryz.underlying57 Tryz.underlying2 (zero_i64 _) b N D rfl HV2.out _ _ rfl HKEY.out ?_; intro cc hat hwc; clear hat hwc)
          | (clear tok0; go_at_call 30; refine (KST.out _ HSOL.out.only).mono ?_; rintro e w3 ⟨rfl, hb2⟩; have HS3 := Lib.hid (HSOL.out.below hb2); obtain ⟨y0, y1, y2, y3, y4, y5, y6, t0, t1, t2, t3, t4⟩ := HS3.out.cells; obtain ⟨D2, hv9, hk9⟩ := HS3.out.vals; have HV9 := Lib.hid hv9; have HK9 := Lib.hid hk9; clear hb2 hv9 hk9; have tok1 : True := trivial)
          | (at_mapUpdate; refine wpList_mapUpdate_own _ rfl _ _ _ 57 rfl 30 2 law44 Tryz.underlying57 _ b N D2 rfl HV9.out (by unfold maxLen; omega) _ _ _ rfl rfl HKEY.out _ [] (plainElem_int Tryz.underlying2 (WalkArith.wf_i64 (by omega))) ?_; intro w9 hown9 hgrow9; have HG9 := Lib.hid hgrow9; have HO9 := Lib.hid hown9; clear hgrow9 hown9))
        go_ret
        exact ⟨rfl, HS3.out.only.trans HG9.out, _, HO9.out.mono (by omega), HPUT.out _ HK9.out HV9.out.isMap⟩
    case pos =>
      have h1' : stC c s = 1 := by rw [← hst]; exact h1
      obtain ⟨hneed, hstr, k0, hk0, hk1⟩ := left_run hs h1'
      obtain rfl : n = k0 + 1 := by omega
      have hih := ih k0 rfl
      obtain ⟨l, hle⟩ : ∃ l, mvC c s = l := ⟨_, rfl⟩
      obtain ⟨_, _, _, _, _, _, _, _, _, _, _, _, _, _, _, hd⟩ := mvC_at hc hs h1'
      rw [hle] at hd
      have hok := checkD_ok hd
      have hlen : l.length ≤ 16 := hok.len.2
      have hoe : ∀ (k : Nat) (hk : k < l.length), OkO l[k] := fun k hk => hok.each _ (List.getElem_mem hk)
      have kstep := fun k (hk : k < l.length) W => ch44_step c s l[k] A A1 A2 A3 ca ca1 ca2 ca3 W hc hs h1' ⟨(hoe k hk).r0, (hoe k hk).r7⟩
      have hok2 : ∀ (k : Nat) (hk : k < l.length), leftC c (stepC c s l[k]) = k0 ∧ OkS c (stepC c s l[k]) := fun k hk => ⟨by have := left_step hc hs h1' (o := l[k]) (hoe k hk).r0; omega, (stepC_ok hc hs h1' (hoe k hk).r0).1⟩
      have krec := fun k (hk : k < l.length) N' D' W => hih (stepC c s l[k]) (hok2 k hk).1 (hok2 k hk).2 (.slice A c.mdl.bats.length ca) (.slice A1 c.mdl.bows.length ca1) (.slice A2 c.bows.length ca2) (.slice A3 c.ord.length ca3) F b N' D' W
      have hprod : ∀ (k : Nat) (hk : k < l.length), 0 ≤ l[k].wt * valS c (stepC c s l[k]) ∧ l[k].wt * valS c (stepC c s l[k]) ≤ 281474976710656 := fun k hk => prod_bd (n := k0) (by omega) ⟨(hoe k hk).w1, (hoe k hk).w16⟩ (by have := valS_bd hc (hok2 k hk).2; rw [(hok2 k hk).1] at this; exact this)
      have hsum : ∀ (k : Nat) (hk : k < l.length) (sm : Int), sm = sumI ((l.take k).map fun o => o.wt * valS c (stepC c s o)) → sm + l[k].wt * valS c (stepC c s l[k]) = sumI ((l.take (k + 1)).map fun o => o.wt * valS c (stepC c s o)) := fun k hk sm h => by
        rw [h, sum_take (fun o : Otc => o.wt * valS c (stepC c s o)) hk]
      have hfin : sumI (l.map fun o => o.wt * valS c (stepC c s o)) = z := by rw [hz, valS_run hc hs h1', hle]
      obtain ⟨q, hq⟩ : ∃ q, q = cntV k0 := ⟨_, rfl⟩
      have hcnt : cntV (k0 + 1) = 1 + 16 * q := by rw [cntV, hq]
      rw [hcnt] at hN ⊢
      unfold chV stV at krec
      unfold stV at kstep
      rw [← hq] at krec
      have kmv1 := kmv h1
      rw [hle] at kmv1
      rw [h1] at kst
      have KST := Lib.hid kst
      have KMV := Lib.hid kmv1
      have KSTEP := Lib.hid kstep
      have KREC := Lib.hid krec
      have HPR := Lib.hid hprod
      have HSUM := Lib.hid hsum
      have HFIN := Lib.hid hfin
      have tok0 : True := trivial
      clear kst kmv kmv1 ken hend hst hst3 h1 h1' hneed hstr hk0 hk1 hih hle hd hok hoe kstep hok2 krec hprod hsum hfin hq hcnt ih hl hs hc hkn hz hn12
      go_enter Tryz.func27, Tryz.ntmps27
      go_wp2_with (first
        | (at_lookup; refine wpList_lookup_own_ok_int _ rfl _ _ 57 rfl 30 2 .i64 law44 Tryz.underlying57 Tryz.underlying2 (zero_i64 _) b N D rfl HV2.out _ _ rfl HKEY.out ?_; intro cc hat hwc; clear hat hwc)
        | (clear tok0; go_at_call 30; refine (KST.out _ HSOL.out.only).mono ?_; rintro e w2 ⟨rfl, hb2⟩; have HS2 := Lib.hid (HSOL.out.below hb2); obtain ⟨y0, y1, y2, y3, y4, y5, y6, t0, t1, t2, t3, t4⟩ := HS2.out.cells; clear hb2; have tok1 : True := trivial)
        | (clear tok1; go_at_call 31; refine (KMV.out _ HS2.out.only).mono ?_; rintro e w3 ⟨A4, n4, k4, rfl, hb3, hs3⟩; obtain ⟨Az, kz, hze, hz1, hz2⟩ := hs3.shape; have hn4 : n4 = l.length := (by injection hze); subst hn4; have HS3 := Lib.hid (HS2.out.below hb3); have HL3 := Lib.hid (hs3.keep (G := fun x => x < w3.heap.size ∧ x ≠ b) elOtc_good (Same.refl _ _) fun x hx => ⟨hx.2, by have := HS2.out.blt; have := HS2.out.only.size; omega⟩); clear y0 y1 y2 y3 y4 y5 y6 t0 t1 t2 t3 t4; obtain ⟨y0, y1, y2, y3, y4, y5, y6, t0, t1, t2, t3, t4⟩ := HS3.out.cells; clear hb3 hs3 hze hz1 hz2; have tok2 : True := trivial))
      go_loopw [9, 34] (fun v i wr => ∃ (k : Nat) (sm : Int), k ≤ l.length ∧ i = .int .i64 k ∧ v = .int .i64 sm ∧ 0 ≤ sm ∧ sm ≤ 281474976710656 * k ∧ Hid (Sol w wr b (N + k * q) c (.slice A c.mdl.bats.length ca) (.slice A1 c.mdl.bows.length ca1) (.slice A2 c.bows.length ca2) (.slice A3 c.ord.length ca3) s) ∧ Hid (Sl 3 elOtc wr (fun x => x < wr.heap.size ∧ x ≠ b) (.slice A4 l.length k4) l) ∧ Hid (sm = sumI ((l.take k).map fun o => o.wt * valS c (stepC c s o)))) (fun _ i _ => l.length - (intOf i).toNat)
      case atStart => exact ⟨0, 0, Nat.zero_le _, rfl, rfl, by omega, by omega, Lib.hid (by rw [Nat.zero_mul]; exact HS3.out), HL3, Lib.hid rfl⟩
      case round =>
        clear HS2 HS3 HL3 y0 y1 y2 y3 y4 y5 y6 t0 t1 t2 t3 t4
        obtain ⟨k, sm, hk, rfl, rfl, hs0, hs1, HS, HL, hss⟩ := hrel
        by_cases hlt : k < l.length
        · obtain ⟨b0, o, rfl, hbl, g0, g1, g2⟩ := otc_at HL.out hlt
          have hp := HPR.out k hlt
          have hst := HSUM.out k hlt sm hss.out
          have kS := KSTEP.out k hlt
          have kR := KREC.out k hlt
          obtain ⟨s', hs'⟩ : ∃ x, x = stepC c s l[k] := ⟨_, rfl⟩
          rw [← hs'] at hp hst
          simp only [← hs'] at kS kR
          obtain ⟨vv, hvv⟩ : ∃ x, x = valS c s' := ⟨_, rfl⟩
          rw [← hvv] at hp hst
          simp only [← hvv] at kR
          obtain ⟨⟨pr, pw, pt⟩, hp'⟩ : ∃ p, p = l[k] := ⟨_, rfl⟩
          rw [← hp'] at g0 g1 g2 hp hst
          simp only [← hp'] at kS
          dsimp only at g0 g1 g2 hp hst kS
          obtain ⟨hp0, hp1⟩ := hp
          have hkq : k * q + q ≤ 16 * q := by have := Nat.mul_le_mul_right q (show k + 1 ≤ 16 by omega); rw [Nat.add_mul, Nat.one_mul] at this; exact this
          have HST := Lib.hid hst
          have KS := Lib.hid kS
          have KR := Lib.hid kR
          have HKQ := Lib.hid hkq
          clear hst kS kR hs' hvv hp' hss hkq
          go_wp2
          have HSA := Lib.hid (HS.out.alloc (.cells #[.int .i64 pr, .bool pw, .int .i64 pt] 45)).drew
          have HLA := Lib.hid (sl_only HL.out (Only.of_below (g := b) (Below.drew (Below.alloc (Below.refl wr.heap.size wr) (Nat.le_refl _) (.cells #[.int .i64 pr, .bool pw, .int .i64 pt] 45)))))
          have HCA := Lib.hid (Blk.new wr 45 #[.int .i64 pr, .bool pw, .int .i64 pt]).drew
          obtain ⟨y0, y1, y2, y3, y4, y5, y6, t0, t1, t2, t3, t4⟩ := HSA.out.cells
          have u0 := HCA.out.cell 0
          have u1 := HCA.out.cell 1
          have u2 := HCA.out.cell 2
          have tok2 : True := trivial
          have hwb : b < wr.heap.size := by have := HS.out.blt; have := HS.out.only.size; omega
          go_region_held3 (fun w' => w'.cell? ⟨w.heap.size, 0, none⟩ = some (.slice A c.mdl.bats.length ca) ∧ w'.cell? ⟨w.heap.size, 1, none⟩ = some (.slice A1 c.mdl.bows.length ca1) ∧ w'.cell? ⟨w.heap.size, 2, none⟩ = some (.slice A2 c.bows.length ca2) ∧ w'.cell? ⟨w.heap.size, 3, none⟩ = some (.int .i64 c.over) ∧ w'.cell? ⟨w.heap.size, 4, none⟩ = some (.int .i64 c.done) ∧ w'.cell? ⟨w.heap.size, 5, none⟩ = some (.int .i64 c.need) ∧ w'.cell? ⟨w.heap.size, 6, none⟩ = some (.slice A3 c.ord.length ca3) ∧ w'.cell? ⟨w.heap.size + 1, 0, none⟩ = some (.int .i64 s.ball) ∧ w'.cell? ⟨w.heap.size + 1, 1, none⟩ = some (.int .i64 s.need) ∧ w'.cell? ⟨w.heap.size + 1, 2, none⟩ = some (.int .i64 s.str) ∧ w'.cell? ⟨w.heap.size + 1, 3, none⟩ = some (.int .i64 s.par) ∧ w'.cell? ⟨w.heap.size + 1, 4, none⟩ = some (.int .i64 s.nxt) ∧ w'.cell? ⟨wr.heap.size, 0, none⟩ = some (.int .i64 pr) ∧ w'.cell? ⟨wr.heap.size, 1, none⟩ = some (.bool pw) ∧ w'.cell? ⟨wr.heap.size, 2, none⟩ = some (.int .i64 pt)) (first | exact ⟨y0, y1, y2, y3, y4, y5, y6, t0, t1, t2, t3, t4, u0, u1, u2⟩ | go_keep) (first
            | (clear tok2; go_at_call 40; refine (KS.out _).mono ?_; rintro e w5 ⟨rfl, hb5⟩; have HS5 := Lib.hid (HSA.out.below hb5); have HL5 := Lib.hid (sl_only HLA.out (Only.of_below hb5)); have HC5 := Lib.hid (HCA.out.below hb5 HCA.out.lt); obtain ⟨y0, y1, y2, y3, y4, y5, y6, t0, t1, t2, t3, t4⟩ := HS5.out.cells; have u0 := HC5.out.cell 0; have u1 := HC5.out.cell 1; have u2 := HC5.out.cell 2; clear hb5; have tok3 : True := trivial)
            | (clear tok3; go_at_call 27; obtain ⟨D5, hv5, hk5⟩ := HS5.out.vals; refine (KR.out _ D5 _ (HA.out.keep (HS5.out.only.same HF.out) fun _ h => h) (fun x hx => ⟨Nat.lt_of_lt_of_le (HF.out x hx).1 HS5.out.only.size, (HF.out x hx).2⟩) hv5 hk5 (by have := HKQ.out; omega)).mono ?_; rintro e w6 ⟨rfl, ho6, hv6⟩; have HS6 := Lib.hid (show Sol w w6 b (N + (k + 1) * q) c (.slice A c.mdl.bats.length ca) (.slice A1 c.mdl.bows.length ca1) (.slice A2 c.bows.length ca2) (.slice A3 c.ord.length ca3) s from HS5.out.into ho6 (by obtain ⟨D7, h1, h2⟩ := hv6; exact ⟨D7, h1.mono (by rw [Nat.add_mul]; omega), h2⟩)); have HL6 := Lib.hid (sl_only HL5.out ho6); have HC6 := Lib.hid (HC5.out.grown ho6 (by intro e; injection e with e; omega)); obtain ⟨y0, y1, y2, y3, y4, y5, y6, t0, t1, t2, t3, t4⟩ := HS6.out.cells; have u0 := HC6.out.cell 0; have u1 := HC6.out.cell 1; have u2 := HC6.out.cell 2; clear ho6 hv6 hv5 hk5; have tok4 : True := trivial))
          all_goals go_wp2
          go_roundw
          case rel => exact ⟨k + 1, sm + pt * vv, by omega, by go_num, by rw [IntWalk.i64_in (pt * vv) (by omega), IntWalk.i64_in (sm + pt * vv) (by omega)], by omega, by push_cast; omega, HS6, HL6, HST⟩
          case measure => simp [intOf]; omega
        · obtain rfl : k = l.length := by omega
          have hs2 := hss.out
          rw [List.take_of_length_le (Nat.le_refl _), HFIN.out] at hs2
          subst hs2
          obtain ⟨D2, hv9, hk9⟩ := HS.out.vals
          have HV9 := Lib.hid hv9
          have HK9 := Lib.hid hk9
          obtain ⟨y0, y1, y2, y3, y4, y5, y6, t0, t1, t2, t3, t4⟩ := HS.out.cells
          have hlq : l.length * q ≤ 16 * q := Nat.mul_le_mul_right q hlen
          obtain ⟨NN, hNN⟩ : ∃ NN, NN = N + l.length * q := ⟨_, rfl⟩
          rw [← hNN] at HV9
          have hN9 : NN + 1 ≤ N + (1 + 16 * q) := by omega
          have hN8 : NN < 2000000000000000000 := by omega
          clear hv9 hk9 hss hlq hNN
          go_wp2_with (at_mapUpdate; refine wpList_mapUpdate_own _ rfl _ _ _ 57 rfl 30 2 law44 Tryz.underlying57 _ b NN D2 rfl HV9.out (by unfold maxLen; omega) _ _ _ rfl rfl HKEY.out _ [] (plainElem_int Tryz.underlying2 (WalkArith.wf_i64 (by omega))) ?_; intro w9 hown9 hgrow9; have HG9 := Lib.hid hgrow9; have HO9 := Lib.hid hown9; clear hgrow9 hown9)
          go_ret
          exact ⟨rfl, HS.out.only.trans HG9.out, _, HO9.out.mono (by omega), HPUT.out _ HK9.out HV9.out.isMap⟩
theorem ch44_solve (c : Chs) (hc : OkC c) : ∀ n, SolveAt 27 c n
  | 0 => ch44_solve_at c hc 0 (fun k h => by omega)
  | n + 1 => ch44_solve_at c hc (n + 1) fun k h => by
      obtain rfl : n = k := by omega
      exact ch44_solve c hc n
end Go.Proofs.YtcbkpjiaipabbaaGreatDoor

namespace Go.Proofs.YtcbkpjiaipabbaaGreatDoor
open Go.RowKit Go.Maps

set_option maxRecDepth 100000 in
set_option maxHeartbeats 8000000 in
theorem r44_fill_at (c : Chs) (hc : OkC c) (n : Nat) (ih : ∀ k, n = k + 1 → SolveAt 28 c k) : SolveAt 28 c n := by
  intro s hl hs bv wv pv ov F b N D w h hF hown hkn hN
  have hkey := key_of (hs.smol hc)
  have hn12 := left_le hc hs
  rw [hl] at hn12
  obtain ⟨z, hz⟩ : ∃ z, z = valS c s := ⟨_, rfl⟩
  have hbd := valS_bd hc hs
  rw [hl] at hbd
  have hp16 := pow16_le hn12
  have hz0 : 0 ≤ z ∧ z ≤ 281474976710656 := by rw [hz]; omega
  have hit : Maps.has D (keyS s) = true → D.atKey (keyS s) (.lit (.int .i64 0)) = .lit (.int .i64 z) := fun hh => by rw [hz]; exact hkn s hs hh
  have hput : ∀ (D2 : DataW Unit), Known c D2 → IsMap D2 → Known c (D2.put (keyS s) (.lit (.int .i64 z))) := fun D2 h1 h2 => by rw [hz]; exact h1.put h2 hc hs
  have hsol : Sol w _ b N c bv wv pv ov s := Sol.new hown hkn
  have kst := fun W (hW : Only b w W) => r44_status c s bv wv pv ov W ((h.keep (hW.same hF) fun x hx => Nat.lt_of_lt_of_le (hF x hx).1 hW.size)) hs
  have kmv := fun (h1 : stC c s = 1) W (hW : Only b w W) => r44_moves c s bv wv pv ov W ((h.keep (hW.same hF) fun x hx => Nat.lt_of_lt_of_le (hF x hx).1 hW.size)) hc hs h1
  have ken := fun W (hW : Only b w W) => r44_ended c s bv wv pv ov W ((h.keep (hW.same hF) fun x hx => Nat.lt_of_lt_of_le (hF x hx).1 hW.size)) hc hs
  have hend : stC c s ≠ 1 → (if stC c s = 2 then pow16 (leftC c s) else 0) = z := fun h1 => by
    have := stC_bd c s
    rw [hz]
    by_cases h2 : stC c s = 2
    · rw [if_pos h2, valS_won h2]
    · rw [if_neg h2, valS_lost hs (by omega)]
  have HA := Lib.hid h
  have HF := Lib.hid hF
  have HKN := Lib.hid hkn
  rw [← hz]
  clear hbd hp16
  obtain ⟨A, ca, rfl, hc1, hc2⟩ := h.mdl.bat.shape
  obtain ⟨A1, ca1, rfl, hc3, hc4⟩ := h.mdl.bow.shape
  obtain ⟨A2, ca2, rfl, hc5, hc6⟩ := h.bow.shape
  obtain ⟨A3, ca3, rfl, hc7, hc8⟩ := h.ord.shape
  unfold chV stV at kst kmv ken ⊢
  unfold stV at hkey
  have HSOL := Lib.hid hsol
  have HKEY := Lib.hid hkey
  have HV2 := Lib.hid (vals_below hown (CSB.new w c (.slice A c.mdl.bats.length ca) (.slice A1 c.mdl.bows.length ca1) (.slice A2 c.bows.length ca2) (.slice A3 c.ord.length ca3) s).bel)
  have HPUT := Lib.hid hput
  clear hsol hkey h hF hown hput
  obtain ⟨y0, y1, y2, y3, y4, y5, y6, t0, t1, t2, t3, t4⟩ := HSOL.out.cells
  clear y0 y1 y2 y3 y4 y5 y6 t0 t1 t2 t3 t4
  cases hh : Maps.has D (keyS s)
  case true =>
    have HIT := Lib.hid (hit hh)
    clear hit ih kst kmv ken hend hz hl hs hc hkn
    go_enter Tryz.func28, Tryz.ntmps28
    go_wp2_with (at_lookup; refine wpList_lookup_own_ok_int _ rfl _ _ 57 rfl 30 2 .i64 law44 Tryz.underlying57 Tryz.underlying2 (zero_i64 _) b N D rfl HV2.out _ _ rfl HKEY.out ?_; intro cc hat hwc; have HC := Lib.hid (show cc = z from by have := hat.symm.trans HIT.out; injection this with this; injection this); clear hat hwc)
    go_ret
    exact ⟨ret_i HC.out, HSOL.out.only, D, HV2.out.mono (by omega), HKN.out⟩
  case false =>
    clear hit
    obtain ⟨st, hst⟩ : ∃ x, x = stC c s := ⟨_, rfl⟩
    have hst3 := stC_bd c s
    rw [← hst] at kst kmv hend hst3
    by_cases h1 : st = 1
    case neg =>
      have KST := Lib.hid kst
      have hcn : 1 ≤ cntV n := by cases n <;> rw [cntV] <;> omega
      have tok0 : True := trivial
      have he := hend h1
      rw [← hst, he] at ken
      have KEN := Lib.hid ken
      have e1 : (st == 1) = false := beq_eq_false_iff_ne.2 h1
      clear kst kmv ken hend hst hst3 h1 he ih hl hs hc hkn hz hn12
      go_enter Tryz.func28, Tryz.ntmps28
      go_wp2_with (first
        | (at_lookup; refine wpList_lookup_own_ok_int _ rfl _ _ 57 rfl 30 2 .i64 law44 Tryz.underlying57 Tryz.underlying2 (zero_i64 _) b N D rfl HV2.out _ _ rfl HKEY.out ?_; intro cc hat hwc; clear hat hwc)
        | (clear tok0; go_at_call 32; refine (KST.out _ HSOL.out.only).mono ?_; rintro e w2 ⟨rfl, hb2⟩; have HS2 := Lib.hid (HSOL.out.below hb2); obtain ⟨y0, y1, y2, y3, y4, y5, y6, t0, t1, t2, t3, t4⟩ := HS2.out.cells; clear hb2; have tok1 : True := trivial)
        | (clear tok1; go_at_call 48; refine (KEN.out _ HS2.out.only).mono ?_; rintro e w3 ⟨rfl, hb3⟩; have HS3 := Lib.hid (HS2.out.below hb3); clear y0 y1 y2 y3 y4 y5 y6 t0 t1 t2 t3 t4; obtain ⟨y0, y1, y2, y3, y4, y5, y6, t0, t1, t2, t3, t4⟩ := HS3.out.cells; obtain ⟨D2, hv9, hk9⟩ := HS3.out.vals; have HV9 := Lib.hid hv9; have HK9 := Lib.hid hk9; clear hb3 hv9 hk9; have tok2 : True := trivial)
        | (at_mapUpdate; refine wpList_mapUpdate_own _ rfl _ _ _ 57 rfl 30 2 law44 Tryz.underlying57 _ b N D2 rfl HV9.out (by unfold maxLen; omega) _ _ _ rfl rfl HKEY.out _ [] (plainElem_int Tryz.underlying2 (WalkArith.wf_i64 (by omega))) ?_; intro w9 hown9 hgrow9; have HG9 := Lib.hid hgrow9; have HO9 := Lib.hid hown9; clear hgrow9 hown9))
      go_ret
      exact ⟨rfl, HS3.out.only.trans HG9.out, _, HO9.out.mono (by omega), HPUT.out _ HK9.out HV9.out.isMap⟩
    case pos =>
      have h1' : stC c s = 1 := by rw [← hst]; exact h1
      obtain ⟨hneed, hstr, k0, hk0, hk1⟩ := left_run hs h1'
      obtain rfl : n = k0 + 1 := by omega
      have hih := ih k0 rfl
      obtain ⟨l, hle⟩ : ∃ l, mvC c s = l := ⟨_, rfl⟩
      obtain ⟨_, _, _, _, _, _, _, _, _, _, _, _, _, _, _, hd⟩ := mvC_at hc hs h1'
      rw [hle] at hd
      have hok := checkD_ok hd
      have hlen : l.length ≤ 16 := hok.len.2
      have hoe : ∀ (k : Nat) (hk : k < l.length), OkO l[k] := fun k hk => hok.each _ (List.getElem_mem hk)
      have kstep := fun k (hk : k < l.length) W => r44_after c s l[k] A A1 A2 A3 ca ca1 ca2 ca3 W hc hs h1' ⟨(hoe k hk).r0, (hoe k hk).r7⟩
      have hok2 : ∀ (k : Nat) (hk : k < l.length), leftC c (stepC c s l[k]) = k0 ∧ OkS c (stepC c s l[k]) := fun k hk => ⟨by have := left_step hc hs h1' (o := l[k]) (hoe k hk).r0; omega, (stepC_ok hc hs h1' (hoe k hk).r0).1⟩
      have krec := fun k (hk : k < l.length) N' D' W => hih (stepC c s l[k]) (hok2 k hk).1 (hok2 k hk).2 (.slice A c.mdl.bats.length ca) (.slice A1 c.mdl.bows.length ca1) (.slice A2 c.bows.length ca2) (.slice A3 c.ord.length ca3) F b N' D' W
      have hprod : ∀ (k : Nat) (hk : k < l.length), 0 ≤ l[k].wt * valS c (stepC c s l[k]) ∧ l[k].wt * valS c (stepC c s l[k]) ≤ 281474976710656 := fun k hk => prod_bd (n := k0) (by omega) ⟨(hoe k hk).w1, (hoe k hk).w16⟩ (by have := valS_bd hc (hok2 k hk).2; rw [(hok2 k hk).1] at this; exact this)
      have hsum : ∀ (k : Nat) (hk : k < l.length) (sm : Int), sm = sumI ((l.take k).map fun o => o.wt * valS c (stepC c s o)) → sm + l[k].wt * valS c (stepC c s l[k]) = sumI ((l.take (k + 1)).map fun o => o.wt * valS c (stepC c s o)) := fun k hk sm h => by
        rw [h, sum_take (fun o : Otc => o.wt * valS c (stepC c s o)) hk]
      have hfin : sumI (l.map fun o => o.wt * valS c (stepC c s o)) = z := by rw [hz, valS_run hc hs h1', hle]
      obtain ⟨q, hq⟩ : ∃ q, q = cntV k0 := ⟨_, rfl⟩
      have hcnt : cntV (k0 + 1) = 1 + 16 * q := by rw [cntV, hq]
      rw [hcnt] at hN ⊢
      unfold chV stV at krec
      unfold stV at kstep
      rw [← hq] at krec
      have kmv1 := kmv h1
      rw [hle] at kmv1
      rw [h1] at kst
      have KST := Lib.hid kst
      have KMV := Lib.hid kmv1
      have KSTEP := Lib.hid kstep
      have KREC := Lib.hid krec
      have HPR := Lib.hid hprod
      have HSUM := Lib.hid hsum
      have HFIN := Lib.hid hfin
      have tok0 : True := trivial
      clear kst kmv kmv1 ken hend hst hst3 h1 h1' hneed hstr hk0 hk1 hih hle hd hok hoe kstep hok2 krec hprod hsum hfin hq hcnt ih hl hs hc hkn hz hn12
      go_enter Tryz.func28, Tryz.ntmps28
      go_wp2_with (first
        | (at_lookup; refine wpList_lookup_own_ok_int _ rfl _ _ 57 rfl 30 2 .i64 law44 Tryz.underlying57 Tryz.underlying2 (zero_i64 _) b N D rfl HV2.out _ _ rfl HKEY.out ?_; intro cc hat hwc; clear hat hwc)
        | (clear tok0; go_at_call 32; refine (KST.out _ HSOL.out.only).mono ?_; rintro e w2 ⟨rfl, hb2⟩; have HS2 := Lib.hid (HSOL.out.below hb2); obtain ⟨y0, y1, y2, y3, y4, y5, y6, t0, t1, t2, t3, t4⟩ := HS2.out.cells; clear hb2; have tok1 : True := trivial)
        | (clear tok1; go_at_call 33; refine (KMV.out _ HS2.out.only).mono ?_; rintro e w3 ⟨A4, n4, k4, rfl, hb3, hs3⟩; obtain ⟨Az, kz, hze, hz1, hz2⟩ := hs3.shape; have hn4 : n4 = l.length := (by injection hze); subst hn4; have HS3 := Lib.hid (HS2.out.below hb3); have HL3 := Lib.hid (hs3.keep (G := fun x => x < w3.heap.size ∧ x ≠ b) elOtc_good (Same.refl _ _) fun x hx => ⟨hx.2, by have := HS2.out.blt; have := HS2.out.only.size; omega⟩); clear y0 y1 y2 y3 y4 y5 y6 t0 t1 t2 t3 t4; obtain ⟨y0, y1, y2, y3, y4, y5, y6, t0, t1, t2, t3, t4⟩ := HS3.out.cells; clear hb3 hs3 hze hz1 hz2; have tok2 : True := trivial))
      go_loopw [9, 31] (fun v i wr => ∃ (k : Nat) (sm : Int), k ≤ l.length ∧ i = .int .i64 k ∧ v = .int .i64 sm ∧ 0 ≤ sm ∧ sm ≤ 281474976710656 * k ∧ Hid (Sol w wr b (N + k * q) c (.slice A c.mdl.bats.length ca) (.slice A1 c.mdl.bows.length ca1) (.slice A2 c.bows.length ca2) (.slice A3 c.ord.length ca3) s) ∧ Hid (Sl 3 elOtc wr (fun x => x < wr.heap.size ∧ x ≠ b) (.slice A4 l.length k4) l) ∧ Hid (sm = sumI ((l.take k).map fun o => o.wt * valS c (stepC c s o)))) (fun _ i _ => l.length - (intOf i).toNat)
      case atStart => exact ⟨0, 0, Nat.zero_le _, rfl, rfl, by omega, by omega, Lib.hid (by rw [Nat.zero_mul]; exact HS3.out), HL3, Lib.hid rfl⟩
      case round =>
        clear HS2 HS3 HL3 y0 y1 y2 y3 y4 y5 y6 t0 t1 t2 t3 t4
        obtain ⟨k, sm, hk, rfl, rfl, hs0, hs1, HS, HL, hss⟩ := hrel
        by_cases hlt : k < l.length
        · obtain ⟨b0, o, rfl, hbl, g0, g1, g2⟩ := otc_at HL.out hlt
          have hp := HPR.out k hlt
          have hst := HSUM.out k hlt sm hss.out
          have kS := KSTEP.out k hlt
          have kR := KREC.out k hlt
          obtain ⟨s', hs'⟩ : ∃ x, x = stepC c s l[k] := ⟨_, rfl⟩
          rw [← hs'] at hp hst
          simp only [← hs'] at kS kR
          obtain ⟨vv, hvv⟩ : ∃ x, x = valS c s' := ⟨_, rfl⟩
          rw [← hvv] at hp hst
          simp only [← hvv] at kR
          obtain ⟨⟨pr, pw, pt⟩, hp'⟩ : ∃ p, p = l[k] := ⟨_, rfl⟩
          rw [← hp'] at g0 g1 g2 hp hst
          simp only [← hp'] at kS
          dsimp only at g0 g1 g2 hp hst kS
          obtain ⟨hp0, hp1⟩ := hp
          have hkq : k * q + q ≤ 16 * q := by have := Nat.mul_le_mul_right q (show k + 1 ≤ 16 by omega); rw [Nat.add_mul, Nat.one_mul] at this; exact this
          have HST := Lib.hid hst
          have KS := Lib.hid kS
          have KR := Lib.hid kR
          have HKQ := Lib.hid hkq
          clear hst kS kR hs' hvv hp' hss hkq
          go_wp2
          have HSA := Lib.hid (HS.out.alloc (.cells #[.int .i64 pr, .bool pw, .int .i64 pt] 45)).drew
          have HLA := Lib.hid (sl_only HL.out (Only.of_below (g := b) (Below.drew (Below.alloc (Below.refl wr.heap.size wr) (Nat.le_refl _) (.cells #[.int .i64 pr, .bool pw, .int .i64 pt] 45)))))
          have HCA := Lib.hid (Blk.new wr 45 #[.int .i64 pr, .bool pw, .int .i64 pt]).drew
          obtain ⟨y0, y1, y2, y3, y4, y5, y6, t0, t1, t2, t3, t4⟩ := HSA.out.cells
          have u0 := HCA.out.cell 0
          have u1 := HCA.out.cell 1
          have u2 := HCA.out.cell 2
          have tok2 : True := trivial
          have hwb : b < wr.heap.size := by have := HS.out.blt; have := HS.out.only.size; omega
          go_region_held3 (fun w' => w'.cell? ⟨w.heap.size, 0, none⟩ = some (.slice A c.mdl.bats.length ca) ∧ w'.cell? ⟨w.heap.size, 1, none⟩ = some (.slice A1 c.mdl.bows.length ca1) ∧ w'.cell? ⟨w.heap.size, 2, none⟩ = some (.slice A2 c.bows.length ca2) ∧ w'.cell? ⟨w.heap.size, 3, none⟩ = some (.int .i64 c.over) ∧ w'.cell? ⟨w.heap.size, 4, none⟩ = some (.int .i64 c.done) ∧ w'.cell? ⟨w.heap.size, 5, none⟩ = some (.int .i64 c.need) ∧ w'.cell? ⟨w.heap.size, 6, none⟩ = some (.slice A3 c.ord.length ca3) ∧ w'.cell? ⟨w.heap.size + 1, 0, none⟩ = some (.int .i64 s.ball) ∧ w'.cell? ⟨w.heap.size + 1, 1, none⟩ = some (.int .i64 s.need) ∧ w'.cell? ⟨w.heap.size + 1, 2, none⟩ = some (.int .i64 s.str) ∧ w'.cell? ⟨w.heap.size + 1, 3, none⟩ = some (.int .i64 s.par) ∧ w'.cell? ⟨w.heap.size + 1, 4, none⟩ = some (.int .i64 s.nxt) ∧ w'.cell? ⟨wr.heap.size, 0, none⟩ = some (.int .i64 pr) ∧ w'.cell? ⟨wr.heap.size, 1, none⟩ = some (.bool pw) ∧ w'.cell? ⟨wr.heap.size, 2, none⟩ = some (.int .i64 pt)) (first | exact ⟨y0, y1, y2, y3, y4, y5, y6, t0, t1, t2, t3, t4, u0, u1, u2⟩ | go_keep) (first
            | (clear tok2; go_at_call 41; refine (KS.out _).mono ?_; rintro e w5 ⟨rfl, hb5⟩; have HS5 := Lib.hid (HSA.out.below hb5); have HL5 := Lib.hid (sl_only HLA.out (Only.of_below hb5)); have HC5 := Lib.hid (HCA.out.below hb5 HCA.out.lt); obtain ⟨y0, y1, y2, y3, y4, y5, y6, t0, t1, t2, t3, t4⟩ := HS5.out.cells; have u0 := HC5.out.cell 0; have u1 := HC5.out.cell 1; have u2 := HC5.out.cell 2; clear hb5; have tok3 : True := trivial)
            | (clear tok3; go_at_call 28; obtain ⟨D5, hv5, hk5⟩ := HS5.out.vals; refine (KR.out _ D5 _ (HA.out.keep (HS5.out.only.same HF.out) fun _ h => h) (fun x hx => ⟨Nat.lt_of_lt_of_le (HF.out x hx).1 HS5.out.only.size, (HF.out x hx).2⟩) hv5 hk5 (by have := HKQ.out; omega)).mono ?_; rintro e w6 ⟨rfl, ho6, hv6⟩; have HS6 := Lib.hid (show Sol w w6 b (N + (k + 1) * q) c (.slice A c.mdl.bats.length ca) (.slice A1 c.mdl.bows.length ca1) (.slice A2 c.bows.length ca2) (.slice A3 c.ord.length ca3) s from HS5.out.into ho6 (by obtain ⟨D7, h1, h2⟩ := hv6; exact ⟨D7, h1.mono (by rw [Nat.add_mul]; omega), h2⟩)); have HL6 := Lib.hid (sl_only HL5.out ho6); have HC6 := Lib.hid (HC5.out.grown ho6 (by intro e; injection e with e; omega)); obtain ⟨y0, y1, y2, y3, y4, y5, y6, t0, t1, t2, t3, t4⟩ := HS6.out.cells; have u0 := HC6.out.cell 0; have u1 := HC6.out.cell 1; have u2 := HC6.out.cell 2; clear ho6 hv6 hv5 hk5; have tok4 : True := trivial))
          all_goals go_wp2
          go_roundw
          case rel => exact ⟨k + 1, sm + pt * vv, by omega, by go_num, by rw [IntWalk.i64_in (pt * vv) (by omega), IntWalk.i64_in (sm + pt * vv) (by omega)], by omega, by push_cast; omega, HS6, HL6, HST⟩
          case measure => simp [intOf]; omega
        · obtain rfl : k = l.length := by omega
          have hs2 := hss.out
          rw [List.take_of_length_le (Nat.le_refl _), HFIN.out] at hs2
          subst hs2
          obtain ⟨D2, hv9, hk9⟩ := HS.out.vals
          have HV9 := Lib.hid hv9
          have HK9 := Lib.hid hk9
          obtain ⟨y0, y1, y2, y3, y4, y5, y6, t0, t1, t2, t3, t4⟩ := HS.out.cells
          have hlq : l.length * q ≤ 16 * q := Nat.mul_le_mul_right q hlen
          obtain ⟨NN, hNN⟩ : ∃ NN, NN = N + l.length * q := ⟨_, rfl⟩
          rw [← hNN] at HV9
          have hN9 : NN + 1 ≤ N + (1 + 16 * q) := by omega
          have hN8 : NN < 2000000000000000000 := by omega
          clear hv9 hk9 hss hlq hNN
          go_wp2_with (at_mapUpdate; refine wpList_mapUpdate_own _ rfl _ _ _ 57 rfl 30 2 law44 Tryz.underlying57 _ b NN D2 rfl HV9.out (by unfold maxLen; omega) _ _ _ rfl rfl HKEY.out _ [] (plainElem_int Tryz.underlying2 (WalkArith.wf_i64 (by omega))) ?_; intro w9 hown9 hgrow9; have HG9 := Lib.hid hgrow9; have HO9 := Lib.hid hown9; clear hgrow9 hown9)
          go_ret
          exact ⟨rfl, HS.out.only.trans HG9.out, _, HO9.out.mono (by omega), HPUT.out _ HK9.out HV9.out.isMap⟩
theorem r44_fill (c : Chs) (hc : OkC c) : ∀ n, SolveAt 28 c n
  | 0 => r44_fill_at c hc 0 (fun k h => by omega)
  | n + 1 => r44_fill_at c hc (n + 1) fun k h => by
      obtain rfl : n = k := by omega
      exact r44_fill c hc n
end Go.Proofs.YtcbkpjiaipabbaaGreatDoor

namespace Go.Proofs.YtcbkpjiaipabbaaGreatDoor
open Go.RowKit Go.Maps

set_option maxRecDepth 100000 in
set_option maxHeartbeats 4000000 in
theorem ch44_Value (c : Chs) (s : Cst) (bv wv pv ov : Value) (w : World) (h : ChAt w (· < w.heap.size) bv wv pv ov c) :
    Calls Tryz.prog 10 #[chV c bv wv pv ov, stV s] w fun e w' => e = .returned (.tuple #[.int .i64 (valueC c s).1, .int .i64 (valueC c s).2]) ∧ Below w.heap.size w w' := by
  unfold chV stV
  obtain ⟨ball, need, str, par, nxt⟩ := s
  obtain ⟨A, ca, rfl, hc1, hc2⟩ := h.mdl.bat.shape
  obtain ⟨A1, ca1, rfl, hc3, hc4⟩ := h.mdl.bow.shape
  obtain ⟨A2, ca2, rfl, hc5, hc6⟩ := h.bow.shape
  obtain ⟨A3, ca3, rfl, hc7, hc8⟩ := h.ord.shape
  have hx := CSB.new w c (.slice A c.mdl.bats.length ca) (.slice A1 c.mdl.bows.length ca1) (.slice A2 c.bows.length ca2) (.slice A3 c.ord.length ca3) ⟨ball, need, str, par, nxt⟩
  have HX := Lib.hid hx
  have HM := Lib.hid h
  obtain ⟨z, hz⟩ : ∃ z, z = valueC c ⟨ball, need, str, par, nxt⟩ := ⟨_, rfl⟩
  rw [← hz]
  unfold valueC at hz
  have k1 := fun W (hW : Below w.heap.size w W) => ch44_CheckState c ⟨ball, need, str, par, nxt⟩ _ _ _ _ W (HM.out.below hW)
  have hok := fun h => (chst_ok (c := c) (s := ⟨ball, need, str, par, nxt⟩) h).2
  have k2 := fun (hc : OkC c) (hs : OkS c ⟨ball, need, str, par, nxt⟩) W (hW : Below w.heap.size w W) => (ch44_solve c hc _ ⟨ball, need, str, par, nxt⟩ rfl hs (.slice A c.mdl.bats.length ca) (.slice A1 c.mdl.bows.length ca1) (.slice A2 c.bows.length ca2) (.slice A3 c.ord.length ca3) (· < w.heap.size) W.heap.size 0 (.map []) (W.alloc (.map #[] 0)) (h.keep (Same.of_below (hW.alloc hW.size _)) fun b hb => hb) (fun x hx => ⟨by have := hW.size; simp; omega, by have := hW.size; omega⟩) (World.ownsMap_made W _ _ _) (Known.none c) (by rw [Nat.zero_add]; exact Nat.le_trans (cntV_le _ (left_le hc hs)) (by decide))).mono (R' := fun e w' => e = .returned (.int .i64 (valS c ⟨ball, need, str, par, nxt⟩)) ∧ Below w.heap.size w w') fun e w' h => ⟨h.1, (hW.alloc hW.size _).trans (h.2.1.below hW.size (by have := hW.size; simp; omega))⟩
  unfold chV stV at k1 k2
  dsimp only at k1 k2
  obtain ⟨u, hu⟩ : ∃ u, u = chstC c ⟨ball, need, str, par, nxt⟩ := ⟨_, rfl⟩
  obtain ⟨v, hv⟩ : ∃ v, v = valS c ⟨ball, need, str, par, nxt⟩ := ⟨_, rfl⟩
  rw [← hu] at k1 hz hok
  rw [← hv] at k2 hz
  have K1 := Lib.hid k1
  have tok0 : True := trivial
  have hmm := @run_makeMap Tryz.prog
  clear k1 hu hv h hx
  by_cases h0 : u = 0
  · rw [if_neg (by omega)] at hz
    have HZ := Lib.hid hz
    have K2 := Lib.hid (k2 (hok h0).1 (hok h0).2)
    have eu : (u != 0) = false := by simp [h0]
    clear hz h0 hok k2
    go_enter Tryz.func10, Tryz.ntmps10
    go_wp2_with (first
      | (clear tok0; go_at_call 12; refine (K1.out _ HX.out.bel).mono ?_; rintro e w2 ⟨rfl, hb2⟩; have HX2 := Lib.hid (HX.out.below hb2); obtain ⟨x0, x1, x2, x3, x4, x5, x6, y0, y1, y2, y3, y4⟩ := HX2.out.cells; dsimp only at y0 y1 y2 y3 y4; clear hb2; have tok1 : True := trivial)
      | (clear tok1; go_at_call 27; refine (K2.out _ HX2.out.bel).mono ?_; rintro e w3 ⟨rfl, hb3⟩; have HB3 := Lib.hid hb3; clear hb3; have tok2 : True := trivial))
    go_ret2
    exact ⟨by rw [HZ.out] <;> rfl, HB3.out⟩
  · rw [if_pos h0] at hz
    have HZ := Lib.hid hz
    have eu : (u != 0) = true := by simp [h0]
    clear hz h0 hok k2
    go_enter Tryz.func10, Tryz.ntmps10
    go_wp2_with (clear tok0; go_at_call 12; refine (K1.out _ HX.out.bel).mono ?_; rintro e w2 ⟨rfl, hb2⟩; have HX2 := Lib.hid (HX.out.below hb2); obtain ⟨x0, x1, x2, x3, x4, x5, x6, y0, y1, y2, y3, y4⟩ := HX2.out.cells; dsimp only at y0 y1 y2 y3 y4; clear hb2; have tok1 : True := trivial)
    go_ret2
    exact ⟨by rw [HZ.out] <;> rfl, HX2.out.bel⟩
set_option maxRecDepth 100000 in
set_option maxHeartbeats 4000000 in
theorem r44_Value (c : Chs) (s : Cst) (bv wv pv ov : Value) (w : World) (h : ChAt w (· < w.heap.size) bv wv pv ov c) :
    Calls Tryz.prog 11 #[chV c bv wv pv ov, stV s] w fun e w' => e = .returned (.tuple #[.int .i64 (valueC c s).1, .int .i64 (valueC c s).2]) ∧ Below w.heap.size w w' := by
  unfold chV stV
  obtain ⟨ball, need, str, par, nxt⟩ := s
  obtain ⟨A, ca, rfl, hc1, hc2⟩ := h.mdl.bat.shape
  obtain ⟨A1, ca1, rfl, hc3, hc4⟩ := h.mdl.bow.shape
  obtain ⟨A2, ca2, rfl, hc5, hc6⟩ := h.bow.shape
  obtain ⟨A3, ca3, rfl, hc7, hc8⟩ := h.ord.shape
  have hx := CSB.new w c (.slice A c.mdl.bats.length ca) (.slice A1 c.mdl.bows.length ca1) (.slice A2 c.bows.length ca2) (.slice A3 c.ord.length ca3) ⟨ball, need, str, par, nxt⟩
  have HX := Lib.hid hx
  have HM := Lib.hid h
  obtain ⟨z, hz⟩ : ∃ z, z = valueC c ⟨ball, need, str, par, nxt⟩ := ⟨_, rfl⟩
  rw [← hz]
  unfold valueC at hz
  have k1 := fun W (hW : Below w.heap.size w W) => r44_CheckState c ⟨ball, need, str, par, nxt⟩ _ _ _ _ W (HM.out.below hW)
  have hok := fun h => (chst_ok (c := c) (s := ⟨ball, need, str, par, nxt⟩) h).2
  have k2 := fun (hc : OkC c) (hs : OkS c ⟨ball, need, str, par, nxt⟩) W (hW : Below w.heap.size w W) => (r44_fill c hc _ ⟨ball, need, str, par, nxt⟩ rfl hs (.slice A c.mdl.bats.length ca) (.slice A1 c.mdl.bows.length ca1) (.slice A2 c.bows.length ca2) (.slice A3 c.ord.length ca3) (· < w.heap.size) W.heap.size 0 (.map []) (W.alloc (.map #[] 0)) (h.keep (Same.of_below (hW.alloc hW.size _)) fun b hb => hb) (fun x hx => ⟨by have := hW.size; simp; omega, by have := hW.size; omega⟩) (World.ownsMap_made W _ _ _) (Known.none c) (by rw [Nat.zero_add]; exact Nat.le_trans (cntV_le _ (left_le hc hs)) (by decide))).mono (R' := fun e w' => e = .returned (.int .i64 (valS c ⟨ball, need, str, par, nxt⟩)) ∧ Below w.heap.size w w') fun e w' h => ⟨h.1, (hW.alloc hW.size _).trans (h.2.1.below hW.size (by have := hW.size; simp; omega))⟩
  unfold chV stV at k1 k2
  dsimp only at k1 k2
  obtain ⟨u, hu⟩ : ∃ u, u = chstC c ⟨ball, need, str, par, nxt⟩ := ⟨_, rfl⟩
  obtain ⟨v, hv⟩ : ∃ v, v = valS c ⟨ball, need, str, par, nxt⟩ := ⟨_, rfl⟩
  rw [← hu] at k1 hz hok
  rw [← hv] at k2 hz
  have K1 := Lib.hid k1
  have tok0 : True := trivial
  have hmm := @run_makeMap Tryz.prog
  clear k1 hu hv h hx
  by_cases h0 : u = 0
  · rw [if_neg (by omega)] at hz
    have HZ := Lib.hid hz
    have K2 := Lib.hid (k2 (hok h0).1 (hok h0).2)
    have eu : (u != 0) = false := by simp [h0]
    clear hz h0 hok k2
    go_enter Tryz.func11, Tryz.ntmps11
    go_wp2_with (first
      | (clear tok0; go_at_call 20; refine (K1.out _ HX.out.bel).mono ?_; rintro e w2 ⟨rfl, hb2⟩; have HX2 := Lib.hid (HX.out.below hb2); obtain ⟨x0, x1, x2, x3, x4, x5, x6, y0, y1, y2, y3, y4⟩ := HX2.out.cells; dsimp only at y0 y1 y2 y3 y4; clear hb2; have tok1 : True := trivial)
      | (clear tok1; go_at_call 28; refine (K2.out _ HX2.out.bel).mono ?_; rintro e w3 ⟨rfl, hb3⟩; have HB3 := Lib.hid hb3; clear hb3; have tok2 : True := trivial))
    go_ret2
    exact ⟨by rw [HZ.out] <;> rfl, HB3.out⟩
  · rw [if_pos h0] at hz
    have HZ := Lib.hid hz
    have eu : (u != 0) = true := by simp [h0]
    clear hz h0 hok k2
    go_enter Tryz.func11, Tryz.ntmps11
    go_wp2_with (clear tok0; go_at_call 20; refine (K1.out _ HX.out.bel).mono ?_; rintro e w2 ⟨rfl, hb2⟩; have HX2 := Lib.hid (HX.out.below hb2); obtain ⟨x0, x1, x2, x3, x4, x5, x6, y0, y1, y2, y3, y4⟩ := HX2.out.cells; dsimp only at y0 y1 y2 y3 y4; clear hb2; have tok1 : True := trivial)
    go_ret2
    exact ⟨by rw [HZ.out] <;> rfl, HX2.out.bel⟩
def bigC (c : Chs) : Bool := decide (30 < c.mdl.bats.length) || decide (30 < c.mdl.bows.length) || decide (6 < c.ord.length) || decide (6 < c.bows.length) || decide (24 < c.need)
def smallC (c : Chs) : Bool := !bigC c && c.mdl.bats.all (fun b => decide (b.dist.length ≤ 100))
theorem small44_drop {l : List Bat} {k : Nat} (hk : k < l.length) : (l.drop k).all (fun b => decide (b.dist.length ≤ 100)) = (decide (l[k].dist.length ≤ 100) && (l.drop (k + 1)).all (fun b => decide (b.dist.length ≤ 100))) := by
  rw [drop_get hk, List.all_cons]
theorem big_ways (c : Chs) : (bigC c = true ∧ (30 < (c.mdl.bats.length : Int) ∨ (¬ 30 < (c.mdl.bats.length : Int) ∧ 30 < (c.mdl.bows.length : Int)) ∨ (¬ 30 < (c.mdl.bats.length : Int) ∧ ¬ 30 < (c.mdl.bows.length : Int) ∧ 6 < (c.ord.length : Int)) ∨ (¬ 30 < (c.mdl.bats.length : Int) ∧ ¬ 30 < (c.mdl.bows.length : Int) ∧ ¬ 6 < (c.ord.length : Int) ∧ 6 < (c.bows.length : Int)) ∨ (¬ 30 < (c.mdl.bats.length : Int) ∧ ¬ 30 < (c.mdl.bows.length : Int) ∧ ¬ 6 < (c.ord.length : Int) ∧ ¬ 6 < (c.bows.length : Int) ∧ 24 < c.need))) ∨
    (bigC c = false ∧ ¬ 30 < (c.mdl.bats.length : Int) ∧ ¬ 30 < (c.mdl.bows.length : Int) ∧ ¬ 6 < (c.ord.length : Int) ∧ ¬ 6 < (c.bows.length : Int) ∧ ¬ 24 < c.need) := by
  cases h : bigC c
  · refine .inr ⟨rfl, ?_⟩
    unfold bigC at h
    simp only [Bool.or_eq_false_iff, decide_eq_false_iff_not] at h
    omega
  · refine .inl ⟨rfl, ?_⟩
    unfold bigC at h
    simp only [Bool.or_eq_true, decide_eq_true_eq] at h
    omega
set_option maxRecDepth 100000 in
set_option maxHeartbeats 2000000 in
theorem law44_Small (c : Chs) (bv wv pv ov : Value) (w : World) (h : ChAt w (· < w.heap.size) bv wv pv ov c) :
    Calls Tryz.prog 9 #[chV c bv wv pv ov] w fun e w' => e = .returned (.bool (smallC c)) ∧ Below w.heap.size w w' := by
  unfold chV
  obtain ⟨z, hz⟩ : ∃ z, z = smallC c := ⟨_, rfl⟩
  rw [← hz]
  unfold smallC at hz
  obtain ⟨A, ca, rfl, hc1, hc2⟩ := h.mdl.bat.shape
  obtain ⟨A1, ca1, rfl, hc3, hc4⟩ := h.mdl.bow.shape
  obtain ⟨A2, ca2, rfl, hc5, hc6⟩ := h.bow.shape
  obtain ⟨A3, ca3, rfl, hc7, hc8⟩ := h.ord.shape
  have HX := Lib.hid (ChB.new w c (.slice A c.mdl.bats.length ca) (.slice A1 c.mdl.bows.length ca1) (.slice A2 c.bows.length ca2) (.slice A3 c.ord.length ca3))
  have HL := Lib.hid h.mdl.bat
  have hw := big_ways c
  clear h
  rcases hw with ⟨hb, hw⟩ | ⟨hb, g1, g2, g3, g4, g5⟩
  · rw [hb, Bool.not_true, Bool.false_and] at hz
    have HZ := Lib.hid hz
    clear hz hb HL
    rcases hw with g1 | ⟨g1, g2⟩ | ⟨g1, g2, g3⟩ | ⟨g1, g2, g3, g4⟩ | ⟨g1, g2, g3, g4, g5⟩
    all_goals
      go_enter Tryz.func9, Tryz.ntmps9
      go_wp2
      go_ret
      exact ⟨ret_b HZ.out.symm, HX.out.bel⟩
  · rw [hb, Bool.not_false, Bool.true_and] at hz
    have HZ : Hid (z = (c.mdl.bats.drop 0).all (fun b => decide (b.dist.length ≤ 100))) := hz
    clear hz hb
    go_enter Tryz.func9, Tryz.ntmps9
    go_wp2
    go_loopw [38] (fun i wr => ∃ k : Nat, k ≤ c.mdl.bats.length ∧ i = .int .i64 k ∧ Hid (ChB w wr w.heap.size c (.slice A c.mdl.bats.length ca) (.slice A1 c.mdl.bows.length ca1) (.slice A2 c.bows.length ca2) (.slice A3 c.ord.length ca3)) ∧ Hid (z = (c.mdl.bats.drop k).all (fun b => decide (b.dist.length ≤ 100)))) (fun i _ => c.mdl.bats.length - (intOf i).toNat)
    case atStart => exact ⟨0, Nat.zero_le _, rfl, HX, HZ⟩
    case round =>
      clear HX HZ
      obtain ⟨k, hk, rfl, HW, hzz⟩ := hrel
      by_cases hlt : k < c.mdl.bats.length
      · obtain ⟨b0, o, v, rfl, hbl, yy0, yy1, hv, hpl⟩ := bat_at HL.out hlt
        have y0 := (HW.out.bel.cell (p := ⟨b0, o + k * 2, none⟩) hbl).trans yy0
        have y1 := (HW.out.bel.cell (p := ⟨b0, o + k * 2 + 1, none⟩) hbl).trans yy1
        have hz2 := hzz.out
        rw [small44_drop hlt] at hz2
        obtain ⟨A9, c9, hve, _, _⟩ := hv.shape
        obtain ⟨p, hp⟩ : ∃ b, b = c.mdl.bats[k] := ⟨_, rfl⟩
        rw [← hp] at y0 hz2 hve
        obtain ⟨n2, hn2⟩ : ∃ n, n = p.dist.length := ⟨_, rfl⟩
        obtain ⟨pn, hpn⟩ : ∃ n, n = p.name := ⟨_, rfl⟩
        rw [← hn2] at hve hz2
        rw [← hpn] at y0
        subst hve
        have HA := Lib.hid (HW.out.alloc (.cells #[.string (S pn), .slice A9 n2 c9] 53))
        clear hzz hp hn2 hpn yy0 yy1 hv hpl
        by_cases hs : n2 ≤ 100
        · rw [decide_eq_true hs, Bool.true_and] at hz2
          have HZZ := Lib.hid hz2
          have g9 : ¬ (100 : Int) < (n2 : Int) := by omega
          clear hz2 hs
          go_wp2
          go_roundw
          case rel => exact ⟨k + 1, by omega, by go_num, HA, HZZ⟩
          case measure => simp [intOf]; omega
        · rw [decide_eq_false hs, Bool.false_and] at hz2
          have HZZ := Lib.hid hz2
          have g9 : (100 : Int) < (n2 : Int) := by omega
          clear hz2 hs
          go_wp2
          go_ret
          exact ⟨ret_b HZZ.out.symm, HA.out.bel⟩
      · obtain rfl : k = c.mdl.bats.length := by omega
        have hz2 := hzz.out
        rw [List.drop_of_length_le (Nat.le_refl _), List.all_nil] at hz2
        have HZZ := Lib.hid hz2
        clear hz2 hzz
        go_wp2
        go_ret
        exact ⟨ret_b HZZ.out.symm, HW.out.bel⟩
end Go.Proofs.YtcbkpjiaipabbaaGreatDoor

namespace Go.Proofs.YtcbkpjiaipabbaaGreatDoor
open Go.RowKit

theorem otc_ex3 {W w' : World} {l : List Otc} {u : Int} {e : Ending} (h : OtcPost W (l, u) e w') : ∃ A n c, e = .returned (.tuple #[.slice A n c, .int .i64 u]) ∧ Below W.heap.size W w' ∧ Sl 3 elOtc w' (· < w'.heap.size) (.slice A n c) l := by
  obtain ⟨v, rfl, hs, hb⟩ := h
  obtain ⟨A, c, rfl, _⟩ := hs.shape
  exact ⟨A, _, c, rfl, hb, hs.keep elOtc_good (Same.refl _ _) fun b h => h.2⟩
theorem sl_on3 {w W : World} {v : Value} {l : List Otc} (h : Sl 3 elOtc w (· < w.heap.size) v l) (hb : Below w.heap.size w W) : Sl 3 elOtc W (· < W.heap.size) v l := h.keep elOtc_good (Same.of_below hb) fun b hx => Nat.lt_of_lt_of_le hx hb.size
theorem itoa_dig3 (n : Nat) (h : n < 10) : Lib.itoa (n : Int) = [UInt8.ofNat (48 + n)] := by
  unfold Lib.itoa
  rw [if_neg (by omega), Int.toNat_natCast, Lib.decDigits, dif_pos h]
theorem otcW_dig3 (r t : Nat) (b : Bool) (hr : r < 10) (ht : t < 10) : otcW ⟨(r : Int), b, (t : Int)⟩ = UInt8.ofNat (48 + r) :: ((if b = true then [87] else []) ++ [58, UInt8.ofNat (48 + t)]) := by
  unfold otcW
  simp only
  rw [itoa_dig3 r hr, itoa_dig3 t ht]
  simp
theorem dec_two (n : Nat) (h : 10 ≤ n) (h2 : n < 100) : Lib.itoa (n : Int) = [UInt8.ofNat (48 + n / 10), UInt8.ofNat (48 + n % 10)] := by
  unfold Lib.itoa
  rw [if_neg (by omega), Int.toNat_natCast, Lib.decDigits, dif_neg (by omega), Lib.decDigits, dif_pos (by omega)]
  rfl
theorem otcW_dig2 (r t : Nat) (b : Bool) (hr : r < 10) (h : 10 ≤ t) (ht : t < 100) : otcW ⟨(r : Int), b, (t : Int)⟩ = UInt8.ofNat (48 + r) :: ((if b = true then [87] else []) ++ [58, UInt8.ofNat (48 + t / 10), UInt8.ofNat (48 + t % 10)]) := by
  unfold otcW
  simp only
  rw [itoa_dig3 r hr, dec_two t h ht]
  simp
def exmM1 : List UInt8 := [48, 58, 56, 32, 49, 58, 52, 32, 52, 58, 52]
def exmM1d : List Otc := [⟨0, false, 8⟩, ⟨1, false, 4⟩, ⟨4, false, 4⟩]
theorem exmM1_text : textC exmM1d = (exmM1, 0) := by
  have h0 : checkD exmM1d = 0 := by kernel_rfl
  have e0 := otcW_dig3 0 8 false (by omega) (by omega)
  have e1 := otcW_dig3 1 4 false (by omega) (by omega)
  have e2 := otcW_dig3 4 4 false (by omega) (by omega)
  unfold textC
  rw [if_neg (fun k => k h0)]
  show (Lib.join [otcW ⟨((0 : Nat) : Int), false, ((8 : Nat) : Int)⟩, otcW ⟨((1 : Nat) : Int), false, ((4 : Nat) : Int)⟩, otcW ⟨((4 : Nat) : Int), false, ((4 : Nat) : Int)⟩] [32], (0 : Int)) = _
  rw [e0, e1, e2]
  kernel_rfl
def exmM2 : List UInt8 := [48, 58, 49, 53, 32, 49, 58, 49]
def exmM2d : List Otc := [⟨0, false, 15⟩, ⟨1, false, 1⟩]
theorem exmM2_text : textC exmM2d = (exmM2, 0) := by
  have h0 : checkD exmM2d = 0 := by kernel_rfl
  have e0 := otcW_dig2 0 15 false (by omega) (by omega) (by omega)
  have e1 := otcW_dig3 1 1 false (by omega) (by omega)
  unfold textC
  rw [if_neg (fun k => k h0)]
  show (Lib.join [otcW ⟨((0 : Nat) : Int), false, ((15 : Nat) : Int)⟩, otcW ⟨((1 : Nat) : Int), false, ((1 : Nat) : Int)⟩] [32], (0 : Int)) = _
  rw [e0, e1]
  kernel_rfl
def exmA : List UInt8 := [48, 58, 49, 48, 32, 48, 87, 58, 49, 32, 49, 58, 52, 32, 52, 58, 49]
def exmAd : List Otc := [⟨0, false, 10⟩, ⟨0, true, 1⟩, ⟨1, false, 4⟩, ⟨4, false, 1⟩]
theorem exmA_text : textC exmAd = (exmA, 0) := by
  have h0 : checkD exmAd = 0 := by kernel_rfl
  have e0 := otcW_dig2 0 10 false (by omega) (by omega) (by omega)
  have e1 := otcW_dig3 0 1 true (by omega) (by omega)
  have e2 := otcW_dig3 1 4 false (by omega) (by omega)
  have e3 := otcW_dig3 4 1 false (by omega) (by omega)
  unfold textC
  rw [if_neg (fun k => k h0)]
  show (Lib.join [otcW ⟨((0 : Nat) : Int), false, ((10 : Nat) : Int)⟩, otcW ⟨((0 : Nat) : Int), true, ((1 : Nat) : Int)⟩, otcW ⟨((1 : Nat) : Int), false, ((4 : Nat) : Int)⟩, otcW ⟨((4 : Nat) : Int), false, ((1 : Nat) : Int)⟩] [32], (0 : Int)) = _
  rw [e0, e1, e2, e3]
  kernel_rfl
def exmB : List UInt8 := [48, 58, 55, 32, 49, 58, 53, 32, 52, 58, 52]
def exmBd : List Otc := [⟨0, false, 7⟩, ⟨1, false, 5⟩, ⟨4, false, 4⟩]
theorem exmB_text : textC exmBd = (exmB, 0) := by
  have h0 : checkD exmBd = 0 := by kernel_rfl
  have e0 := otcW_dig3 0 7 false (by omega) (by omega)
  have e1 := otcW_dig3 1 5 false (by omega) (by omega)
  have e2 := otcW_dig3 4 4 false (by omega) (by omega)
  unfold textC
  rw [if_neg (fun k => k h0)]
  show (Lib.join [otcW ⟨((0 : Nat) : Int), false, ((7 : Nat) : Int)⟩, otcW ⟨((1 : Nat) : Int), false, ((5 : Nat) : Int)⟩, otcW ⟨((4 : Nat) : Int), false, ((4 : Nat) : Int)⟩] [32], (0 : Int)) = _
  rw [e0, e1, e2]
  kernel_rfl
def exmC : List UInt8 := [48, 58, 49, 54]
def exmCd : List Otc := [⟨0, false, 16⟩]
theorem exmC_text : textC exmCd = (exmC, 0) := by
  have h0 : checkD exmCd = 0 := by kernel_rfl
  have e0 := otcW_dig2 0 16 false (by omega) (by omega) (by omega)
  unfold textC
  rw [if_neg (fun k => k h0)]
  show (Lib.join [otcW ⟨((0 : Nat) : Int), false, ((16 : Nat) : Int)⟩] [32], (0 : Int)) = _
  rw [e0]
  kernel_rfl
theorem exmM1_parse : parseC exmM1 = (exmM1d, 0) := by
  have h1 : (pieces 32 exmM1).all pieceOk = true := by kernel_rfl
  have h2 : (pieces 32 exmM1).map pieceO = exmM1d := by kernel_rfl
  unfold parseC
  rw [h1, if_neg (by simp), h2, exmM1_text, if_neg (by simp)]
theorem exmM2_parse : parseC exmM2 = (exmM2d, 0) := by
  have h1 : (pieces 32 exmM2).all pieceOk = true := by kernel_rfl
  have h2 : (pieces 32 exmM2).map pieceO = exmM2d := by kernel_rfl
  unfold parseC
  rw [h1, if_neg (by simp), h2, exmM2_text, if_neg (by simp)]
theorem exm_A : shiftS exmM1d 3 = (exmAd, 0) := by kernel_rfl
theorem exm_B : shiftS exmM1d (-1) = (exmBd, 0) := by kernel_rfl
theorem exm_C : shiftS exmM2d 5 = (exmCd, 0) := by kernel_rfl
end Go.Proofs.YtcbkpjiaipabbaaGreatDoor

namespace Go.Proofs.YtcbkpjiaipabbaaGreatDoor
open Go.RowKit

theorem bats_lit (W : World) (v : Value) (d : List Otc) (x y : List UInt8) (hv : Sl 3 elOtc W (· < W.heap.size) v d) (hx : x.length ≤ maxLen) (hy : y.length ≤ maxLen) :
    Sl 2 elBat (W.alloc (.cells #[.string (S x), v, .string (S y), v] 53)) (· < (W.alloc (.cells #[.string (S x), v, .string (S y), v] 53)).heap.size) (.slice (some ⟨W.heap.size, 0, none⟩) 2 2) [⟨x, d⟩, ⟨y, d⟩] := by
  have hk := Blk.new W 53 #[.string (S x), v, .string (S y), v]
  have hb : Below W.heap.size W (W.alloc (.cells #[.string (S x), v, .string (S y), v] 53)) := Below.alloc (Below.refl _ _) (Nat.le_refl _) _
  have hv2 := hv.keep (G := (· < (W.alloc (.cells #[.string (S x), v, .string (S y), v] 53)).heap.size)) elOtc_good (Same.of_below hb) fun b h => Nat.lt_of_lt_of_le h hb.size
  refine ⟨_, 2, rfl, Nat.le_refl _, by decide, fun h0 => ⟨W.heap.size, 0, rfl, by simp, fun i a hi => ?_⟩⟩
  have hlt := (List.getElem?_eq_some_iff.1 hi).1
  have hc : i = 0 ∨ i = 1 := by simp at hlt; omega
  rcases hc with rfl | rfl
  · simp at hi; subst hi
    refine ⟨[.string (S x), v], rfl, fun j u hu => ?_, ⟨_, rfl, hv2⟩, hx⟩
    have hj : j = 0 ∨ j = 1 := by have := (List.getElem?_eq_some_iff.1 hu).1; simp at this; omega
    rcases hj with rfl | rfl
    · simp at hu; subst hu; exact hk.cell 0
    · simp at hu; subst hu; exact hk.cell 1
  · simp at hi; subst hi
    refine ⟨[.string (S y), v], rfl, fun j u hu => ?_, ⟨_, rfl, hv2⟩, hy⟩
    have hj : j = 0 ∨ j = 1 := by have := (List.getElem?_eq_some_iff.1 hu).1; simp at this; omega
    rcases hj with rfl | rfl
    · simp at hu; subst hu; exact hk.cell 2
    · simp at hu; subst hu; exact hk.cell 3
theorem bows_lit (W : World) (x : List UInt8) (n : Int) (hx : x.length ≤ maxLen) :
    Sl 2 elBow (W.alloc (.cells #[.string (S x), .int .i64 n] 55)) (· < (W.alloc (.cells #[.string (S x), .int .i64 n] 55)).heap.size) (.slice (some ⟨W.heap.size, 0, none⟩) 1 1) [⟨x, n⟩] := by
  have hk := Blk.new W 55 #[.string (S x), .int .i64 n]
  refine ⟨_, 1, rfl, Nat.le_refl _, by decide, fun h0 => ⟨W.heap.size, 0, rfl, by simp, fun i a hi => ?_⟩⟩
  have hlt := (List.getElem?_eq_some_iff.1 hi).1
  obtain rfl : i = 0 := by simp at hlt; omega
  simp at hi; subst hi
  refine ⟨[.string (S x), .int .i64 n], rfl, fun j u hu => ?_, rfl, hx⟩
  have hj : j = 0 ∨ j = 1 := by have := (List.getElem?_eq_some_iff.1 hu).1; simp at this; omega
  rcases hj with rfl | rfl
  · simp at hu; subst hu; exact hk.cell 0
  · simp at hu; subst hu; exact hk.cell 1
theorem ints_one (W : World) (a : Int) (e : TypeId) : Sl 1 elInt (W.alloc (.cells #[.int .i64 a] e)) (· < (W.alloc (.cells #[.int .i64 a] e)).heap.size) (.slice (some ⟨W.heap.size, 0, none⟩) 1 1) [a] := by
  have hk := Blk.new W e #[.int .i64 a]
  refine ⟨_, 1, rfl, Nat.le_refl _, by decide, fun h0 => ⟨W.heap.size, 0, rfl, by simp, fun i b hi => ?_⟩⟩
  have hlt := (List.getElem?_eq_some_iff.1 hi).1
  obtain rfl : i = 0 := by simp at hlt; omega
  simp at hi; subst hi
  refine ⟨[.int .i64 a], rfl, fun j u hu => ?_, rfl⟩
  obtain rfl : j = 0 := by have := (List.getElem?_eq_some_iff.1 hu).1; simp at this; omega
  simp at hu; subst hu; exact hk.cell 0
theorem ints_two (W : World) (a b : Int) (e : TypeId) : Sl 1 elInt (W.alloc (.cells #[.int .i64 a, .int .i64 b] e)) (· < (W.alloc (.cells #[.int .i64 a, .int .i64 b] e)).heap.size) (.slice (some ⟨W.heap.size, 0, none⟩) 2 2) [a, b] := by
  have hk := Blk.new W e #[.int .i64 a, .int .i64 b]
  refine ⟨_, 2, rfl, Nat.le_refl _, by decide, fun h0 => ⟨W.heap.size, 0, rfl, by simp, fun i x hi => ?_⟩⟩
  have hlt := (List.getElem?_eq_some_iff.1 hi).1
  have hc : i = 0 ∨ i = 1 := by simp at hlt; omega
  rcases hc with rfl | rfl
  · simp at hi; subst hi
    refine ⟨[.int .i64 a], rfl, fun j u hu => ?_, rfl⟩
    obtain rfl : j = 0 := by have := (List.getElem?_eq_some_iff.1 hu).1; simp at this; omega
    simp at hu; subst hu; exact hk.cell 0
  · simp at hi; subst hi
    refine ⟨[.int .i64 b], rfl, fun j u hu => ?_, rfl⟩
    obtain rfl : j = 0 := by have := (List.getElem?_eq_some_iff.1 hu).1; simp at this; omega
    simp at hu; subst hu; exact hk.cell 1
def chM : Mdl := ⟨[⟨[65], exmM1d⟩, ⟨[66], exmM1d⟩], [⟨[67], 0⟩]⟩
def ch1 : Chs := ⟨chM, [0], 6, 0, 2, [0, 1]⟩
def ch2 : Chs := ⟨chM, [0, 0], 6, 0, 2, [0, 1]⟩
theorem ch1_start : startC ch1 = (⟨0, 2, 0, 1, 2⟩, 0) := by kernel_rfl
theorem ch1_value : valueC ch1 ⟨0, 2, 0, 1, 2⟩ = (4, 0) := by kernel_rfl
theorem ch2_value : valueC ch2 ⟨0, 2, 0, 1, 2⟩ = (128, 0) := by kernel_rfl
/-- The world in which the first chase is laid. -/
def awW (w1 : World) (v : Value) : World :=
  (((((w1.alloc (.cells #[.string (S [65]), v, .string (S [66]), v] 53)).alloc (.cells #[.string (S [67]), .int .i64 0] 55)).alloc (.cells #[.slice (some ⟨w1.heap.size, 0, none⟩) 2 2, .slice (some ⟨w1.heap.size + 1, 0, none⟩) 1 1] 25)).alloc (.cells #[.int .i64 0] 3)).alloc (.cells #[.int .i64 0, .int .i64 1] 3)).alloc
    (.cells #[.slice (some ⟨w1.heap.size, 0, none⟩) 2 2, .slice (some ⟨w1.heap.size + 1, 0, none⟩) 1 1, .slice (some ⟨w1.heap.size + 1 + 1 + 1, 0, none⟩) 1 1, .int .i64 6, .int .i64 0, .int .i64 2, .slice (some ⟨w1.heap.size + 1 + 1 + 1 + 1, 0, none⟩) 2 2] 28)
/-- The first chase laid, in a world that has gone on. -/
structure AwI (w1 W : World) : Prop where
  bel : Below w1.heap.size w1 W
  ch : ChAt W (· < w1.heap.size + 1 + 1 + 1 + 1 + 1) (.slice (some ⟨w1.heap.size, 0, none⟩) 2 2) (.slice (some ⟨w1.heap.size + 1, 0, none⟩) 1 1) (.slice (some ⟨w1.heap.size + 1 + 1 + 1, 0, none⟩) 1 1) (.slice (some ⟨w1.heap.size + 1 + 1 + 1 + 1, 0, none⟩) 2 2) ch1
  blk : Blk W (w1.heap.size + 1 + 1 + 1 + 1 + 1) 28 #[.slice (some ⟨w1.heap.size, 0, none⟩) 2 2, .slice (some ⟨w1.heap.size + 1, 0, none⟩) 1 1, .slice (some ⟨w1.heap.size + 1 + 1 + 1, 0, none⟩) 1 1, .int .i64 6, .int .i64 0, .int .i64 2, .slice (some ⟨w1.heap.size + 1 + 1 + 1 + 1, 0, none⟩) 2 2]
theorem AwI.below {w1 W W' : World} (h : AwI w1 W) (hb : Below W.heap.size W W') : AwI w1 W' :=
  ⟨h.bel.trans (hb.mono h.bel.size), h.ch.keep (Same.below hb fun b hb => Nat.lt_trans hb h.blk.lt) fun b hb => hb, h.blk.below hb h.blk.lt⟩
theorem AwI.in {w1 W : World} (h : AwI w1 W) : ChAt W (· < W.heap.size) (.slice (some ⟨w1.heap.size, 0, none⟩) 2 2) (.slice (some ⟨w1.heap.size + 1, 0, none⟩) 1 1) (.slice (some ⟨w1.heap.size + 1 + 1 + 1, 0, none⟩) 1 1) (.slice (some ⟨w1.heap.size + 1 + 1 + 1 + 1, 0, none⟩) 2 2) ch1 := h.ch.keep (Same.refl _ _) fun b hb => Nat.lt_trans hb h.blk.lt
theorem AwI.cells {w1 W : World} (h : AwI w1 W) (k : Nat) (u : Value) (hk : #[Value.slice (some ⟨w1.heap.size, 0, none⟩) 2 2, .slice (some ⟨w1.heap.size + 1, 0, none⟩) 1 1, .slice (some ⟨w1.heap.size + 1 + 1 + 1, 0, none⟩) 1 1, .int .i64 6, .int .i64 0, .int .i64 2, .slice (some ⟨w1.heap.size + 1 + 1 + 1 + 1, 0, none⟩) 2 2][k]? = some u) : W.cell? ⟨w1.heap.size + 1 + 1 + 1 + 1 + 1, k, none⟩ = some u := (h.blk.cell k).trans hk
theorem Sl.up {α : Type} {size : Nat} {R : World → (Nat → Prop) → List Value → α → Prop} (hR : Good R) {W W' : World} {n m : Nat} {v : Value} {l : List α} (h : Sl size R W (· < W.heap.size) v l) (hb : Below W.heap.size W W') (hn : W.heap.size ≤ m) : Sl size R W' (· < m) v l :=
  h.keep hR (Same.of_below hb) fun b hb => Nat.lt_of_lt_of_le hb hn
theorem aw_start (w1 : World) (A : Option Addr) (c1 : Nat) (h : Sl 3 elOtc w1 (· < w1.heap.size) (.slice A 3 c1) exmM1d) : AwI w1 (awW w1 (.slice A 3 c1)) := by
  unfold awW
  have s1 := bats_lit w1 (.slice A 3 c1) exmM1d [65] [66] h (by decide) (by decide)
  obtain ⟨W1, hW1⟩ : ∃ W, W = w1.alloc (.cells #[.string (S [65]), .slice A 3 c1, .string (S [66]), .slice A 3 c1] 53) := ⟨_, rfl⟩
  have z1 : W1.heap.size = w1.heap.size + 1 := by rw [hW1]; simp
  have b1 : Below w1.heap.size w1 W1 := by rw [hW1]; exact Below.alloc (Below.refl _ _) (Nat.le_refl _) _
  rw [← hW1] at s1 ⊢
  have s2 := bows_lit W1 [67] 0 (by decide)
  rw [z1] at s2
  obtain ⟨W2, hW2⟩ : ∃ W, W = W1.alloc (.cells #[.string (S [67]), .int .i64 0] 55) := ⟨_, rfl⟩
  have z2 : W2.heap.size = w1.heap.size + 1 + 1 := by rw [hW2]; simp [z1]
  have b2 : Below W1.heap.size W1 W2 := by rw [hW2]; exact Below.alloc (Below.refl _ _) (Nat.le_refl _) _
  rw [← hW2] at s2 ⊢
  obtain ⟨W3, hW3⟩ : ∃ W, W = W2.alloc (.cells #[.slice (some ⟨w1.heap.size, 0, none⟩) 2 2, .slice (some ⟨w1.heap.size + 1, 0, none⟩) 1 1] 25) := ⟨_, rfl⟩
  have z3 : W3.heap.size = w1.heap.size + 1 + 1 + 1 := by rw [hW3]; simp [z2]
  have b3 : Below W2.heap.size W2 W3 := by rw [hW3]; exact Below.alloc (Below.refl _ _) (Nat.le_refl _) _
  rw [← hW3]
  have s4 := ints_one W3 0 3
  rw [z3] at s4
  obtain ⟨W4, hW4⟩ : ∃ W, W = W3.alloc (.cells #[.int .i64 0] 3) := ⟨_, rfl⟩
  have z4 : W4.heap.size = w1.heap.size + 1 + 1 + 1 + 1 := by rw [hW4]; simp [z3]
  have b4 : Below W3.heap.size W3 W4 := by rw [hW4]; exact Below.alloc (Below.refl _ _) (Nat.le_refl _) _
  rw [← hW4] at s4 ⊢
  have s5 := ints_two W4 0 1 3
  rw [z4] at s5
  obtain ⟨W5, hW5⟩ : ∃ W, W = W4.alloc (.cells #[.int .i64 0, .int .i64 1] 3) := ⟨_, rfl⟩
  have z5 : W5.heap.size = w1.heap.size + 1 + 1 + 1 + 1 + 1 := by rw [hW5]; simp [z4]
  have b5 : Below W4.heap.size W4 W5 := by rw [hW5]; exact Below.alloc (Below.refl _ _) (Nat.le_refl _) _
  rw [← hW5] at s5 ⊢
  have k6 := Blk.new W5 28 #[.slice (some ⟨w1.heap.size, 0, none⟩) 2 2, .slice (some ⟨w1.heap.size + 1, 0, none⟩) 1 1, .slice (some ⟨w1.heap.size + 1 + 1 + 1, 0, none⟩) 1 1, .int .i64 6, .int .i64 0, .int .i64 2, .slice (some ⟨w1.heap.size + 1 + 1 + 1 + 1, 0, none⟩) 2 2]
  rw [z5] at k6
  have b6 : Below W5.heap.size W5 (W5.alloc (.cells #[.slice (some ⟨w1.heap.size, 0, none⟩) 2 2, .slice (some ⟨w1.heap.size + 1, 0, none⟩) 1 1, .slice (some ⟨w1.heap.size + 1 + 1 + 1, 0, none⟩) 1 1, .int .i64 6, .int .i64 0, .int .i64 2, .slice (some ⟨w1.heap.size + 1 + 1 + 1 + 1, 0, none⟩) 2 2] 28)) := Below.alloc (Below.refl _ _) (Nat.le_refl _) _
  have c5 := b6
  have c4 := b5.trans (c5.mono b5.size)
  have c3 := b4.trans (c4.mono b4.size)
  have c2 := b3.trans (c3.mono b3.size)
  have c1 := b2.trans (c2.mono b2.size)
  exact ⟨b1.trans (c1.mono b1.size), ⟨⟨Sl.up elBat_good s1 c1 (by omega) (n := 0), Sl.up elBow_good s2 c2 (by omega) (n := 0)⟩, Sl.up elInt_good s4 c4 (by omega) (n := 0), Sl.up elInt_good s5 c5 (by omega) (n := 0)⟩, k6⟩
/-- The second chase: the bowlers are stored anew. -/
theorem aw_second {w1 W : World} (h : AwI w1 W) (u : Value) (hu : u = .slice (some ⟨W.heap.size, 0, none⟩) 2 2) :
    Below w1.heap.size w1 ((W.setCell ⟨w1.heap.size + 1 + 1 + 1 + 1 + 1, 2, none⟩ u).alloc (.cells #[.int .i64 0, .int .i64 0] 3)) ∧
    ChAt ((W.setCell ⟨w1.heap.size + 1 + 1 + 1 + 1 + 1, 2, none⟩ u).alloc (.cells #[.int .i64 0, .int .i64 0] 3)) (· < ((W.setCell ⟨w1.heap.size + 1 + 1 + 1 + 1 + 1, 2, none⟩ u).alloc (.cells #[.int .i64 0, .int .i64 0] 3)).heap.size) (.slice (some ⟨w1.heap.size, 0, none⟩) 2 2) (.slice (some ⟨w1.heap.size + 1, 0, none⟩) 1 1) u (.slice (some ⟨w1.heap.size + 1 + 1 + 1 + 1, 0, none⟩) 2 2) ch2 := by
  obtain ⟨W2, hW2⟩ : ∃ X, X = W.setCell ⟨w1.heap.size + 1 + 1 + 1 + 1 + 1, 2, none⟩ u := ⟨_, rfl⟩
  have hb : Below (w1.heap.size + 1 + 1 + 1 + 1 + 1) W W2 := by rw [hW2]; refine Below.setCell (Below.refl _ _) ?_ _; exact Nat.le_refl _
  have hz : W2.heap.size = W.heap.size := by rw [hW2]; simp
  rw [← hW2]
  have hba : Below W2.heap.size W2 (W2.alloc (.cells #[.int .i64 0, .int .i64 0] 3)) := Below.alloc (Below.refl _ _) (Nat.le_refl _) _
  have s5 := ints_two W2 0 0 3
  rw [hz, ← hu] at s5
  have hlt := h.blk.lt
  have hsz : W2.heap.size ≤ (W2.alloc (.cells #[.int .i64 0, .int .i64 0] 3)).heap.size := hba.size
  have hall : Below (w1.heap.size + 1 + 1 + 1 + 1 + 1) W (W2.alloc (.cells #[.int .i64 0, .int .i64 0] 3)) := hb.alloc (by omega) _
  have hc := h.ch.keep (G := (· < (W2.alloc (.cells #[.int .i64 0, .int .i64 0] 3)).heap.size)) (Same.below hall fun b hb => hb) fun b hb => Nat.lt_of_lt_of_le (Nat.lt_trans hb hlt) (by omega)
  exact ⟨h.bel.trans (hall.mono (by omega)), ⟨hc.mdl, s5, hc.ord⟩⟩
set_option maxRecDepth 100000 in
set_option maxHeartbeats 2000000 in
theorem law44_awake (w : World) (hg : GlobN w) : Calls Tryz.prog 8 #[] w fun e w' => e = .returned (.bool true) ∧ Below w.heap.size w w' := by
  have k1 : Calls Tryz.prog 26 #[.string ⟨#[48, 58, 56, 32, 49, 58, 52, 32, 52, 58, 52]⟩] w fun e W' => ∃ A c, e = .returned (.tuple #[.slice A 3 c, .int .i64 0]) ∧ Sl 3 elOtc W' (· < W'.heap.size) (.slice A 3 c) exmM1d ∧ Below w.heap.size w W' := by
    refine (ch_Parse (S exmM1) w hg (by decide)).mono ?_
    rintro e W' ⟨v, rfl, hs, hb⟩
    rw [S_data, exmM1_parse] at hs ⊢
    obtain ⟨A, c, rfl, _⟩ := hs.shape
    exact ⟨A, c, rfl, hs.keep elOtc_good (Same.refl _ _) fun _ h => h.2, hb⟩
  have k2 : ∀ (w1 W : World), AwI w1 W → Calls Tryz.prog 14 #[.agg #[.slice (some ⟨w1.heap.size, 0, none⟩) 2 2, .slice (some ⟨w1.heap.size + 1, 0, none⟩) 1 1, .slice (some ⟨w1.heap.size + 1 + 1 + 1, 0, none⟩) 1 1, .int .i64 6, .int .i64 0, .int .i64 2, .slice (some ⟨w1.heap.size + 1 + 1 + 1 + 1, 0, none⟩) 2 2]] W fun e W' => e = .returned (.tuple #[.agg #[.int .i64 0, .int .i64 2, .int .i64 0, .int .i64 1, .int .i64 2], .int .i64 0]) ∧ Below W.heap.size W W' := fun w1 W h => by
    have := ch44_Start ch1 _ _ _ _ W h.in
    rw [ch1_start] at this
    exact this
  have k3 : ∀ (w1 W : World), AwI w1 W → Calls Tryz.prog 10 #[.agg #[.slice (some ⟨w1.heap.size, 0, none⟩) 2 2, .slice (some ⟨w1.heap.size + 1, 0, none⟩) 1 1, .slice (some ⟨w1.heap.size + 1 + 1 + 1, 0, none⟩) 1 1, .int .i64 6, .int .i64 0, .int .i64 2, .slice (some ⟨w1.heap.size + 1 + 1 + 1 + 1, 0, none⟩) 2 2], .agg #[.int .i64 0, .int .i64 2, .int .i64 0, .int .i64 1, .int .i64 2]] W fun e W' => e = .returned (.tuple #[.int .i64 4, .int .i64 0]) ∧ Below W.heap.size W W' := fun w1 W h => by
    have := ch44_Value ch1 ⟨0, 2, 0, 1, 2⟩ _ _ _ _ W h.in
    rw [ch1_value] at this
    exact this
  have k4 : ∀ (w1 W : World) (g : Nat), ChAt W (· < W.heap.size) (.slice (some ⟨w1.heap.size, 0, none⟩) 2 2) (.slice (some ⟨w1.heap.size + 1, 0, none⟩) 1 1) (.slice (some ⟨g, 0, none⟩) 2 2) (.slice (some ⟨w1.heap.size + 1 + 1 + 1 + 1, 0, none⟩) 2 2) ch2 → Calls Tryz.prog 10 #[.agg #[.slice (some ⟨w1.heap.size, 0, none⟩) 2 2, .slice (some ⟨w1.heap.size + 1, 0, none⟩) 1 1, .slice (some ⟨g, 0, none⟩) 2 2, .int .i64 6, .int .i64 0, .int .i64 2, .slice (some ⟨w1.heap.size + 1 + 1 + 1 + 1, 0, none⟩) 2 2], .agg #[.int .i64 0, .int .i64 2, .int .i64 0, .int .i64 1, .int .i64 2]] W fun e W' => e = .returned (.tuple #[.int .i64 128, .int .i64 0]) ∧ Below W.heap.size W W' := fun w1 W g h => by
    have := ch44_Value ch2 ⟨0, 2, 0, 1, 2⟩ _ _ _ _ W h
    rw [ch2_value] at this
    exact this
  have K4 := Lib.hid k4
  have K1 := Lib.hid k1
  have K2 := Lib.hid k2
  have K3 := Lib.hid k3
  have tok0 : True := trivial
  clear k1 k2 k3 k4
  go_enter Tryz.func8, Tryz.ntmps8
  go_wp2_with (first
    | (clear tok0; go_at_call 26; refine K1.out.mono ?_; rintro e w1 ⟨A1, c1, rfl, hs1, hb1⟩; have HA1 := Lib.hid (aw_start w1 A1 c1 hs1); have HB1 := Lib.hid hb1; clear hs1 hb1; have tok1 : True := trivial)
    | (clear tok1; go_at_call 14; refine (K2.out w1 _ HA1.out).mono ?_; rintro e w2 ⟨rfl, hb2⟩; have HA2 := Lib.hid ((HA1.out.below hb2).below (Below.alloc (Below.refl _ _) (Nat.le_refl _) (.cells #[.int .i64 0, .int .i64 2, .int .i64 0, .int .i64 1, .int .i64 2] 30))); have HA2' := HA1.out.below hb2; have x0 := HA2'.cells 0 _ rfl; have x1 := HA2'.cells 1 _ rfl; have x2 := HA2'.cells 2 _ rfl; have x3 := HA2'.cells 3 _ rfl; have x4 := HA2'.cells 4 _ rfl; have x5 := HA2'.cells 5 _ rfl; have x6 := HA2'.cells 6 _ rfl; have hlt2 := HA2'.blk.lt; clear HA2' hb2; have HST := Lib.hid (Blk.new w2 30 #[.int .i64 0, .int .i64 2, .int .i64 0, .int .i64 1, .int .i64 2]); have tok2 : True := trivial)
    | (clear tok2; go_at_call 10; refine (K3.out w1 _ HA2.out).mono ?_; rintro e w3 ⟨rfl, hb3⟩; have hn1 : ¬ (w1.heap.size + 1 + 1 + 1 + 1 + 1 = w2.heap.size) := Nat.ne_of_lt hlt2; have hn2 : ¬ (w2.heap.size = w1.heap.size + 1 + 1 + 1 + 1 + 1) := fun e => hn1 e.symm; have HA3 := Lib.hid (HA2.out.below hb3); have HS3 := Lib.hid (HST.out.below hb3 HST.out.lt); clear x0 x1 x2 x3 x4 x5 x6 hlt2; have x0 := HA3.out.cells 0 _ rfl; have x1 := HA3.out.cells 1 _ rfl; have x2 := HA3.out.cells 2 _ rfl; have x3 := HA3.out.cells 3 _ rfl; have x4 := HA3.out.cells 4 _ rfl; have x5 := HA3.out.cells 5 _ rfl; have x6 := HA3.out.cells 6 _ rfl; have hlt3 := HA3.out.blk.lt; have hfr := HA3.out.blk.frozen 2; have y0 := HS3.out.cell 0; have y1 := HS3.out.cell 1; have y2 := HS3.out.cell 2; have y3 := HS3.out.cell 3; have y4 := HS3.out.cell 4; have hl3 := HS3.out.lt; simp only [List.getElem?_toArray, List.getElem?_cons_zero, List.getElem?_cons_succ] at y0 y1 y2 y3 y4; clear hb3; have tok3 : True := trivial)
    | (clear tok3; go_at_call 10; refine (K4.out w1 _ _ (aw_second HA3.out _ rfl).2).mono ?_; rintro e w4 ⟨rfl, hb4⟩; have HS4 := Lib.hid ((((HS3.out.far (p := ⟨w1.heap.size + 1 + 1 + 1 + 1 + 1, 2, none⟩) hn2 _).alloc _).below hb4 (by simp; omega)) : Blk w4 w2.heap.size 30 #[.int .i64 0, .int .i64 2, .int .i64 0, .int .i64 1, .int .i64 2]); have HB4 := Lib.hid (HB1.out.trans ((aw_second HA3.out _ rfl).1.trans (hb4.mono (aw_second HA3.out _ rfl).1.size) |>.mono HB1.out.size)); clear y0 y1 y2 y3 y4; have y0 := HS4.out.cell 0; have y1 := HS4.out.cell 1; have y2 := HS4.out.cell 2; have y3 := HS4.out.cell 3; have y4 := HS4.out.cell 4; simp only [List.getElem?_toArray, List.getElem?_cons_zero, List.getElem?_cons_succ] at y0 y1 y2 y3 y4; clear hb4; have tok4 : True := trivial))
  go_ret
  exact ⟨rfl, HB4.out⟩
end Go.Proofs.YtcbkpjiaipabbaaGreatDoor

namespace Go.Proofs.YtcbkpjiaipabbaaGreatDoor
open Go.RowKit

set_option maxRecDepth 100000 in
set_option maxHeartbeats 4000000 in
theorem law_ChaseNeeds (c : Chs) (bv wv pv ov : Value) (s : Cst) (less : Nat) (hless : less < 256) (w : World) (hg : GlobN w) (h : ChAt w (· < w.heap.size) bv wv pv ov c) :
    Calls Tryz.prog 4 #[chV c bv wv pv ov, stV s, .int .u8 (less : Int)] w fun e w' => e = .returned (.bool true) ∧ Below w.heap.size w w' := by
  unfold chV stV
  obtain ⟨ball, need, str, par, nxt⟩ := s
  obtain ⟨A, ca, rfl, hc1, hc2⟩ := h.mdl.bat.shape
  obtain ⟨A1, ca1, rfl, hc3, hc4⟩ := h.mdl.bow.shape
  obtain ⟨A2, ca2, rfl, hc5, hc6⟩ := h.bow.shape
  obtain ⟨A3, ca3, rfl, hc7, hc8⟩ := h.ord.shape
  have hx := CSB.new w c (.slice A c.mdl.bats.length ca) (.slice A1 c.mdl.bows.length ca1) (.slice A2 c.bows.length ca2) (.slice A3 c.ord.length ca3) ⟨ball, need, str, par, nxt⟩
  have HX0 := Lib.hid hx
  have HM := Lib.hid h
  have k1 := fun W (hW : Below w.heap.size w W) => law44_awake W (hg.below hW)
  have k2 := fun W (hW : Below w.heap.size w W) => law44_Small c _ _ _ _ W (HM.out.below hW)
  have k3 := fun W (hW : Below w.heap.size w W) => ch44_CheckState c ⟨ball, need, str, par, nxt⟩ _ _ _ _ W (HM.out.below hW)
  have k4 := fun W (hW : Below w.heap.size w W) => ch44_Value c ⟨ball, need, str, par, nxt⟩ _ _ _ _ W (HM.out.below hW)
  have hok := fun h => chst_ok (c := c) (s := ⟨ball, need, str, par, nxt⟩) h
  obtain ⟨u, hu⟩ : ∃ x, x = chstC c ⟨ball, need, str, par, nxt⟩ := ⟨_, rfl⟩
  rw [← hu] at k3 hok
  unfold chV stV at k3 k4
  unfold chV at k2
  dsimp only at k3 k4
  have K1 := Lib.hid k1
  have K3 := Lib.hid k3
  have tok0 : True := trivial
  clear k1 k3 hx h hg
  cases hs : smallC c
  · rw [hs] at k2
    have K2 := Lib.hid k2
    clear k2 hs k4 hok hu HM
    go_enter Tryz.func4, Tryz.ntmps4
    go_wp2_with (first
      | (clear tok0; go_at_call 8; refine (K1.out _ HX0.out.bel).mono ?_; rintro e w1 ⟨rfl, hb⟩; have HX1 := Lib.hid (HX0.out.below hb); obtain ⟨x0, x1, x2, x3, x4, x5, x6, y0, y1, y2, y3, y4⟩ := HX1.out.cells; dsimp only at y0 y1 y2 y3 y4; clear hb; have tok1 : True := trivial)
      | (clear tok1; go_at_call 9; refine (K2.out _ HX1.out.bel).mono ?_; rintro e w2 ⟨rfl, hb⟩; have HX2 := Lib.hid (HX1.out.below hb); obtain ⟨x0, x1, x2, x3, x4, x5, x6, y0, y1, y2, y3, y4⟩ := HX2.out.cells; dsimp only at y0 y1 y2 y3 y4; clear hb; have tok2 : True := trivial))
    go_ret
    exact ⟨rfl, HX2.out.bel⟩
  · rw [hs] at k2
    have K2 := Lib.hid k2
    by_cases h0 : u = 0
    · have eu : (u != 0) = false := by simp [h0]
      obtain ⟨hc0, hc, hso⟩ := hok h0
      have b1 := hso.ball
      have b2 := hso.need
      have b3 := hc.need
      dsimp only at b1 b2
      obtain ⟨m, hm⟩ : ∃ m, max 0 (need - (less : Int)) = m := ⟨_, rfl⟩
      have hm2 : 0 ≤ m ∧ m ≤ need := by omega
      have hst : OkS c ⟨ball, m, str, par, nxt⟩ := ⟨hso.ball, by dsimp only; omega, hso.nxt, hso.str, hso.par, hso.ne, hso.last⟩
      have hv1 : valueC c ⟨ball, need, str, par, nxt⟩ = (valS c ⟨ball, need, str, par, nxt⟩, 0) := by unfold valueC; rw [← hu, if_neg (by omega)]
      have hv2 : valueC c ⟨ball, m, str, par, nxt⟩ = (valS c ⟨ball, m, str, par, nxt⟩, 0) := by unfold valueC; rw [if_neg (fun k => k (chst_of hc0 hst))]
      have hle := valS_need (c := c) hc hso hst rfl rfl rfl rfl (by dsimp only; omega)
      have k5 := fun W (hW : Below w.heap.size w W) => ch44_Value c ⟨ball, m, str, par, nxt⟩ _ _ _ _ W (HM.out.below hW)
      rw [hv1] at k4
      rw [hv2] at k5
      unfold chV stV at k5
      dsimp only at k4 k5
      obtain ⟨a, ha⟩ : ∃ x, x = valS c ⟨ball, need, str, par, nxt⟩ := ⟨_, rfl⟩
      obtain ⟨b, hb⟩ : ∃ x, x = valS c ⟨ball, m, str, par, nxt⟩ := ⟨_, rfl⟩
      rw [← ha] at k4 hle
      rw [← hb] at k5 hle
      have K4 := Lib.hid k4
      have K5 := Lib.hid k5
      obtain ⟨q1, q2⟩ := b2
      obtain ⟨q3, q4⟩ := b3
      clear k2 hs k4 k5 hok hu HM h0 hc0 hc hso b1 hst hv1 hv2 ha hb hm2
      go_enter Tryz.func4, Tryz.ntmps4
      go_wp2_with (first
        | (clear tok0; go_at_call 8; refine (K1.out _ HX0.out.bel).mono ?_; rintro e w1 ⟨rfl, hb⟩; have HX1 := Lib.hid (HX0.out.below hb); obtain ⟨x0, x1, x2, x3, x4, x5, x6, y0, y1, y2, y3, y4⟩ := HX1.out.cells; dsimp only at y0 y1 y2 y3 y4; clear hb; have tok1 : True := trivial)
        | (clear tok1; go_at_call 9; refine (K2.out _ HX1.out.bel).mono ?_; rintro e w2 ⟨rfl, hb⟩; have HX2 := Lib.hid (HX1.out.below hb); obtain ⟨x0, x1, x2, x3, x4, x5, x6, y0, y1, y2, y3, y4⟩ := HX2.out.cells; dsimp only at y0 y1 y2 y3 y4; clear hb; have tok2 : True := trivial)
        | (clear tok2; go_at_call 12; refine (K3.out _ HX2.out.bel).mono ?_; rintro e w3 ⟨rfl, hb⟩; have HX3 := Lib.hid (HX2.out.below hb); obtain ⟨x0, x1, x2, x3, x4, x5, x6, y0, y1, y2, y3, y4⟩ := HX3.out.cells; dsimp only at y0 y1 y2 y3 y4; have hl3 := HX3.out.st.lt; have hl3b := HX3.out.box.lt; clear hb; have tok3 : True := trivial)
        | (clear tok3; go_at_call 10; refine (K4.out _ (HX3.out.bel.alloc HX3.out.bel.size (.cells #[.int .i64 ball, .int .i64 m, .int .i64 str, .int .i64 par, .int .i64 nxt] 30))).mono ?_; rintro e w4 ⟨rfl, hb⟩; have HT4 := Lib.hid ((Blk.new w3 30 #[.int .i64 ball, .int .i64 m, .int .i64 str, .int .i64 par, .int .i64 nxt]).below hb (by simp)); have HX4 := Lib.hid ((HX3.out.below (Below.alloc (Below.refl _ _) (Nat.le_refl _) (.cells #[.int .i64 ball, .int .i64 m, .int .i64 str, .int .i64 par, .int .i64 nxt] 30))).below hb); obtain ⟨x0, x1, x2, x3, x4, x5, x6, y0, y1, y2, y3, y4⟩ := HX4.out.cells; dsimp only at y0 y1 y2 y3 y4; have z0 := HT4.out.cell 0; have z1 := HT4.out.cell 1; have z2 := HT4.out.cell 2; have z3 := HT4.out.cell 3; have z4 := HT4.out.cell 4; simp only [List.getElem?_toArray, List.getElem?_cons_zero, List.getElem?_cons_succ] at z0 z1 z2 z3 z4; clear hb; have tok4 : True := trivial)
        | (clear tok4; go_at_call 10; refine (K5.out _ HX4.out.bel).mono ?_; rintro e w5 ⟨rfl, hb⟩; have HX5 := Lib.hid (HX4.out.below hb); clear hb; have tok5 : True := trivial))
      go_ret
      exact ⟨rfl, HX5.out.bel⟩
    · have eu : (u != 0) = true := by simp [h0]
      clear k2 hs k4 hok hu HM h0
      go_enter Tryz.func4, Tryz.ntmps4
      go_wp2_with (first
        | (clear tok0; go_at_call 8; refine (K1.out _ HX0.out.bel).mono ?_; rintro e w1 ⟨rfl, hb⟩; have HX1 := Lib.hid (HX0.out.below hb); obtain ⟨x0, x1, x2, x3, x4, x5, x6, y0, y1, y2, y3, y4⟩ := HX1.out.cells; dsimp only at y0 y1 y2 y3 y4; clear hb; have tok1 : True := trivial)
        | (clear tok1; go_at_call 9; refine (K2.out _ HX1.out.bel).mono ?_; rintro e w2 ⟨rfl, hb⟩; have HX2 := Lib.hid (HX1.out.below hb); obtain ⟨x0, x1, x2, x3, x4, x5, x6, y0, y1, y2, y3, y4⟩ := HX2.out.cells; dsimp only at y0 y1 y2 y3 y4; clear hb; have tok2 : True := trivial)
        | (clear tok2; go_at_call 12; refine (K3.out _ HX2.out.bel).mono ?_; rintro e w3 ⟨rfl, hb⟩; have HX3 := Lib.hid (HX2.out.below hb); obtain ⟨x0, x1, x2, x3, x4, x5, x6, y0, y1, y2, y3, y4⟩ := HX3.out.cells; dsimp only at y0 y1 y2 y3 y4; have hl3 := HX3.out.st.lt; have hl3b := HX3.out.box.lt; clear hb; have tok3 : True := trivial))
      go_ret
      exact ⟨rfl, HX3.out.bel⟩
end Go.Proofs.YtcbkpjiaipabbaaGreatDoor

namespace Go.Proofs.YtcbkpjiaipabbaaGreatDoor
open Go.ChangeShapes Go.WideShapes Go.ChangeAt Go.RowKit

theorem cellsBat : Tryz.prog.cellsOf 53 = 2 := by kernel_rfl
theorem cellsBow : Tryz.prog.cellsOf 55 = 2 := by kernel_rfl
theorem cellsMdl : Tryz.prog.cellsOf 25 = 2 := by kernel_rfl
theorem cellsOtcs : Tryz.prog.cellsOf 41 = 1 := by kernel_rfl
theorem cellsBats : Tryz.prog.cellsOf 22 = 1 := by kernel_rfl
theorem cellsBows : Tryz.prog.cellsOf 23 = 1 := by kernel_rfl
section
variable {H : Type} {enc : TypeId × Value → H} {W : World}
instance : Inhabited Bat := ⟨⟨[], []⟩⟩
instance : Inhabited Bow := ⟨⟨[], 0⟩⟩
set_option maxRecDepth 100000 in
theorem bat_one {fuel : Nat} {held : Bool} {cs : List Value} {x : DataW H × List MemPlace} (h : DataW.trod enc Tryz.prog W 0 (fun _ => true) held fuel 53 cs = some x) :
    ∃ f : Bat, elBat W (· < W.heap.size) cs f := by
  obtain ⟨ys, n, _, rfl, hc, hl, hf⟩ := DataW.trod_struct Tryz.underlying53 h
  rw [cellsBat] at hc
  match cs, hc with
  | [u0, u1], _ =>
    match ys, hl with
    | [z0, z1], _ =>
      have k0 := hf 0 _ rfl
      have k1 := hf 1 _ rfl
      obtain ⟨s, e0, _, hs⟩ := DataW.trod_string Tryz.underlying9 k0
      obtain ⟨v, l, e1, hsl⟩ := sl_raw (size := 3) (el := elOtc) Tryz.underlying41 cellsOtc (by decide) (fun h => otc_one h) k1
      have g0 : u0 = .string s := by simpa [Value.cells, cellsStr, cellsOtcs] using e0
      have g1 : u1 = v := by simpa [Value.cells, cellsStr, cellsOtcs] using e1
      subst g0 g1
      exact ⟨⟨s.data.toList, l⟩, ⟨_, by rw [S_of], hsl⟩, by simpa using hs⟩
set_option maxRecDepth 100000 in
theorem bow_one {F : Nat → Prop} {fuel : Nat} {held : Bool} {cs : List Value} {x : DataW H × List MemPlace} (h : DataW.trod enc Tryz.prog W 0 (fun _ => true) held fuel 55 cs = some x) :
    ∃ f : Bow, elBow W F cs f := by
  obtain ⟨ys, n, _, rfl, hc, hl, hf⟩ := DataW.trod_struct Tryz.underlying55 h
  rw [cellsBow] at hc
  match cs, hc with
  | [u0, u1], _ =>
    match ys, hl with
    | [z0, z1], _ =>
      have k0 := hf 0 _ rfl
      have k1 := hf 1 _ rfl
      obtain ⟨s, e0, _, hs⟩ := DataW.trod_string Tryz.underlying9 k0
      obtain ⟨a1, e1, _, _⟩ := DataW.trod_int Tryz.underlying3 k1
      have g0 : u0 = .string s := by simpa [Value.cells, cellsStr, cellsI'] using e0
      have g1 : u1 = .int .i64 a1 := by simpa [Value.cells, cellsStr, cellsI'] using e1
      subst g0 g1
      exact ⟨⟨s.data.toList, a1⟩, by rw [S_of], by simpa using hs⟩
set_option maxRecDepth 100000 in
/-- A model that came in. -/
theorem open_model {r : Reach} {b0 : Nat} {v : Value} {d : DataW H} {p : List MemPlace} (hv : Value.okWide Tryz.prog W r b0 25 v) (h : DataW.Trod enc Tryz.prog W 0 (fun _ => true) true 25 v d p) :
    ∃ (m : Mdl) (bv wv : Value), v = mdlV bv wv ∧ MdlAt W (· < W.heap.size) bv wv m := by
  obtain ⟨cs, rfl, hsz⟩ := okWide_struct Tryz.underlying25 hv
  obtain ⟨fuel, hf⟩ := h
  obtain ⟨l⟩ := cs
  match l, hsz.trans cellsMdl with
  | [c0, c1], _ =>
    obtain ⟨ys, n, _, _, _, hl, hf⟩ := DataW.trod_struct Tryz.underlying25 hf
    match ys, hl with
    | [z0, z1], _ =>
      have k0 := hf 0 _ rfl
      have k1 := hf 1 _ rfl
      obtain ⟨vb, lb, e0, hb⟩ := sl_raw (size := 2) (el := elBat) Tryz.underlying22 cellsBat (by decide) (fun h => bat_one h) k0
      obtain ⟨vw, lw, e1, hw⟩ := sl_raw (size := 2) (el := elBow) Tryz.underlying23 cellsBow (by decide) (fun h => bow_one h) k1
      have g0 : c0 = vb := by simpa [Value.cells, cellsBats, cellsBows] using e0
      have g1 : c1 = vw := by simpa [Value.cells, cellsBats, cellsBows] using e1
      subst g0 g1
      exact ⟨⟨lb, lw⟩, _, _, rfl, hb, hw⟩
end
end Go.Proofs.YtcbkpjiaipabbaaGreatDoor

namespace Go.Proofs.YtcbkpjiaipabbaaGreatDoor
open Go.ChangeShapes Go.WideShapes Go.ChangeAt Go.RowKit

theorem cellsCha : Tryz.prog.cellsOf 28 = 7 := by kernel_rfl
theorem cellsCst : Tryz.prog.cellsOf 30 = 5 := by kernel_rfl
theorem cellsIs : Tryz.prog.cellsOf 26 = 1 := by kernel_rfl
section
variable {H : Type} {enc : TypeId × Value → H} {W : World}
set_option maxRecDepth 100000 in
theorem int_one8 {F : Nat → Prop} {fuel : Nat} {held : Bool} {cs : List Value} {x : DataW H × List MemPlace} (h : DataW.trod enc Tryz.prog W 0 (fun _ => true) held fuel 3 cs = some x) :
    ∃ f : Int, elInt W F cs f := by
  obtain ⟨a, e, _, _⟩ := DataW.trod_int Tryz.underlying3 h
  exact ⟨a, e⟩
set_option maxRecDepth 100000 in
theorem mdl_raw {fuel : Nat} {held : Bool} {cs : List Value} {x : DataW H × List MemPlace} (h : DataW.trod enc Tryz.prog W 0 (fun _ => true) held fuel 25 cs = some x) :
    ∃ (m : Mdl) (bv wv : Value), cs = [bv, wv] ∧ MdlAt W (· < W.heap.size) bv wv m := by
  obtain ⟨ys, n, _, rfl, hc, hl, hf⟩ := DataW.trod_struct Tryz.underlying25 h
  rw [cellsMdl] at hc
  match cs, hc with
  | [c0, c1], _ =>
    match ys, hl with
    | [z0, z1], _ =>
      have k0 := hf 0 _ rfl
      have k1 := hf 1 _ rfl
      obtain ⟨vb, lb, e0, hb⟩ := sl_raw (size := 2) (el := elBat) Tryz.underlying22 cellsBat (by decide) (fun h => bat_one h) k0
      obtain ⟨vw, lw, e1, hw⟩ := sl_raw (size := 2) (el := elBow) Tryz.underlying23 cellsBow (by decide) (fun h => bow_one h) k1
      have g0 : c0 = vb := by simpa [Value.cells, cellsBats, cellsBows] using e0
      have g1 : c1 = vw := by simpa [Value.cells, cellsBats, cellsBows] using e1
      subst g0 g1
      exact ⟨⟨lb, lw⟩, _, _, rfl, hb, hw⟩
set_option maxRecDepth 100000 in
/-- A chase that came in. -/
theorem open_chase {r : Reach} {b0 : Nat} {v : Value} {d : DataW H} {p : List MemPlace} (hv : Value.okWide Tryz.prog W r b0 28 v) (h : DataW.Trod enc Tryz.prog W 0 (fun _ => true) true 28 v d p) :
    ∃ (c : Chs) (bv wv pv ov : Value), v = chV c bv wv pv ov ∧ ChAt W (· < W.heap.size) bv wv pv ov c := by
  obtain ⟨cs, rfl, hsz⟩ := okWide_struct Tryz.underlying28 hv
  obtain ⟨fuel, hf⟩ := h
  obtain ⟨l⟩ := cs
  match l, hsz.trans cellsCha with
  | [c0, c1, c2, c3, c4, c5, c6], _ =>
    obtain ⟨ys, n, _, _, _, hl, hf⟩ := DataW.trod_struct Tryz.underlying28 hf
    match ys, hl with
    | [z0, z1, z2, z3, z4, z5], _ =>
      have k0 := hf 0 _ rfl
      have k1 := hf 1 _ rfl
      have k2 := hf 2 _ rfl
      have k3 := hf 3 _ rfl
      have k4 := hf 4 _ rfl
      have k5 := hf 5 _ rfl
      obtain ⟨m, bv, wv, e0, hm⟩ := mdl_raw k0
      obtain ⟨pv, lp, e1, hp⟩ := sl_raw (size := 1) (el := elInt) Tryz.underlying26 cellsI' (by decide) (fun h => int_one8 h) k1
      obtain ⟨a2, e2, _, _⟩ := DataW.trod_int Tryz.underlying3 k2
      obtain ⟨a3, e3, _, _⟩ := DataW.trod_int Tryz.underlying3 k3
      obtain ⟨a4, e4, _, _⟩ := DataW.trod_int Tryz.underlying3 k4
      obtain ⟨ov, lo, e5, ho⟩ := sl_raw (size := 1) (el := elInt) Tryz.underlying26 cellsI' (by decide) (fun h => int_one8 h) k5
      have g0 : c0 = bv ∧ c1 = wv := by simpa [Value.cells, cellsMdl, cellsI', cellsIs] using e0
      have g2 : c2 = pv := by simpa [Value.cells, cellsMdl, cellsI', cellsIs] using e1
      have g3 : c3 = .int .i64 a2 := by simpa [Value.cells, cellsMdl, cellsI', cellsIs] using e2
      have g4 : c4 = .int .i64 a3 := by simpa [Value.cells, cellsMdl, cellsI', cellsIs] using e3
      have g5 : c5 = .int .i64 a4 := by simpa [Value.cells, cellsMdl, cellsI', cellsIs] using e4
      have g6 : c6 = ov := by simpa [Value.cells, cellsMdl, cellsI', cellsIs] using e5
      obtain ⟨g0, g1⟩ := g0
      subst g0 g1 g2 g3 g4 g5 g6
      exact ⟨⟨m, lp, a2, a3, a4, lo⟩, _, _, _, _, rfl, ⟨hm, hp, ho⟩⟩
set_option maxRecDepth 100000 in
/-- A state that came in. -/
theorem open_state {r : Reach} {b0 : Nat} {v : Value} {d : DataW H} {p : List MemPlace} (hv : Value.okWide Tryz.prog W r b0 30 v) (h : DataW.Trod enc Tryz.prog W 0 (fun _ => true) true 30 v d p) :
    ∃ s : Cst, v = stV s := by
  obtain ⟨cs, rfl, hsz⟩ := okWide_struct Tryz.underlying30 hv
  obtain ⟨fuel, hf⟩ := h
  obtain ⟨l⟩ := cs
  match l, hsz.trans cellsCst with
  | [c0, c1, c2, c3, c4], _ =>
    obtain ⟨ys, n, _, _, _, hl, hf⟩ := DataW.trod_struct Tryz.underlying30 hf
    match ys, hl with
    | [z0, z1, z2, z3, z4], _ =>
      obtain ⟨a0, e0, _, _⟩ := DataW.trod_int Tryz.underlying3 (hf 0 _ rfl)
      obtain ⟨a1, e1, _, _⟩ := DataW.trod_int Tryz.underlying3 (hf 1 _ rfl)
      obtain ⟨a2, e2, _, _⟩ := DataW.trod_int Tryz.underlying3 (hf 2 _ rfl)
      obtain ⟨a3, e3, _, _⟩ := DataW.trod_int Tryz.underlying3 (hf 3 _ rfl)
      obtain ⟨a4, e4, _, _⟩ := DataW.trod_int Tryz.underlying3 (hf 4 _ rfl)
      have g0 : c0 = .int .i64 a0 := by simpa [Value.cells, cellsI'] using e0
      have g1 : c1 = .int .i64 a1 := by simpa [Value.cells, cellsI'] using e1
      have g2 : c2 = .int .i64 a2 := by simpa [Value.cells, cellsI'] using e2
      have g3 : c3 = .int .i64 a3 := by simpa [Value.cells, cellsI'] using e3
      have g4 : c4 = .int .i64 a4 := by simpa [Value.cells, cellsI'] using e4
      subst g0 g1 g2 g3 g4
      exact ⟨⟨a0, a1, a2, a3, a4⟩, rfl⟩
end
end Go.Proofs.YtcbkpjiaipabbaaGreatDoor

namespace Go.Proofs.YtcbkpjiaipabbaaGreatDoor.chaseNeeds
open Go.ChangeShapes Go.WideShapes Go.ChangeAt Go.RowKit
open Go.ChangeMaps (open_string)

set_option maxRecDepth 100000 in
theorem contract (H : Type) (enc : TypeId × Value → H) (W : World) (base : Nat) (args : Array Value) (ds gs : List (DataW H)) (before : List MemPlace)
    (hval : ∀ (j : Nat) t v, Tryz.f4.params[j]? = some t → args[j]? = some v → Value.okWide Tryz.prog W .any base t v)
    (hW : DataW.Whole enc Tryz.prog Tryz.f4.params.toList Rows.chaseNeedsSpec.vars false W args.toList ds gs before) (hsh : W.ShapedOpen Tryz.prog) (hL : laidMet Tryz.prog laidAll W) :
    Calls Tryz.prog 4 args W fun e W' => ∃ v, e = .returned v ∧ Rows.chaseNeedsSpec.post enc Tryz.prog Tryz.f4 false true false false W args v W' := by
  have hW' := hW
  obtain ⟨p, q, hA0, hV, rfl, hfz, hnd⟩ := hW
  have hA : DataW.TrodAll enc Tryz.prog W 0 (fun _ => true) true Tryz.f4.params.toList args.toList ds p := hA0
  rw [Tryz.params4] at hA hval
  obtain ⟨v0, vs0, d0, ds0, p0, q0, hargs, rfl, rfl, h0, r0⟩ := trodAll_cons hA
  obtain ⟨v1, vs1, d1, ds1, p1, q1, rfl, rfl, rfl, h1, r1⟩ := trodAll_cons r0
  obtain ⟨v2, vs2, d2, ds2, p2, q2, rfl, rfl, rfl, h2, r2⟩ := trodAll_cons r1
  obtain ⟨rfl, rfl, rfl⟩ := trodAll_nil r2
  obtain rfl : args = #[v0, v1, v2] := by cases args; simp_all
  obtain ⟨rfl, rfl⟩ := trodVars_none hV
  clear hA0
  simp only [List.append_nil] at hW'
  have hlt := fun x hx => hW'.lt x hx
  have h0k := h0
  have h1k := h1
  have h2k := h2
  obtain ⟨q0, bv0, wv0, pv0, ov0, rfl, hl0⟩ := open_chase (hval 0 28 v0 rfl rfl) h0
  obtain ⟨s1, rfl⟩ := open_state (hval 1 30 v1 rfl rfl) h1
  obtain ⟨x2, rfl, rfl, rfl, wx2⟩ := open_int Tryz.underlying5 (hval 2 5 v2 rfl rfl) h2
  obtain ⟨k2, rfl⟩ : ∃ k : Nat, x2 = (k : Int) := ⟨x2.toNat, by have := bounds_u8 wx2; omega⟩
  refine (law_ChaseNeeds q0 bv0 wv0 pv0 ov0 s1 k2 (by have := bounds_u8 wx2; omega) W (globN_of hsh hL) hl0).mono fun e W' ⟨he, hb⟩ => ?_
  subst he
  refine ⟨_, rfl, post_of_below hW' (fun _ _ _ => trodAll_cons_mk (shut_bool Tryz.underlying4 _) trodAll_mk0) (fun sp hsp => trodAll_cons_mk (trod_again laidOut (by kernel_rfl) (of_decide_eq_true (by kernel_rfl)) h0k hb (fun x hx => hlt x (by first | (simp [hx]; done) | cases hx)) (fun x hx => hsp x (by first | (simp [hx]; done) | cases hx))) (trodAll_cons_mk (trod_again laidOut (by kernel_rfl) (of_decide_eq_true (by kernel_rfl)) h1k hb (fun x hx => hlt x (by first | (simp [hx]; done) | cases hx)) (fun x hx => hsp x (by first | (simp [hx]; done) | cases hx))) (trodAll_cons_mk (trod_again laidOut (by kernel_rfl) (of_decide_eq_true (by kernel_rfl)) h2k hb (fun x hx => hlt x (by first | (simp [hx]; done) | cases hx)) (fun x hx => hsp x (by first | (simp [hx]; done) | cases hx))) (trodAll_mk0)))) (fun _ _ => rfl) (by simp) hb (ok_one (by kernel_rfl) rfl (okWide_bool_mk Tryz.underlying4 _))⟩

theorem laid_met (os : Os) : laidMet Tryz.prog Rows.chaseNeedsRow.laid ((laidWorld os).forCall (fun _ _ => 0) ⟨#[], #[.agg #[.slice none 0 0, .slice none 0 0, .slice none 0 0, .int .i64 0, .int .i64 0, .int .i64 0, .slice none 0 0], .agg #[.int .i64 0, .int .i64 0, .int .i64 0, .int .i64 0, .int .i64 0], .int .u8 0], []⟩).memory :=
  laidMet_of_run' 8 (by kernel_rfl) (by kernel_rfl)
theorem reads (os : Os) {H : Type} (enc : TypeId × Value → H) : ∃ places, DataW.whole enc Tryz.prog ((laidWorld os).forCall (fun _ _ => 0) ⟨#[], #[.agg #[.slice none 0 0, .slice none 0 0, .slice none 0 0, .int .i64 0, .int .i64 0, .int .i64 0, .slice none 0 0], .agg #[.int .i64 0, .int .i64 0, .int .i64 0, .int .i64 0, .int .i64 0], .int .u8 0], []⟩).memory Tryz.f4.params.toList Rows.chaseNeedsSpec.vars false (#[.agg #[.slice none 0 0, .slice none 0 0, .slice none 0 0, .int .i64 0, .int .i64 0, .int .i64 0, .slice none 0 0], .agg #[.int .i64 0, .int .i64 0, .int .i64 0, .int .i64 0, .int .i64 0], .int .u8 0] : Array Value).toList 8 = some ([.agg [.agg [.nil, .nil], .nil, .lit (.int .i64 0), .lit (.int .i64 0), .lit (.int .i64 0), .nil], .agg [.lit (.int .i64 0), .lit (.int .i64 0), .lit (.int .i64 0), .lit (.int .i64 0), .lit (.int .i64 0)], .lit (.int .u8 0)], [], places) :=
  ⟨[], by kernel_rfl⟩
set_option maxRecDepth 100000 in
theorem lifted (os : Os) (started : os.Started) (H : Type) (enc : TypeId × Value → H) (F : Stop.Interp) :
    ReturnsInHanded {} Tryz.checked os 4 .any ((OpenSpec.ofChange Rows.chaseNeedsSpec).preRow enc Tryz.prog Tryz.f4 Rows.chaseNeedsRow.domain false Rows.chaseNeedsRow.laid) (((OpenSpec.ofChange Rows.chaseNeedsSpec).at F).post enc Tryz.prog Tryz.f4 false true false false) := by
  obtain ⟨places, hx⟩ := reads os enc
  refine returnsInHanded_of_row (C := Tryz.checked) (s := OpenSpec.ofChange Rows.chaseNeedsSpec) own started (by kernel_rfl) Tryz.func4
    (witness_row_at (enc := enc) (C := Tryz.checked) false (laidWorld os) #[.agg #[.slice none 0 0, .slice none 0 0, .slice none 0 0, .int .i64 0, .int .i64 0, .int .i64 0, .slice none 0 0], .agg #[.int .i64 0, .int .i64 0, .int .i64 0, .int .i64 0, .int .i64 0], .int .u8 0] rfl (by kernel_rfl) (by kernel_rfl) (by kernel_rfl)
      (OpenSpec.preRow_of_cond 8 hx (by kernel_rfl) (fun k hk => by cases hk) (by kernel_rfl) (laid_met os))) ?_
  intro W base args ds gs before hval hW _ _ _ hL hsh _
  exact contract H enc W base args ds gs before hval hW hsh hL
theorem said : Rows.ChaseNeedsSaid :=
  OpenClaim.holds_of_cond 4 Tryz.f4 rfl rfl rfl rfl rfl rfl rfl ⟨rfl, rfl, rfl, rfl, rfl⟩ rfl rfl rfl rfl rfl (by kernel_rfl) Tryz.func4 (by kernel_rfl)
    (of_decide_eq_true (by kernel_rfl)) (by unfold Func.isWrapper; first | (rw [if_pos (by decide +kernel)]; kernel_rfl) | (rw [if_neg (by decide +kernel)]; exact ⟨rfl, rfl⟩))
    (fun os started H enc _ F => by rw [OpenClaim.pre_eq_preRow]; exact lifted os started H enc F)
theorem plain (f : FuncId) (fn : Func) (hf : Tryz.pinned.checked.prog.funcNamed Rows.chaseNeedsRow.func = some f) (hfn : Tryz.pinned.checked.prog.funcs[f]? = some fn) :
    true = Tryz.pinned.checked.prog.looks [] ∧ ∀ (j : Nat) t, fn.params[j]? = some t → Tryz.pinned.checked.prog.wantsStandIn t = false := by
  obtain rfl : f = 4 := Option.some.inj ((show Tryz.prog.funcNamed Rows.chaseNeedsRow.func = some 4 by kernel_rfl).symm.trans hf) |>.symm
  obtain rfl : fn = Tryz.f4 := (Option.some.inj (Tryz.func4.symm.trans hfn)).symm
  refine ⟨by kernel_rfl, fun j t ht => ?_⟩
  rw [Tryz.params4] at ht
  have ht' : t ∈ [28, 30, 5] := by simpa using Array.mem_of_getElem? ht
  have key : ∀ t ∈ [28, 30, 5], Tryz.prog.wantsStandIn t = false := by
    intro t h
    simp only [List.mem_cons, List.not_mem_nil, or_false] at h
    rcases h with rfl | rfl | rfl
    all_goals kernel_rfl
  exact key t ht'
theorem card : Rows.ChaseNeedsCardSaid :=
  Claim7.holds_tied_plain_at .later [] _ _ _ _ said (fun _ h => by cases h) (by kernel_rfl) (fun _ h => by cases h) chaseNeeds_row_tie rfl ⟨rfl, rfl⟩ (by kernel_rfl) rfl plain (by kernel_rfl)
end Go.Proofs.YtcbkpjiaipabbaaGreatDoor.chaseNeeds
namespace Go.Proofs.YtcbkpjiaipabbaaGreatDoor
/-- ChaseNeeds holds: the card that is the aim. -/
theorem chaseNeeds_card : Rows.ChaseNeedsCardSaid := chaseNeeds.card
end Go.Proofs.YtcbkpjiaipabbaaGreatDoor

