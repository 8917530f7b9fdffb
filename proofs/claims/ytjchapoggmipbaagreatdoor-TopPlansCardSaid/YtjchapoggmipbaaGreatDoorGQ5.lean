/- Several texts of this family in one: P80 Z1 W10 W11 P81 P82 P93 Z2 Y5 Y6 Y9 Z3 Y4 Z4 Y7 Z7 Z8. -/
import Derived.Test.YtjchapoggmipbaaGreatDoorGP2
import Derived.Laws.BitsAllLaws
import Derived.Laws.IdiomArrays
import Derived.Laws.ShiftsVarLaws
import Derived.Test.YtjchapoggmipbaaGreatDoorGP1
import Derived.DeepKeys5
import Derived.Maps.OwnSet
set_option linter.unusedSimpArgs false
set_option linter.unusedVariables false
namespace Go.Proofs.YtjchapoggmipbaaGreatDoor

def setC (c : Chs) (o : List Int) : Chs := { c with ord := o }
def checkO (c : Chs) : Int :=
  if checkM c.mdl ≠ 0 then checkM c.mdl
  else if 8 < c.bows.length then 9
  else if checkC (setC c []) ≠ 9 then checkC (setC c [])
  else if 6 < c.ord.length then 9
  else checkC c
theorem checkO_ok {c : Chs} (h : checkO c = 0) : checkC c = 0 ∧ OkC c ∧ c.bows.length ≤ 8 ∧ c.ord.length ≤ 6 := by
  unfold checkO at h
  by_cases h1 : checkM c.mdl ≠ 0
  · rw [if_pos h1] at h; exact absurd h h1
  rw [if_neg h1] at h
  by_cases h2 : 8 < c.bows.length
  · rw [if_pos h2] at h; cases h
  rw [if_neg h2] at h
  by_cases h3 : checkC (setC c []) ≠ 9
  · rw [if_pos h3] at h
    exfalso
    unfold checkC at h
    have e4 : (setC c []).ord = [] := rfl
    simp only [e4] at h
    split at h
    · rename_i g; exact g h
    split at h; cases h
    split at h; cases h
    split at h
    · rename_i g; exact g h
    split at h; cases h
    split at h; cases h
    rename_i g; exact g (.inl (by decide))
  rw [if_neg h3] at h
  by_cases h4 : 6 < c.ord.length
  · rw [if_pos h4] at h; cases h
  rw [if_neg h4] at h
  exact ⟨h, checkC_ok h, by omega, by omega⟩
/-- States: the waiting are a set of bits. -/
structure Ost where
  ball : Int
  need : Int
  str : Int
  par : Int
  wait : Int
/-- Bits, as the machine spells them. -/
def shrW (w k : Int) : Int := w / 2 ^ k.toNat
def bitW (w i : Int) : Bool := bits .and .u16 (w / 2 ^ i.toNat) 1 == 1
def clrW (w i : Int) : Int := bits .andNot .u16 w (IntKind.u16.wrap (2 ^ i.toNat))
theorem shrW_nat (n i : Nat) (hi : i ≤ 16) : shrW (n : Int) (i : Int) = ((n / 2 ^ i : Nat) : Int) := by
  unfold shrW
  rw [Int.toNat_natCast]
  push_cast; rfl
theorem bitW_nat (n i : Nat) (hn : n < 65536) (hi : i ≤ 16) : bitW (n : Int) (i : Int) = n.testBit i := by
  have hd : n / 2 ^ i < 65536 := Nat.lt_of_le_of_lt (Nat.div_le_self _ _) hn
  have hs := shrW_nat n i hi
  unfold shrW at hs
  unfold bitW
  rw [hs, show (1 : Int) = ((1 : Nat) : Int) from rfl, u16_and_nat _ _ hd (by decide), nat_mask1, Nat.testBit_eq_decide_div_mod_eq]
  have : ((((n / 2 ^ i % 2 : Nat) : Int) == ((1 : Nat) : Int)) = true) ↔ (decide (n / 2 ^ i % 2 = 1) = true) := by
    rw [beq_iff_eq, decide_eq_true_eq]; omega
  exact Bool.eq_iff_iff.2 this
theorem clrW_nat (n i : Nat) (hn : n < 65536) (hi : i < 16) : clrW (n : Int) (i : Int) = ((n &&& (65535 - 2 ^ i) : Nat) : Int) := by
  have hp : 2 ^ i < 65536 := Nat.pow_lt_pow_right (by decide) hi (n := 16)
  unfold clrW
  have hw : IntKind.u16.wrap (2 ^ (i : Int).toNat) = ((2 ^ i : Nat) : Int) := by
    rw [Int.toNat_natCast, IntKind.wrap_u16]
    have : ((2 : Int) ^ i) = ((2 ^ i : Nat) : Int) := by push_cast; rfl
    rw [this]
    generalize 2 ^ i = q at hp
    omega
  rw [hw, u16_andNot_nat _ _ hn hp]
theorem clr_test (n i j : Nat) (hi : i < 16) : (n &&& (65535 - 2 ^ i)).testBit j = (n.testBit j && decide (j < 16) && decide (j ≠ i)) := by
  have hp : 2 ^ i < 2 ^ 16 := Nat.pow_lt_pow_right (by decide) hi
  rw [Nat.testBit_and, show 65535 - 2 ^ i = 2 ^ 16 - (2 ^ i + 1) by omega, Nat.testBit_two_pow_sub_succ hp, Nat.testBit_two_pow, Bool.and_assoc]
  congr 1; congr 1
  by_cases h : i = j
  · simp [h]
  · have : j ≠ i := fun e => h e.symm
    simp [h, this]
/-- What holds of a set of waiting batters. -/
theorem bits_of (w : Int) (h : 0 ≤ w ∧ w < 65536) : ∃ n : Nat, w = (n : Int) ∧ n < 65536 := ⟨w.toNat, by omega, by omega⟩
theorem clrW_lt {w i : Int} (h : 0 ≤ w ∧ w < 65536) (hi : 0 ≤ i ∧ i < 16) : 0 ≤ clrW w i ∧ clrW w i < 65536 := by
  obtain ⟨n, rfl, hn⟩ := bits_of w h
  obtain ⟨k, rfl⟩ := Int.eq_ofNat_of_zero_le hi.1
  rw [clrW_nat n k hn (by omega)]
  have := Nat.and_le_left (n := n) (m := 65535 - 2 ^ k)
  omega
theorem clrW_bit {w i j : Int} (h : 0 ≤ w ∧ w < 65536) (hi : 0 ≤ i ∧ i < 16) (hj : 0 ≤ j ∧ j < 16) : bitW (clrW w i) j = (bitW w j && decide (j ≠ i)) := by
  obtain ⟨n, rfl, hn⟩ := bits_of w h
  obtain ⟨k, rfl⟩ := Int.eq_ofNat_of_zero_le hi.1
  obtain ⟨m, rfl⟩ := Int.eq_ofNat_of_zero_le hj.1
  have hk : k < 16 := by omega
  have hm : m < 16 := by omega
  rw [clrW_nat n k hn hk, bitW_nat _ m (by have := Nat.and_le_left (n := n) (m := 65535 - 2 ^ k); omega) (by omega), bitW_nat n m hn (by omega), clr_test n k m hk]
  have e : decide ((m : Int) ≠ (k : Int)) = decide (m ≠ k) := decide_eq_decide.2 (by omega)
  rw [e]; simp [hm]
theorem clrW_shr {w i k : Int} (h : 0 ≤ w ∧ w < 65536) (hi : 0 ≤ i ∧ i < 16) (hk : 0 ≤ k ∧ k < 16) (h0 : shrW w k = 0) : shrW (clrW w i) k = 0 := by
  obtain ⟨n, rfl, hn⟩ := bits_of w h
  obtain ⟨a, rfl⟩ := Int.eq_ofNat_of_zero_le hi.1
  obtain ⟨b, rfl⟩ := Int.eq_ofNat_of_zero_le hk.1
  rw [shrW_nat n b (by omega)] at h0
  rw [clrW_nat n a hn (by omega), shrW_nat _ b (by omega)]
  have hp : 0 < 2 ^ b := Nat.two_pow_pos b
  have h1 : n < 2 ^ b := by
    have : n / 2 ^ b = 0 := by omega
    rcases Nat.lt_or_ge n (2 ^ b) with h | h
    · exact h
    · have := Nat.div_pos h hp; omega
  have := Nat.and_le_left (n := n) (m := 65535 - 2 ^ a)
  rw [Nat.div_eq_of_lt (by omega)]; rfl
def vacO (s : Ost) : Bool := decide (s.str < 0) || decide (s.par < 0)
def sendO (s : Ost) (i : Int) : Ost := if s.str < 0 then ⟨s.ball, s.need, i, s.par, clrW s.wait i⟩ else ⟨s.ball, s.need, s.str, i, clrW s.wait i⟩
def stepO (c : Chs) (s : Ost) (o : Otc) : Ost :=
  if swapC c (s.ball + 1) o = true then ⟨s.ball + 1, max (s.need - o.runs) 0, s.par, if o.wick = true then -1 else s.str, s.wait⟩
  else ⟨s.ball + 1, max (s.need - o.runs) 0, if o.wick = true then -1 else s.str, s.par, s.wait⟩
def cstO (s : Ost) : Cst := ⟨s.ball, s.need, s.str, s.par, 0⟩
def mvO (c : Chs) (s : Ost) : List Otc := mvC c (cstO s)
/-- The best of f over the waiting below k. -/
def bestF (f : Int → Int) (w : Int) : Nat → Int
  | 0 => 0
  | k + 1 => if bitW w k = true then max (bestF f w k) (f k) else bestF f w k
def valO (c : Chs) : Nat → Ost → Int
  | 0, s => if s.need = 0 then 1 else 0
  | n + 1, s => if s.need = 0 then pow16 (n + 1) else if vacO s = true then bestF (fun i => sumI ((mvO c (sendO s i)).map fun o => o.wt * valO c n (stepO c (sendO s i) o))) s.wait c.ord.length
    else sumI ((mvO c s).map fun o => o.wt * valO c n (stepO c s o))
def leftO (c : Chs) (s : Ost) : Nat := (c.bows.length - s.ball).toNat
def vO (c : Chs) (s : Ost) : Int := valO c (leftO c s) s
def endO (c : Chs) (s : Ost) : Bool := decide (s.need = 0) || decide (s.ball = c.bows.length)
def outO (c : Chs) (s : Ost) : Bool := !(outC.inC s.ball 0 c.bows.length) || !(outC.inC s.need 0 c.need) || !(outC.inC s.str (-1) (c.ord.length - 1)) || !(outC.inC s.par (-1) (c.ord.length - 1)) || !(shrW s.wait c.ord.length == 0)
def bothO (s : Ost) : Bool := (decide (0 ≤ s.str) && bitW s.wait s.str) || (decide (0 ≤ s.par) && bitW s.wait s.par)
def stateO (c : Chs) (s : Ost) : Int := if outO c s = true then 2 else if s.str = s.par then 1 else if bothO s = true then 7 else 0
def chstO (c : Chs) (s : Ost) : Int := if checkO c ≠ 0 then checkO c else stateO c s
structure OkOs (c : Chs) (s : Ost) : Prop where
  ball : 0 ≤ s.ball ∧ s.ball ≤ c.bows.length
  need : 0 ≤ s.need ∧ s.need ≤ c.need
  str : -1 ≤ s.str ∧ s.str < c.ord.length
  par : -1 ≤ s.par ∧ s.par < c.ord.length
  w16 : 0 ≤ s.wait ∧ s.wait < 65536
  hi : shrW s.wait c.ord.length = 0
  ne : s.str ≠ s.par
  ws : 0 ≤ s.str → bitW s.wait s.str = false
  wp : 0 ≤ s.par → bitW s.wait s.par = false
theorem stateO_ok {c : Chs} {s : Ost} (hw : 0 ≤ s.wait ∧ s.wait < 65536) : stateO c s = 0 ↔ OkOs c s := by
  have ho : outO c s = false ↔ (0 ≤ s.ball ∧ s.ball ≤ c.bows.length) ∧ (0 ≤ s.need ∧ s.need ≤ c.need) ∧ (-1 ≤ s.str ∧ s.str < c.ord.length) ∧ (-1 ≤ s.par ∧ s.par < c.ord.length) ∧ shrW s.wait c.ord.length = 0 := by
    unfold outO outC.inC
    simp only [Bool.or_eq_false_iff, Bool.not_eq_false', Bool.and_eq_true, decide_eq_true_eq, beq_iff_eq]
    omega
  have hb : bothO s = false ↔ (0 ≤ s.str → bitW s.wait s.str = false) ∧ (0 ≤ s.par → bitW s.wait s.par = false) := by
    unfold bothO
    rw [Bool.or_eq_false_iff]
    by_cases h1 : 0 ≤ s.str <;> by_cases h2 : 0 ≤ s.par <;> simp [h1, h2]
  unfold stateO
  constructor
  · intro h
    by_cases h1 : outO c s = true
    · rw [if_pos h1] at h; cases h
    rw [if_neg h1] at h
    by_cases h2 : s.str = s.par
    · rw [if_pos h2] at h; cases h
    rw [if_neg h2] at h
    by_cases h3 : bothO s = true
    · rw [if_pos h3] at h; cases h
    obtain ⟨a1, a2, a3, a4, a5⟩ := ho.1 (by simpa using h1)
    obtain ⟨b1, b2⟩ := hb.1 (by simpa using h3)
    exact ⟨a1, a2, a3, a4, hw, a5, h2, b1, b2⟩
  · intro h
    rw [if_neg (by rw [ho.2 ⟨h.ball, h.need, h.str, h.par, h.hi⟩]; decide), if_neg h.ne, if_neg (by rw [hb.2 ⟨h.ws, h.wp⟩]; decide)]
structure OkT (c : Chs) : Prop where
  chk : checkC c = 0
  ok : OkC c
  nb : c.bows.length ≤ 8
  np : 2 ≤ c.ord.length ∧ c.ord.length ≤ 6
theorem okT_of {c : Chs} (h : checkO c = 0) : OkT c := by
  obtain ⟨h1, h2, h3, h4⟩ := checkO_ok h
  exact ⟨h1, h2, h3, h2.no.1, h4⟩
theorem chstO_ok {c : Chs} {s : Ost} (hw : 0 ≤ s.wait ∧ s.wait < 65536) (h : chstO c s = 0) : checkO c = 0 ∧ OkT c ∧ OkOs c s := by
  unfold chstO at h
  by_cases h4 : checkO c ≠ 0
  · rw [if_pos h4] at h; exact absurd h h4
  rw [if_neg h4] at h
  have h5 : checkO c = 0 := by omega
  exact ⟨h5, okT_of h5, (stateO_ok hw).1 h⟩
theorem chstO_of {c : Chs} {s : Ost} (h1 : checkO c = 0) (h2 : OkOs c s) : chstO c s = 0 := by
  unfold chstO; rw [if_neg (by omega)]; exact (stateO_ok h2.w16).2 h2
theorem sendO_ok {c : Chs} {s : Ost} {i : Int} (ht : OkT c) (h : OkOs c s) (hv : vacO s = true) (hi : 0 ≤ i ∧ i < c.ord.length) (hb : bitW s.wait i = true) :
    OkOs c (sendO s i) ∧ vacO (sendO s i) = false ∧ (sendO s i).ball = s.ball ∧ (sendO s i).need = s.need := by
  have hp := ht.np
  have h1 := clrW_lt h.w16 (i := i) (by omega)
  have h2 := clrW_shr h.w16 (i := i) (k := c.ord.length) (by omega) (by omega) h.hi
  have hbit : ∀ j : Int, 0 ≤ j → j < c.ord.length → (bitW s.wait j = false ∨ j = i) → bitW (clrW s.wait i) j = false := fun j h3 h4 h5 => by
    rw [clrW_bit h.w16 (by omega) (by omega)]
    rcases h5 with h5 | h5
    · rw [h5]; rfl
    · simp [h5]
  have k1 := h.str
  have k2 := h.par
  unfold vacO at hv ⊢
  rw [Bool.or_eq_true, decide_eq_true_eq, decide_eq_true_eq] at hv
  unfold sendO
  by_cases hs : s.str < 0
  · rw [if_pos hs]
    have hne := h.ne
    have hpi : s.par ≠ i := fun e => by
      have := h.wp (by omega)
      rw [e, hb] at this; cases this
    refine ⟨⟨h.ball, h.need, by dsimp only; omega, h.par, h1, h2, fun e => hpi e.symm, fun _ => hbit i (by omega) (by omega) (.inr rfl), fun hp0 => hbit s.par hp0 (by omega) (.inl (h.wp hp0))⟩, ?_, rfl, rfl⟩
    rw [Bool.or_eq_false_iff, decide_eq_false_iff_not, decide_eq_false_iff_not]; dsimp only; omega
  · rw [if_neg hs]
    have hsi : s.str ≠ i := fun e => by
      have := h.ws (by omega)
      rw [e, hb] at this; cases this
    refine ⟨⟨h.ball, h.need, h.str, by dsimp only; omega, h1, h2, hsi, fun hp0 => hbit s.str hp0 (by omega) (.inl (h.ws hp0)), fun _ => hbit i (by omega) (by omega) (.inr rfl)⟩, ?_, rfl, rfl⟩
    rw [Bool.or_eq_false_iff, decide_eq_false_iff_not, decide_eq_false_iff_not]; dsimp only; omega
/-- A state in which both ends are taken and a ball is bowled. -/
theorem mvO_at {c : Chs} {s : Ost} (hc : OkC c) (h : OkOs c s) (h2 : s.ball ≠ c.bows.length) (hv : vacO s = false) : ∃ (i j : Int) (b : Bat) (w : Bow), c.ord[s.str.toNat]? = some i ∧ c.bows[s.ball.toNat]? = some j ∧ 0 ≤ s.str ∧ s.ball < c.bows.length ∧ 0 ≤ i ∧ i < c.mdl.bats.length ∧ 0 ≤ j ∧ j < c.mdl.bows.length ∧ c.mdl.bats[i.toNat]? = some b ∧ c.mdl.bows[j.toNat]? = some w ∧ shiftS b.dist w.shift = (mvO c s, 0) ∧ checkD (mvO c s) = 0 := by
  unfold vacO at hv
  rw [Bool.or_eq_false_iff, decide_eq_false_iff_not, decide_eq_false_iff_not] at hv
  have k1 := h.ball; have k2 := h.str
  have e1 : s.str.toNat < c.ord.length := by omega
  have e2 : s.ball.toNat < c.bows.length := by omega
  have b1 := hc.ord _ (List.getElem_mem e1)
  have b2 := hc.bow _ (List.getElem_mem e2)
  have e3 : c.ord[s.str.toNat].toNat < c.mdl.bats.length := by omega
  have e4 : c.bows[s.ball.toNat].toNat < c.mdl.bows.length := by omega
  have q1 := (hc.mdl.bat _ (List.getElem_mem e3)).2
  have q2 := (hc.mdl.bow _ (List.getElem_mem e4)).2
  have hsh := shift_ok q1 q2.1 q2.2
  have hm : mvO c s = (shiftS c.mdl.bats[c.ord[s.str.toNat].toNat].dist c.mdl.bows[c.bows[s.ball.toNat].toNat].shift).1 := by
    unfold mvO mvC cstO
    dsimp only
    rw [List.getElem?_eq_getElem e1, List.getElem?_eq_getElem e2]
    dsimp only
    rw [List.getElem?_eq_getElem e3, List.getElem?_eq_getElem e4]
  refine ⟨_, _, _, _, List.getElem?_eq_getElem e1, List.getElem?_eq_getElem e2, by omega, by omega, b1.1, b1.2, b2.1, b2.2, List.getElem?_eq_getElem e3, List.getElem?_eq_getElem e4, ?_, ?_⟩
  · rw [hm, hsh]
  · rw [hm]; exact (shift_check (by rw [hsh])).1
theorem stepO_ok {c : Chs} {s : Ost} (h : OkOs c s) (h2 : s.ball ≠ c.bows.length) (hv : vacO s = false) {o : Otc} (ho : 0 ≤ o.runs) : OkOs c (stepO c s o) ∧ (stepO c s o).ball = s.ball + 1 ∧ (stepO c s o).need = max (s.need - o.runs) 0 := by
  unfold vacO at hv
  rw [Bool.or_eq_false_iff, decide_eq_false_iff_not, decide_eq_false_iff_not] at hv
  have a1 := h.ball; have a2 := h.need; have a4 := h.str; have a5 := h.par; have a6 := h.ne; have a7 := h.ws; have a8 := h.wp
  have o1 := ho
  have h0 : 0 ≤ max (s.need - o.runs) 0 ∧ max (s.need - o.runs) 0 ≤ c.need := by omega
  unfold stepO
  by_cases hx : swapC c (s.ball + 1) o = true
  · rw [if_pos hx]
    by_cases hw : o.wick = true
    · rw [if_pos hw]
      exact ⟨⟨by dsimp only; omega, h0, h.par, by dsimp only; omega, h.w16, h.hi, by dsimp only; omega, h.wp, fun k => by dsimp only at k; omega⟩, rfl, rfl⟩
    · rw [if_neg hw]
      exact ⟨⟨by dsimp only; omega, h0, h.par, h.str, h.w16, h.hi, fun e => a6 e.symm, h.wp, h.ws⟩, rfl, rfl⟩
  · rw [if_neg hx]
    by_cases hw : o.wick = true
    · rw [if_pos hw]
      exact ⟨⟨by dsimp only; omega, h0, by dsimp only; omega, h.par, h.w16, h.hi, by dsimp only; omega, fun k => by dsimp only at k; omega, h.wp⟩, rfl, rfl⟩
    · rw [if_neg hw]
      exact ⟨⟨by dsimp only; omega, h0, h.str, h.par, h.w16, h.hi, a6, h.ws, h.wp⟩, rfl, rfl⟩
/-- The value of a state, by its kind. -/
theorem vO_won {c : Chs} {s : Ost} (h : s.need = 0) : vO c s = pow16 (leftO c s) := by
  unfold vO
  cases leftO c s with
  | zero => rw [valO, if_pos h]; rfl
  | succ n => rw [valO, if_pos h]
theorem vO_lost {c : Chs} {s : Ost} (h : s.need ≠ 0) (h2 : s.ball = c.bows.length) : vO c s = 0 := by
  unfold vO
  have : leftO c s = 0 := by unfold leftO; omega
  rw [this, valO, if_neg h]
theorem leftO_run {c : Chs} {s : Ost} (h : OkOs c s) (h2 : s.ball ≠ c.bows.length) : ∃ n, leftO c s = n + 1 ∧ (c.bows.length : Int) - s.ball = ((n + 1 : Nat) : Int) := by
  have := h.ball
  exact ⟨(c.bows.length - s.ball).toNat - 1, by unfold leftO; omega, by omega⟩
theorem vO_run {c : Chs} {s : Ost} (hc : OkC c) (h : OkOs c s) (h1 : s.need ≠ 0) (h2 : s.ball ≠ c.bows.length) (hv : vacO s = false) : vO c s = sumI ((mvO c s).map fun o => o.wt * vO c (stepO c s o)) := by
  obtain ⟨n, hn, hn2⟩ := leftO_run h h2
  obtain ⟨_, _, _, _, _, _, _, _, _, _, _, _, _, _, _, hd⟩ := mvO_at hc h h2 hv
  have hok := checkD_ok hd
  have e : vO c s = valO c (n + 1) s := by unfold vO; rw [hn]
  rw [e, valO, if_neg h1, if_neg (by rw [hv]; decide)]
  congr 1
  refine List.map_congr_left fun o ho => ?_
  obtain ⟨_, k2, _⟩ := stepO_ok h h2 hv (hok.each o ho).r0
  unfold vO leftO
  rw [k2, show ((c.bows.length : Int) - (s.ball + 1)).toNat = n by push_cast at hn2; omega]
theorem bestF_congr {f g : Int → Int} {w : Int} : ∀ {k : Nat}, (∀ i : Nat, i < k → bitW w i = true → f i = g i) → bestF f w k = bestF g w k
  | 0, _ => rfl
  | k + 1, h => by
    have ih := bestF_congr (f := f) (g := g) (w := w) (k := k) fun i hi => h i (by omega)
    rw [bestF, bestF, ih]
    by_cases hb : bitW w k = true
    · rw [if_pos hb, if_pos hb, h k (by omega) hb]
    · rw [if_neg hb, if_neg hb]
theorem vO_vac {c : Chs} {s : Ost} (ht : OkT c) (h : OkOs c s) (h1 : s.need ≠ 0) (h2 : s.ball ≠ c.bows.length) (hv : vacO s = true) : vO c s = bestF (fun i => vO c (sendO s i)) s.wait c.ord.length := by
  obtain ⟨n, hn, hn2⟩ := leftO_run h h2
  have e : vO c s = valO c (n + 1) s := by unfold vO; rw [hn]
  rw [e, valO, if_neg h1, if_pos hv]
  refine bestF_congr fun i hi hb => ?_
  obtain ⟨k1, k2, k3, k4⟩ := sendO_ok ht h hv (i := i) ⟨by omega, by omega⟩ hb
  have hl : leftO c (sendO s i) = n + 1 := by unfold leftO; rw [k3]; unfold leftO at hn; exact hn
  have e2 : vO c (sendO s i) = valO c (n + 1) (sendO s i) := by unfold vO; rw [hl]
  rw [e2, valO, if_neg (by rw [k4]; exact h1), if_neg (by rw [k2]; decide)]
theorem bestF_bd {f : Int → Int} {w : Int} {b : Int} (hb : 0 ≤ b) : ∀ {k : Nat}, (∀ i : Nat, i < k → bitW w i = true → f i ≤ b) → 0 ≤ bestF f w k ∧ bestF f w k ≤ b
  | 0, _ => ⟨Int.le_refl _, hb⟩
  | k + 1, h => by
    have ih := bestF_bd (f := f) (w := w) hb (k := k) fun i hi => h i (by omega)
    rw [bestF]
    by_cases hx : bitW w k = true
    · have := h k (by omega) hx
      rw [if_pos hx]; omega
    · rw [if_neg hx]; exact ih
theorem vO_bd {c : Chs} (ht : OkT c) : ∀ (n : Nat) (s : Ost), OkOs c s → leftO c s = n → 0 ≤ vO c s ∧ vO c s ≤ pow16 n
  | 0, s, h, hn => by
    have hp := pow16_pos 0
    unfold vO; rw [hn, valO]
    split <;> omega
  | n + 1, s, h, hn => by
    have hp := pow16_pos (n + 1)
    by_cases h1 : s.need = 0
    · rw [vO_won h1, hn]; omega
    have h2 : s.ball ≠ c.bows.length := fun e => by unfold leftO at hn; omega
    have run : ∀ t : Ost, OkOs c t → t.need ≠ 0 → t.ball ≠ c.bows.length → leftO c t = n + 1 → vacO t = false → 0 ≤ vO c t ∧ vO c t ≤ pow16 (n + 1) := fun t hx g1 g2 g3 g4 => by
      obtain ⟨_, _, _, _, _, _, _, _, _, _, _, _, _, _, _, hd⟩ := mvO_at ht.ok hx g2 g4
      have hok := checkD_ok hd
      have hv : ∀ o ∈ mvO c t, 0 ≤ vO c (stepO c t o) ∧ vO c (stepO c t o) ≤ pow16 n := fun o ho => by
        obtain ⟨k1, k2, _⟩ := stepO_ok hx g2 g4 (hok.each o ho).r0
        exact vO_bd ht n (stepO c t o) k1 (by unfold leftO at g3 ⊢; rw [k2]; omega)
      rw [vO_run ht.ok hx g1 g2 g4]
      constructor
      · have := sumI_le (f := fun _ => 0) (g := fun o => o.wt * vO c (stepO c t o)) (l := mvO c t) fun o ho => Int.mul_nonneg (by have := (hok.each o ho).w1; omega) (hv o ho).1
        have e0 : sumI ((mvO c t).map fun _ => (0 : Int)) = 0 := by
          generalize mvO c t = l
          induction l with
          | nil => rfl
          | cons a l ih => rw [List.map_cons, sumI_cons, ih]; rfl
        omega
      · have := sumI_le (f := fun o => o.wt * vO c (stepO c t o)) (g := fun o => o.wt * pow16 n) (l := mvO c t) fun o ho => Int.mul_le_mul_of_nonneg_left (hv o ho).2 (by have := (hok.each o ho).w1; omega)
        rw [sumI_mul (fun o : Otc => o.wt) (pow16 n), hok.sum] at this
        rw [pow16]; exact this
    cases hv : vacO s
    · exact run s h h1 h2 hn hv
    · rw [vO_vac ht h h1 h2 hv]
      refine bestF_bd (by omega) fun i hi hb => ?_
      obtain ⟨k1, k2, k3, k4⟩ := sendO_ok ht h hv (i := i) ⟨by omega, by omega⟩ hb
      exact (run _ k1 (by rw [k4]; exact h1) (by rw [k3]; exact h2) (by unfold leftO at hn ⊢; rw [k3]; exact hn) k2).2
end Go.Proofs.YtjchapoggmipbaaGreatDoor

namespace Go.Proofs.YtjchapoggmipbaaGreatDoor
open Go.RowKit

def osV (s : Ost) : Value := .agg #[.int .i64 s.ball, .int .i64 s.need, .int .i64 s.str, .int .i64 s.par, .int .u16 s.wait]
/-- A chase boxed in block g. -/
structure OTB (w W : World) (g : Nat) (c : Chs) (bv wv pv ov : Value) : Prop where
  bel : Below w.heap.size w W
  box : Blk W g 28 #[bv, wv, pv, .int .i64 c.over, .int .i64 c.done, .int .i64 c.need, ov]
theorem OTB.below {w W W' : World} {g : Nat} {c : Chs} {bv wv pv ov : Value} (h : OTB w W g c bv wv pv ov) (hb : Below W.heap.size W W') : OTB w W' g c bv wv pv ov := ⟨h.bel.trans (hb.mono h.bel.size), h.box.below hb h.box.lt⟩
theorem OTB.drew {w W : World} {g : Nat} {c : Chs} {bv wv pv ov : Value} (h : OTB w W g c bv wv pv ov) : OTB w W.drew g c bv wv pv ov := ⟨Below.drew h.bel, h.box.drew⟩
theorem OTB.alloc {w W : World} {g : Nat} {c : Chs} {bv wv pv ov : Value} (h : OTB w W g c bv wv pv ov) (o : Obj) : OTB w (W.alloc o) g c bv wv pv ov := ⟨h.bel.alloc h.bel.size _, h.box.alloc _⟩
theorem OTB.cells {w W : World} {g : Nat} {c : Chs} {bv wv pv ov : Value} (h : OTB w W g c bv wv pv ov) : W.cell? ⟨g, 0, none⟩ = some bv ∧ W.cell? ⟨g, 1, none⟩ = some wv ∧ W.cell? ⟨g, 2, none⟩ = some pv ∧ W.cell? ⟨g, 3, none⟩ = some (.int .i64 c.over) ∧ W.cell? ⟨g, 4, none⟩ = some (.int .i64 c.done) ∧ W.cell? ⟨g, 5, none⟩ = some (.int .i64 c.need) ∧ W.cell? ⟨g, 6, none⟩ = some ov :=
  ⟨h.box.cell 0, h.box.cell 1, h.box.cell 2, h.box.cell 3, h.box.cell 4, h.box.cell 5, h.box.cell 6⟩
theorem OTB.new (w : World) (c : Chs) (bv wv pv ov : Value) : OTB w (w.alloc (.cells #[bv, wv, pv, .int .i64 c.over, .int .i64 c.done, .int .i64 c.need, ov] 28)) w.heap.size c bv wv pv ov := ⟨Below.alloc (Below.refl _ _) (Nat.le_refl _) _, Blk.new _ _ _⟩
/-- A chase and a state boxed one behind the other. -/
structure OSB (w W : World) (g : Nat) (c : Chs) (bv wv pv ov : Value) (s : Ost) : Prop where
  bel : Below w.heap.size w W
  box : Blk W g 28 #[bv, wv, pv, .int .i64 c.over, .int .i64 c.done, .int .i64 c.need, ov]
  st : Blk W (g + 1) 47 #[.int .i64 s.ball, .int .i64 s.need, .int .i64 s.str, .int .i64 s.par, .int .u16 s.wait]
section
variable {w W W' : World} {g : Nat} {c : Chs} {bv wv pv ov : Value} {s : Ost}
theorem OSB.below (h : OSB w W g c bv wv pv ov s) (hb : Below W.heap.size W W') : OSB w W' g c bv wv pv ov s := ⟨h.bel.trans (hb.mono h.bel.size), h.box.below hb h.box.lt, h.st.below hb h.st.lt⟩
theorem OSB.drew (h : OSB w W g c bv wv pv ov s) : OSB w W.drew g c bv wv pv ov s := ⟨Below.drew h.bel, h.box.drew, h.st.drew⟩
theorem OSB.cells (h : OSB w W g c bv wv pv ov s) : W.cell? ⟨g, 0, none⟩ = some bv ∧ W.cell? ⟨g, 1, none⟩ = some wv ∧ W.cell? ⟨g, 2, none⟩ = some pv ∧ W.cell? ⟨g, 3, none⟩ = some (.int .i64 c.over) ∧ W.cell? ⟨g, 4, none⟩ = some (.int .i64 c.done) ∧ W.cell? ⟨g, 5, none⟩ = some (.int .i64 c.need) ∧ W.cell? ⟨g, 6, none⟩ = some ov ∧
    W.cell? ⟨g + 1, 0, none⟩ = some (.int .i64 s.ball) ∧ W.cell? ⟨g + 1, 1, none⟩ = some (.int .i64 s.need) ∧ W.cell? ⟨g + 1, 2, none⟩ = some (.int .i64 s.str) ∧ W.cell? ⟨g + 1, 3, none⟩ = some (.int .i64 s.par) ∧ W.cell? ⟨g + 1, 4, none⟩ = some (.int .u16 s.wait) :=
  ⟨h.box.cell 0, h.box.cell 1, h.box.cell 2, h.box.cell 3, h.box.cell 4, h.box.cell 5, h.box.cell 6, h.st.cell 0, h.st.cell 1, h.st.cell 2, h.st.cell 3, h.st.cell 4⟩
theorem OSB.new (w : World) (c : Chs) (bv wv pv ov : Value) (s : Ost) : OSB w ((w.alloc (.cells #[bv, wv, pv, .int .i64 c.over, .int .i64 c.done, .int .i64 c.need, ov] 28)).alloc (.cells #[.int .i64 s.ball, .int .i64 s.need, .int .i64 s.str, .int .i64 s.par, .int .u16 s.wait] 47)) w.heap.size c bv wv pv ov s := by
  have h1 := OTB.new w c bv wv pv ov
  have h2 := Blk.new (w.alloc (.cells #[bv, wv, pv, .int .i64 c.over, .int .i64 c.done, .int .i64 c.need, ov] 28)) 47 #[.int .i64 s.ball, .int .i64 s.need, .int .i64 s.str, .int .i64 s.par, .int .u16 s.wait]
  rw [World.size_alloc] at h2
  exact ⟨h1.bel.alloc h1.bel.size _, h1.box.alloc _, h2⟩
end
theorem or_asChase_ret {R' : Ending → World → Prop} {a : Act} {w : World} {x0 x1 x2 x3 x4 x5 x6 : Value} {g : Nat} (h2 : a.tmps[4]? = some (.pointer (some ⟨g, 0, none⟩))) (hb : Blk w g 77 #[x0, x1, x2, x3, x4, x5, x6])
    (hd : a.defers = []) (hR : R' (.returned (.agg #[x0, x1, x2, x3, x4, x5, x6])) w) : bodyPost Tryz.prog Tryz.f27 R' .ret a w := by
  have r0 := hb.cell 0
  have r1 := hb.cell 1
  have r2 := hb.cell 2
  have r3 := hb.cell 3
  have r4 := hb.cell 4
  have r5 := hb.cell 5
  have r6 := hb.cell 6
  simp only [List.getElem?_toArray, List.getElem?_cons_zero, List.getElem?_cons_succ] at r0 r1 r2 r3 r4 r5 r6
  refine bodyPost_ret (v := .agg #[x0, x1, x2, x3, x4, x5, x6]) (by simp [results, Tryz.results27, go_sem, h2, r0, r1, r2, r3, r4, r5, r6]) hd hR
theorem blk_two (w : World) (o : Obj) (t : TypeId) (cs : Array Value) : Blk ((w.alloc o).alloc (.cells cs t)) (w.heap.size + 1) t cs := by
  have h := Blk.new (w.alloc o) t cs
  rwa [World.size_alloc] at h
theorem below_two (w : World) (o1 o2 : Obj) : Below w.heap.size w ((w.alloc o1).alloc o2) := (Below.alloc (Below.refl _ _) (Nat.le_refl _) _).alloc (by simp) _
theorem Blk.put7 {w : World} {g : Nat} {t : TypeId} {a b c d e f h : Value} (hb : Blk w g t #[a, b, c, d, e, f, h]) (x0 x1 x2 x3 x4 x5 x6 : Value) :
    Blk (((((((w.setCell ⟨g, 0, none⟩ x0).setCell ⟨g, 1, none⟩ x1).setCell ⟨g, 2, none⟩ x2).setCell ⟨g, 3, none⟩ x3).setCell ⟨g, 4, none⟩ x4).setCell ⟨g, 5, none⟩ x5).setCell ⟨g, 6, none⟩ x6) g t #[x0, x1, x2, x3, x4, x5, x6] :=
  have h0 : Blk _ g t #[x0, b, c, d, e, f, h] := hb.set_ 0 x0
  have h1 : Blk _ g t #[x0, x1, c, d, e, f, h] := h0.set_ 1 x1
  have h2 : Blk _ g t #[x0, x1, x2, d, e, f, h] := h1.set_ 2 x2
  have h3 : Blk _ g t #[x0, x1, x2, x3, e, f, h] := h2.set_ 3 x3
  have h4 : Blk _ g t #[x0, x1, x2, x3, x4, f, h] := h3.set_ 4 x4
  have h5 : Blk _ g t #[x0, x1, x2, x3, x4, x5, h] := h4.set_ 5 x5
  h5.set_ 6 x6
theorem below_set7 {B : Nat} {a w : World} (h : Below B a w) {g : Nat} (hg : B ≤ g) (x0 x1 x2 x3 x4 x5 x6 : Value) :
    Below B a (((((((w.setCell ⟨g, 0, none⟩ x0).setCell ⟨g, 1, none⟩ x1).setCell ⟨g, 2, none⟩ x2).setCell ⟨g, 3, none⟩ x3).setCell ⟨g, 4, none⟩ x4).setCell ⟨g, 5, none⟩ x5).setCell ⟨g, 6, none⟩ x6) :=
  Below.setCell (Below.setCell (Below.setCell (Below.setCell (Below.setCell (Below.setCell (Below.setCell h hg x0) hg x1) hg x2) hg x3) hg x4) hg x5) hg x6
set_option maxRecDepth 100000 in
set_option maxHeartbeats 4000000 in
theorem or_asChase (c : Chs) (A A1 A2 A3 D : Option Addr) (n n1 n2 n3 m ca ca1 ca2 ca3 k : Nat) (w : World) :
    Calls Tryz.prog 27 #[.agg #[.slice A n ca, .slice A1 n1 ca1, .slice A2 n2 ca2, .int .i64 c.over, .int .i64 c.done, .int .i64 c.need, .slice A3 n3 ca3], .slice D m k] w fun e w' => e = .returned (.agg #[.slice A n ca, .slice A1 n1 ca1, .slice A2 n2 ca2, .int .i64 c.over, .int .i64 c.done, .int .i64 c.need, .slice D m k]) ∧ Below w.heap.size w w' := by
  have hx := OTB.new w c (.slice A n ca) (.slice A1 n1 ca1) (.slice A2 n2 ca2) (.slice A3 n3 ca3)
  have hy := Blk.new (w.alloc (.cells #[.slice A n ca, .slice A1 n1 ca1, .slice A2 n2 ca2, .int .i64 c.over, .int .i64 c.done, .int .i64 c.need, .slice A3 n3 ca3] 28)) 77 #[.slice none 0 0, .slice none 0 0, .slice none 0 0, .int .i64 0, .int .i64 0, .int .i64 0, .slice none 0 0]
  rw [World.size_alloc] at hy
  have HX := Lib.hid (hx.alloc (.cells #[.slice none 0 0, .slice none 0 0, .slice none 0 0, .int .i64 0, .int .i64 0, .int .i64 0, .slice none 0 0] 77))
  have HY := Lib.hid hy
  clear hx hy
  go_enter Tryz.func27, Tryz.ntmps27
  go_wp2
  apply or_asChase_ret (g := w.heap.size + 1) (h2 := rfl) (hd := rfl)
  case hb => first | with_reducible exact blk_two _ _ _ _ | with_reducible exact HY.out.put7 _ _ _ _ _ _ _
  case hR => exact ⟨rfl, by first | with_reducible exact below_two _ _ _ | with_reducible exact below_set7 HX.out.bel (by omega) _ _ _ _ _ _ _⟩
set_option maxRecDepth 100000 in
set_option maxHeartbeats 4000000 in
theorem or_Check (c : Chs) (bv wv pv ov : Value) (w : World) (h : ChAt w (· < w.heap.size) bv wv pv ov c) :
    Calls Tryz.prog 20 #[chV c bv wv pv ov] w fun e w' => e = .returned (.int .i64 (checkO c)) ∧ Below w.heap.size w w' := by
  unfold chV
  obtain ⟨A, ca, rfl, hc1, hc2⟩ := h.mdl.bat.shape
  obtain ⟨A1, ca1, rfl, hc3, hc4⟩ := h.mdl.bow.shape
  obtain ⟨A2, ca2, rfl, hc5, hc6⟩ := h.bow.shape
  obtain ⟨A3, ca3, rfl, hc7, hc8⟩ := h.ord.shape
  have HX0 := Lib.hid (OTB.new w c (.slice A c.mdl.bats.length ca) (.slice A1 c.mdl.bows.length ca1) (.slice A2 c.bows.length ca2) (.slice A3 c.ord.length ca3))
  have HM := Lib.hid h
  obtain ⟨z, hz⟩ : ∃ z, z = checkO c := ⟨_, rfl⟩
  rw [← hz]
  unfold checkO at hz
  have k1 := fun W (hW : Below w.heap.size w W) => m_Check c.mdl _ _ W (HM.out.below hW).mdl
  have k2 := fun W (hW : Below w.heap.size w W) => ch44_Check (setC c []) (.slice A c.mdl.bats.length ca) (.slice A1 c.mdl.bows.length ca1) (.slice A2 c.bows.length ca2) (.slice none 0 0) W ⟨(HM.out.below hW).mdl, (HM.out.below hW).bow, Sl.nil _ _⟩
  have ka1 := fun W => or_asChase c A A1 A2 A3 none c.mdl.bats.length c.mdl.bows.length c.bows.length c.ord.length 0 ca ca1 ca2 ca3 0 W
  have k3 := fun W (hW : Below w.heap.size w W) => ch44_Check c _ _ _ _ W (HM.out.below hW)
  have ka2 := fun W => or_asChase c A A1 A2 A3 A3 c.mdl.bats.length c.mdl.bows.length c.bows.length c.ord.length c.ord.length ca ca1 ca2 ca3 ca3 W
  unfold chV at k2 k3
  have e3 : (setC c []).over = c.over ∧ (setC c []).done = c.done ∧ (setC c []).need = c.need := ⟨rfl, rfl, rfl⟩
  rw [e3.1, e3.2.1, e3.2.2] at k2
  obtain ⟨u, hu⟩ : ∃ u, u = checkM c.mdl := ⟨_, rfl⟩
  obtain ⟨v, hv⟩ : ∃ u, u = checkC (setC c []) := ⟨_, rfl⟩
  obtain ⟨q, hq⟩ : ∃ u, u = checkC c := ⟨_, rfl⟩
  rw [← hu] at k1 hz
  rw [← hv] at k2 hz
  rw [← hq] at k3 hz
  have K1 := Lib.hid k1
  have K2 := Lib.hid k2
  have K3 := Lib.hid k3
  have KA1 := Lib.hid ka1
  have KA2 := Lib.hid ka2
  have tok0 : True := trivial
  clear k1 k2 k3 ka1 ka2 hu hv hq h HM e3
  by_cases h0 : u = 0
  case neg =>
    rw [if_pos h0] at hz
    have HZ := Lib.hid hz
    have eu : (u != 0) = true := by simp [h0]
    clear hz h0
    go_enter Tryz.func20, Tryz.ntmps20
    go_wp2_with (clear tok0; go_at_call 50; refine (K1.out _ HX0.out.bel).mono ?_; rintro e w1 ⟨rfl, hb⟩; have HX1 := Lib.hid (HX0.out.below hb); obtain ⟨x0, x1, x2, x3, x4, x5, x6⟩ := HX1.out.cells; clear hb; have tok1 : True := trivial)
    go_ret
    exact ⟨ret_i HZ.out.symm, HX1.out.bel⟩
  have eu : (u != 0) = false := by simp [h0]
  rw [if_neg (by omega)] at hz
  clear h0
  by_cases h1 : 8 < c.bows.length
  · rw [if_pos h1] at hz
    have HZ := Lib.hid hz
    have g1 : (8 : Int) < c.bows.length := by omega
    clear hz
    go_enter Tryz.func20, Tryz.ntmps20
    go_wp2_with (clear tok0; go_at_call 50; refine (K1.out _ HX0.out.bel).mono ?_; rintro e w1 ⟨rfl, hb⟩; have HX1 := Lib.hid (HX0.out.below hb); obtain ⟨x0, x1, x2, x3, x4, x5, x6⟩ := HX1.out.cells; clear hb; have tok1 : True := trivial)
    go_ret
    exact ⟨ret_i HZ.out.symm, HX1.out.bel⟩
  rw [if_neg h1] at hz
  have g1 : ¬ (8 : Int) < c.bows.length := by omega
  by_cases h2 : v = 9
  case neg =>
    rw [if_pos h2] at hz
    have HZ := Lib.hid hz
    have ev : (v != 9) = true := by simp [h2]
    clear hz h2
    go_enter Tryz.func20, Tryz.ntmps20
    go_wp2_with (first
      | (clear tok0; go_at_call 50; refine (K1.out _ HX0.out.bel).mono ?_; rintro e w1 ⟨rfl, hb⟩; have HX1 := Lib.hid (HX0.out.below hb); obtain ⟨x0, x1, x2, x3, x4, x5, x6⟩ := HX1.out.cells; clear hb; have tok1 : True := trivial)
      | (clear tok1; go_at_call 27; refine (KA1.out _).mono ?_; rintro e w2 ⟨rfl, hb⟩; have HX2 := Lib.hid (HX1.out.below hb); clear x0 x1 x2 x3 x4 x5 x6; obtain ⟨x0, x1, x2, x3, x4, x5, x6⟩ := HX2.out.cells; clear hb; have tok2 : True := trivial)
      | (clear tok2; go_at_call 51; refine (K2.out _ HX2.out.bel).mono ?_; rintro e w3 ⟨rfl, hb⟩; have HX3 := Lib.hid (HX2.out.below hb); clear x0 x1 x2 x3 x4 x5 x6; obtain ⟨x0, x1, x2, x3, x4, x5, x6⟩ := HX3.out.cells; clear hb; have tok3 : True := trivial))
    go_ret
    exact ⟨ret_i HZ.out.symm, HX3.out.bel⟩
  rw [if_neg (by omega)] at hz
  have ev : (v != 9) = false := by simp [h2]
  clear h2
  by_cases h3 : 6 < c.ord.length
  · rw [if_pos h3] at hz
    have HZ := Lib.hid hz
    have g2 : (6 : Int) < c.ord.length := by omega
    clear hz
    go_enter Tryz.func20, Tryz.ntmps20
    go_wp2_with (first
      | (clear tok0; go_at_call 50; refine (K1.out _ HX0.out.bel).mono ?_; rintro e w1 ⟨rfl, hb⟩; have HX1 := Lib.hid (HX0.out.below hb); obtain ⟨x0, x1, x2, x3, x4, x5, x6⟩ := HX1.out.cells; clear hb; have tok1 : True := trivial)
      | (clear tok1; go_at_call 27; refine (KA1.out _).mono ?_; rintro e w2 ⟨rfl, hb⟩; have HX2 := Lib.hid (HX1.out.below hb); clear x0 x1 x2 x3 x4 x5 x6; obtain ⟨x0, x1, x2, x3, x4, x5, x6⟩ := HX2.out.cells; clear hb; have tok2 : True := trivial)
      | (clear tok2; go_at_call 51; refine (K2.out _ HX2.out.bel).mono ?_; rintro e w3 ⟨rfl, hb⟩; have HX3 := Lib.hid (HX2.out.below hb); clear x0 x1 x2 x3 x4 x5 x6; obtain ⟨x0, x1, x2, x3, x4, x5, x6⟩ := HX3.out.cells; clear hb; have tok3 : True := trivial))
    go_ret
    exact ⟨ret_i HZ.out.symm, HX3.out.bel⟩
  rw [if_neg h3] at hz
  have g2 : ¬ (6 : Int) < c.ord.length := by omega
  have HZ := Lib.hid hz
  clear hz
  go_enter Tryz.func20, Tryz.ntmps20
  go_wp2_with (first
    | (clear tok0; go_at_call 50; refine (K1.out _ HX0.out.bel).mono ?_; rintro e w1 ⟨rfl, hb⟩; have HX1 := Lib.hid (HX0.out.below hb); obtain ⟨x0, x1, x2, x3, x4, x5, x6⟩ := HX1.out.cells; clear hb; have tok1 : True := trivial)
    | (clear tok1; go_at_call 27; refine (KA1.out _).mono ?_; rintro e w2 ⟨rfl, hb⟩; have HX2 := Lib.hid (HX1.out.below hb); clear x0 x1 x2 x3 x4 x5 x6; obtain ⟨x0, x1, x2, x3, x4, x5, x6⟩ := HX2.out.cells; clear hb; have tok2 : True := trivial)
    | (clear tok2; go_at_call 51; refine (K2.out _ HX2.out.bel).mono ?_; rintro e w3 ⟨rfl, hb⟩; have HX3 := Lib.hid (HX2.out.below hb); clear x0 x1 x2 x3 x4 x5 x6; obtain ⟨x0, x1, x2, x3, x4, x5, x6⟩ := HX3.out.cells; clear hb; have tok3 : True := trivial)
    | (clear tok3; go_at_call 27; refine (KA2.out _).mono ?_; rintro e w4 ⟨rfl, hb⟩; have HX4 := Lib.hid (HX3.out.below hb); clear x0 x1 x2 x3 x4 x5 x6; obtain ⟨x0, x1, x2, x3, x4, x5, x6⟩ := HX4.out.cells; clear hb; have tok4 : True := trivial)
    | (clear tok4; go_at_call 51; refine (K3.out _ HX4.out.bel).mono ?_; rintro e w5 ⟨rfl, hb⟩; have HX5 := Lib.hid (HX4.out.below hb); clear x0 x1 x2 x3 x4 x5 x6; obtain ⟨x0, x1, x2, x3, x4, x5, x6⟩ := HX5.out.cells; clear hb; have tok5 : True := trivial))
  go_ret
  exact ⟨ret_i HZ.out.symm, HX5.out.bel⟩
end Go.Proofs.YtjchapoggmipbaaGreatDoor

namespace Go.Proofs.YtjchapoggmipbaaGreatDoor
open Go.ChangeShapes Go.WideShapes Go.ChangeAt Go.RowKit

theorem cellsTsk : Tryz.prog.cellsOf 28 = 7 := by kernel_rfl
section
variable {H : Type} {enc : TypeId × Value → H} {W : World}
end
end Go.Proofs.YtjchapoggmipbaaGreatDoor

namespace Go.Proofs.YtjchapoggmipbaaGreatDoor
open Go.ChangeShapes Go.WideShapes Go.ChangeAt Go.RowKit
section
variable {H : Type} {enc : TypeId × Value → H} {W : World}
set_option maxRecDepth 100000 in
theorem open_ints {r : Reach} {b0 : Nat} {v : Value} {d : DataW H} {p : List MemPlace} (hv : Value.okWide Tryz.prog W r b0 26 v) (h : DataW.Trod enc Tryz.prog W 0 (fun _ => true) true 26 v d p) :
    ∃ ls, Sl 1 elInt W (· < W.heap.size) v ls := by
  obtain ⟨a, len, cap, rfl⟩ := okWide_slice Tryz.underlying26 hv
  obtain ⟨fuel, hf⟩ := h
  obtain ⟨v, l, e1, hsl⟩ := sl_raw (size := 1) (el := elInt) Tryz.underlying26 cellsI' (by decide) (fun h => int_one8 h) hf
  have g1 : v = .slice a len cap := by simp [Value.cells] at e1; exact e1.symm
  rw [← g1]
  exact ⟨l, hsl⟩
end
end Go.Proofs.YtjchapoggmipbaaGreatDoor

namespace Go.Proofs.YtjchapoggmipbaaGreatDoor

/-- The first of the best among the waiting below k, and what it gives. -/
def bestI (f : Int → Int) (w : Int) : Nat → Int × Int
  | 0 => (0, -1)
  | k + 1 => if bitW w k = true then if (bestI f w k).2 < f k then ((k : Int), f k) else bestI f w k else bestI f w k
def noSend (c : Chs) (s : Ost) : Bool := !(vacO s) || endO c s || (s.wait == 0)
def sendSp (c : Chs) (s : Ost) : Int × Int :=
  if chstO c s ≠ 0 then (0, chstO c s) else if noSend c s = true then (0, 11) else ((bestI (fun i => vO c (sendO s i)) s.wait c.ord.length).1, 0)
theorem bestI_law {f : Int → Int} {w : Int} : ∀ {k : Nat}, (∀ i : Nat, i < k → bitW w i = true → 0 ≤ f i) →
    ((∀ i : Nat, i < k → bitW w i = false) ∧ bestI f w k = (0, -1) ∧ bestF f w k = 0) ∨
    (∃ b : Nat, b < k ∧ bitW w b = true ∧ bestI f w k = ((b : Int), f b) ∧ bestF f w k = f b ∧ ∀ j : Nat, j < k → bitW w j = true → f j ≤ f b ∧ (j < b → f j < f b))
  | 0, _ => .inl ⟨fun i hi => by omega, rfl, rfl⟩
  | k + 1, h => by
    have hk := h k (by omega)
    rw [bestI, bestF]
    rcases bestI_law (f := f) (w := w) (k := k) fun i hi hb => h i (by omega) hb with ⟨h1, h2, h3⟩ | ⟨b, h1, h2, h3, h4, h5⟩
    · by_cases hb : bitW w k = true
      · have h0 := hk hb
        rw [if_pos hb, if_pos hb, h2, h3, if_pos (by show (-1 : Int) < f k; omega)]
        refine .inr ⟨k, by omega, hb, rfl, by omega, fun j hj hjb => ?_⟩
        by_cases e : j = k
        · subst e; exact ⟨Int.le_refl _, fun k => by omega⟩
        · have := h1 j (by omega); rw [hjb] at this; cases this
      · rw [if_neg hb, if_neg hb]
        refine .inl ⟨fun i hi => ?_, h2, h3⟩
        by_cases e : i = k
        · subst e; simpa using hb
        · exact h1 i (by omega)
    · by_cases hb : bitW w k = true
      · rw [if_pos hb, if_pos hb, h3, h4]
        by_cases hlt : f b < f k
        · rw [if_pos hlt]
          refine .inr ⟨k, by omega, hb, rfl, by omega, fun j hj hjb => ?_⟩
          by_cases e : j = k
          · subst e; exact ⟨Int.le_refl _, fun k => by omega⟩
          · have := (h5 j (by omega) hjb).1
            exact ⟨by omega, fun _ => by omega⟩
        · rw [if_neg hlt]
          refine .inr ⟨b, by omega, h2, rfl, by omega, fun j hj hjb => ?_⟩
          by_cases e : j = k
          · subst e; exact ⟨by omega, fun k => by omega⟩
          · exact h5 j (by omega) hjb
      · rw [if_neg hb, if_neg hb]
        refine .inr ⟨b, by omega, h2, h3, h4, fun j hj hjb => ?_⟩
        by_cases e : j = k
        · subst e; exact absurd hjb hb
        · exact h5 j (by omega) hjb
/-- Where somebody waits, one below the number of batters does. -/
theorem some_waits {w : Int} {k : Nat} (h : 0 ≤ w ∧ w < 65536) (hk : k < 16) (h0 : w ≠ 0) (hs : shrW w k = 0) : ∃ i : Nat, i < k ∧ bitW w i = true := by
  obtain ⟨n, rfl, hn⟩ := bits_of w h
  rw [shrW_nat n k (by omega)] at hs
  have hp : 0 < 2 ^ k := Nat.two_pow_pos k
  have h1 : n < 2 ^ k := by
    have : n / 2 ^ k = 0 := by omega
    rcases Nat.lt_or_ge n (2 ^ k) with h | h
    · exact h
    · have := Nat.div_pos h hp; omega
  obtain ⟨i, hi⟩ := Nat.exists_testBit_of_ne_zero (x := n) (by omega)
  have h2 : i < k := by
    rcases Nat.lt_or_ge i k with h | h
    · exact h
    · have := Nat.testBit_lt_two_pow (Nat.lt_of_lt_of_le h1 (Nat.pow_le_pow_right (by decide) h))
      rw [hi] at this; cases this
  exact ⟨i, h2, by rw [bitW_nat n i hn (by omega)]; exact hi⟩
/-- Who is sent, and what holds of the others. -/
theorem sends_law {c : Chs} {s : Ost} (hw : 0 ≤ s.wait ∧ s.wait < 65536) (h : (sendSp c s).2 = 0) :
    OkT c ∧ OkOs c s ∧ chstO c s = 0 ∧ vacO s = true ∧ ∃ b : Nat, b < c.ord.length ∧ bitW s.wait b = true ∧ (sendSp c s).1 = (b : Int) ∧ vO c s = vO c (sendO s b) ∧
      ∀ j : Nat, j < c.ord.length → bitW s.wait j = true → chstO c (sendO s j) = 0 ∧ vO c (sendO s j) ≤ vO c s ∧ ((j : Nat) < b → vO c (sendO s j) < vO c s) := by
  unfold sendSp at h ⊢
  by_cases h1 : chstO c s ≠ 0
  · rw [if_pos h1] at h; exact absurd h h1
  rw [if_neg h1] at h ⊢
  by_cases h2 : noSend c s = true
  · rw [if_pos h2] at h; cases h
  rw [if_neg h2]
  have h0 : chstO c s = 0 := by omega
  obtain ⟨hc, ht, hs⟩ := chstO_ok hw h0
  unfold noSend endO at h2
  simp only [Bool.or_eq_true, Bool.not_eq_true', decide_eq_true_eq, beq_iff_eq, not_or, Bool.not_eq_false] at h2
  obtain ⟨⟨hv, hn, hb⟩, hw0⟩ := h2
  have hp := ht.np
  obtain ⟨i, hi, hib⟩ := some_waits hw (by omega) hw0 hs.hi
  have hpos : ∀ j : Nat, j < c.ord.length → bitW s.wait j = true → 0 ≤ vO c (sendO s j) := fun j hj hjb => by
    obtain ⟨k1, k2, k3, k4⟩ := sendO_ok ht hs hv (i := j) ⟨by omega, by omega⟩ hjb
    exact (vO_bd ht _ _ k1 rfl).1
  refine ⟨ht, hs, h0, hv, ?_⟩
  rcases bestI_law (f := fun i => vO c (sendO s i)) (w := s.wait) (k := c.ord.length) hpos with ⟨k1, _⟩ | ⟨b, k1, k2, k3, k4, k5⟩
  · have := k1 i hi; rw [hib] at this; cases this
  · have e := vO_vac ht hs hn hb hv
    rw [k4] at e
    refine ⟨b, k1, k2, by rw [k3], e, fun j hj hjb => ?_⟩
    have q := k5 j hj hjb
    rw [e]
    exact ⟨chstO_of hc (sendO_ok ht hs hv ⟨by omega, by omega⟩ hjb).1, q.1, q.2⟩
end Go.Proofs.YtjchapoggmipbaaGreatDoor

namespace Go.Proofs.YtjchapoggmipbaaGreatDoor

/-- All of the first k but two. -/
def allW (k : Int) : Int := IntKind.u16.wrap (IntKind.u16.wrap (2 ^ k.toNat) - 1)
def oneW (a : Int) : Int := IntKind.u16.wrap (2 ^ a.toNat)
def lessW (k a b : Int) : Int := bits .andNot .u16 (allW k) (bits .or .u16 (oneW a) (oneW b))
theorem oneW_nat (i : Nat) (hi : i < 16) : oneW (i : Int) = ((2 ^ i : Nat) : Int) := by
  have hp : 2 ^ i < 65536 := Nat.pow_lt_pow_right (by decide) hi (n := 16)
  unfold oneW
  rw [Int.toNat_natCast, IntKind.wrap_u16]
  have : ((2 : Int) ^ i) = ((2 ^ i : Nat) : Int) := by push_cast; rfl
  rw [this]
  generalize 2 ^ i = q at hp
  omega
theorem allW_nat (k : Nat) (hk : k < 16) : allW (k : Int) = ((2 ^ k - 1 : Nat) : Int) := by
  have hp : 2 ^ k < 65536 := Nat.pow_lt_pow_right (by decide) hk (n := 16)
  have h0 : 0 < 2 ^ k := Nat.two_pow_pos k
  have h1 := oneW_nat k hk
  unfold oneW at h1
  unfold allW
  rw [h1, IntKind.wrap_u16]
  generalize 2 ^ k = q at hp h0
  omega
theorem or_lt (a b : Nat) (ha : a < 16) (hb : b < 16) : 2 ^ a ||| 2 ^ b < 65536 :=
  Nat.or_lt_two_pow (n := 16) (Nat.pow_lt_pow_right (by decide) ha) (Nat.pow_lt_pow_right (by decide) hb)
theorem lessW_nat (k a b : Nat) (hk : k < 16) (ha : a < 16) (hb : b < 16) : lessW k a b = (((2 ^ k - 1) &&& (65535 - (2 ^ a ||| 2 ^ b)) : Nat) : Int) := by
  have hp : 2 ^ k < 65536 := Nat.pow_lt_pow_right (by decide) hk (n := 16)
  have pa : 2 ^ a < 65536 := Nat.pow_lt_pow_right (by decide) ha (n := 16)
  have pb : 2 ^ b < 65536 := Nat.pow_lt_pow_right (by decide) hb (n := 16)
  unfold lessW
  rw [allW_nat k hk, oneW_nat a ha, oneW_nat b hb, u16_or_nat _ _ pa pb, u16_andNot_nat _ _ (by omega) (or_lt a b ha hb)]
theorem less_test (k a b j : Nat) (hk : k < 16) (ha : a < 16) (hb : b < 16) : ((2 ^ k - 1) &&& (65535 - (2 ^ a ||| 2 ^ b))).testBit j = (decide (j < k) && decide (j ≠ a) && decide (j ≠ b)) := by
  have ho := or_lt a b ha hb
  rw [Nat.testBit_and, Nat.testBit_two_pow_sub_one, show 65535 - (2 ^ a ||| 2 ^ b) = 2 ^ 16 - ((2 ^ a ||| 2 ^ b) + 1) by omega, Nat.testBit_two_pow_sub_succ (by omega), Nat.testBit_or, Nat.testBit_two_pow, Nat.testBit_two_pow]
  by_cases h1 : j < k
  · have h2 : j < 16 := by omega
    have e1 : decide (a = j) = decide (j = a) := decide_eq_decide.2 ⟨fun h => h.symm, fun h => h.symm⟩
    have e2 : decide (b = j) = decide (j = b) := decide_eq_decide.2 ⟨fun h => h.symm, fun h => h.symm⟩
    rw [e1, e2]
    simp [h1, h2]
  · simp [h1]
def openO (c : Chs) (a b : Int) : Ost := ⟨0, c.need, a, b, lessW c.ord.length a b⟩
theorem openO_bit {c : Chs} (ht : OkT c) {a b j : Nat} (ha : a < c.ord.length) (hb : b < c.ord.length) (hj : j < c.ord.length) : bitW (openO c a b).wait j = (decide (j ≠ a) && decide (j ≠ b)) := by
  have hp := ht.np
  show bitW (lessW _ _ _) _ = _
  rw [lessW_nat _ a b (by omega) (by omega) (by omega), bitW_nat _ j _ (by omega), less_test _ a b j (by omega) (by omega) (by omega)]
  · simp [hj]
  · have := Nat.and_le_left (n := 2 ^ c.ord.length - 1) (m := 65535 - (2 ^ a ||| 2 ^ b))
    have hq : 2 ^ c.ord.length < 65536 := Nat.pow_lt_pow_right (by decide) (show c.ord.length < 16 by omega) (n := 16)
    omega
theorem openO_ok {c : Chs} (ht : OkT c) {a b : Nat} (ha : a < c.ord.length) (hb : b < c.ord.length) (hne : a ≠ b) : OkOs c (openO c a b) ∧ vacO (openO c a b) = false ∧ leftO c (openO c a b) = c.bows.length := by
  have hp := ht.np
  have hneed := ht.ok.need
  have hq : 2 ^ c.ord.length < 65536 := Nat.pow_lt_pow_right (by decide) (show c.ord.length < 16 by omega) (n := 16)
  have hq0 : 0 < 2 ^ c.ord.length := Nat.two_pow_pos _
  have hle := Nat.and_le_left (n := 2 ^ c.ord.length - 1) (m := 65535 - (2 ^ a ||| 2 ^ b))
  have e := lessW_nat c.ord.length a b (by omega) (by omega) (by omega)
  refine ⟨⟨⟨Int.le_refl _, by show (0 : Int) ≤ _; omega⟩, ⟨by show 0 ≤ c.need; omega, Int.le_refl _⟩, ⟨by show -1 ≤ (a : Int); omega, by show (a : Int) < _; omega⟩, ⟨by show -1 ≤ (b : Int); omega, by show (b : Int) < _; omega⟩, ?_, ?_, by show (a : Int) ≠ (b : Int); omega, fun _ => ?_, fun _ => ?_⟩, ?_, ?_⟩
  · show 0 ≤ lessW _ _ _ ∧ lessW _ _ _ < 65536
    rw [e]; omega
  · show shrW (lessW _ _ _) _ = 0
    rw [e, shrW_nat _ _ (by omega), Nat.div_eq_of_lt (by omega)]; rfl
  · have := openO_bit ht ha hb ha
    rw [show (openO c a b).str = (a : Int) from rfl, this]; simp
  · have := openO_bit ht ha hb hb
    rw [show (openO c a b).par = (b : Int) from rfl, this]; simp
  · unfold vacO openO; simp
  · unfold leftO openO; simp
/-- The best pair: two loops. -/
def rowB (f : Int → Int → Int) (a : Nat) : Nat → (Int × Int) × Int → (Int × Int) × Int
  | 0, r => r
  | b + 1, r => if a = b then rowB f a b r else if (rowB f a b r).2 < f a b then (((a : Int), (b : Int)), f a b) else rowB f a b r
def allB (f : Int → Int → Int) (k : Nat) : Nat → (Int × Int) × Int → (Int × Int) × Int
  | 0, r => r
  | a + 1, r => rowB f a k (allB f k a r)
def bestS (c : Chs) (p : Int × Int) : (Int × Int) × Int := allB (fun a b => vO c (openO c a b)) c.ord.length c.ord.length (p, -1)
theorem rowB_ge (f : Int → Int → Int) (a : Nat) (r : (Int × Int) × Int) : ∀ k, r.2 ≤ (rowB f a k r).2 ∧ ∀ b, b < k → a ≠ b → f a b ≤ (rowB f a k r).2
  | 0 => ⟨Int.le_refl _, fun b h => by omega⟩
  | k + 1 => by
    obtain ⟨h1, h2⟩ := rowB_ge f a r k
    rw [rowB]
    by_cases e : a = k
    · rw [if_pos e]
      exact ⟨h1, fun b hb hne => h2 b (by omega) hne⟩
    · rw [if_neg e]
      by_cases hlt : (rowB f a k r).2 < f a k
      · rw [if_pos hlt]
        refine ⟨by show r.2 ≤ f a k; omega, fun b hb hne => ?_⟩
        show f a b ≤ f a k
        by_cases e2 : b = k
        · subst e2; exact Int.le_refl _
        · have := h2 b (by omega) hne; omega
      · rw [if_neg hlt]
        refine ⟨h1, fun b hb hne => ?_⟩
        by_cases e2 : b = k
        · subst e2; omega
        · exact h2 b (by omega) hne
theorem allB_ge (f : Int → Int → Int) (k : Nat) (r : (Int × Int) × Int) : ∀ n, r.2 ≤ (allB f k n r).2 ∧ ∀ a b, a < n → b < k → a ≠ b → f a b ≤ (allB f k n r).2
  | 0 => ⟨Int.le_refl _, fun a b h => by omega⟩
  | n + 1 => by
    obtain ⟨h1, h2⟩ := allB_ge f k r n
    obtain ⟨h3, h4⟩ := rowB_ge f n (allB f k n r) k
    rw [allB]
    refine ⟨by omega, fun a b ha hb hne => ?_⟩
    by_cases e : a = n
    · subst e; exact h4 b hb hne
    · have := h2 a b (by omega) hb hne; omega
/-- From where the loops start does not matter once a pair has been taken. -/
theorem rowB_same (f : Int → Int → Int) (a : Nat) {r q : (Int × Int) × Int} (h : r.2 = q.2) : ∀ k, (rowB f a k r).2 = (rowB f a k q).2 ∧ (rowB f a k r = rowB f a k q ∨ (rowB f a k r = r ∧ rowB f a k q = q))
  | 0 => ⟨h, .inr ⟨rfl, rfl⟩⟩
  | k + 1 => by
    obtain ⟨h1, h2⟩ := rowB_same f a h k
    rw [rowB, rowB]
    by_cases e : a = k
    · rw [if_pos e, if_pos e]; exact ⟨h1, h2⟩
    · rw [if_neg e, if_neg e, h1]
      by_cases hlt : (rowB f a k q).2 < f a k
      · rw [if_pos hlt, if_pos hlt]; exact ⟨rfl, .inl rfl⟩
      · rw [if_neg hlt, if_neg hlt]; exact ⟨h1, h2⟩
theorem allB_same (f : Int → Int → Int) (k : Nat) {r q : (Int × Int) × Int} (h : r.2 = q.2) : ∀ n, (allB f k n r).2 = (allB f k n q).2 ∧ (allB f k n r = allB f k n q ∨ (allB f k n r = r ∧ allB f k n q = q))
  | 0 => ⟨h, .inr ⟨rfl, rfl⟩⟩
  | n + 1 => by
    obtain ⟨h1, h2⟩ := allB_same f k h n
    rw [allB, allB]
    obtain ⟨h3, h4⟩ := rowB_same f n h1 k
    refine ⟨h3, ?_⟩
    rcases h2 with h2 | ⟨h5, h6⟩
    · left; rw [h2]
    · rcases h4 with h4 | ⟨h7, h8⟩
      · exact .inl h4
      · exact .inr ⟨h7.trans h5, h8.trans h6⟩
theorem bestS_same {c : Chs} (ht : OkT c) (p q : Int × Int) : bestS c p = bestS c q := by
  have hp := ht.np
  obtain ⟨h1, h2⟩ := allB_same (fun a b => vO c (openO c a b)) c.ord.length (r := (p, -1)) (q := (q, -1)) rfl c.ord.length
  rcases h2 with h2 | ⟨h3, _⟩
  · exact h2
  · exfalso
    have h4 := (allB_ge (fun a b => vO c (openO c a b)) c.ord.length (p, -1) c.ord.length).2 0 1 (by omega) (by omega) (by omega)
    rw [h3] at h4
    have h5 := (vO_bd ht _ _ (openO_ok ht (a := 0) (b := 1) (by omega) (by omega) (by omega)).1 rfl).1
    have h6 : vO c (openO c (0 : Nat) (1 : Nat)) ≤ -1 := h4
    omega
def bestOS (c : Chs) : (Int × Int) × Int × Int := if checkO c ≠ 0 then ((0, 0), 0, checkO c) else ((bestS c (0, 0)).1, (bestS c (0, 0)).2, 0)
/-- An order that is fixed: the numbers of its batters. -/
def fixF (n : Int) : List Int → List Int → Int
  | _, [] => 0
  | pre, x :: l => if x < 0 ∨ n ≤ x then 2 else if x ∈ pre then 7 else fixF n (pre ++ [x]) l
def getI (l : List Int) (x : Int) : Int := (l[x.toNat]?).getD 0
def fixC (c : Chs) (l : List Int) : Chs := setC c (l.map (getI c.ord))
def fixedS (c : Chs) (l : List Int) : Int × Int :=
  if checkO c ≠ 0 then (0, checkO c) else if l.length < 2 then (0, 9) else if fixF c.ord.length [] l ≠ 0 then (0, fixF c.ord.length [] l)
  else if checkC (fixC c l) ≠ 0 then (0, checkC (fixC c l)) else (valS (fixC c l) ⟨0, c.need, 0, 1, 2⟩, 0)
theorem fixF_ok {n : Int} : ∀ {l pre : List Int}, fixF n pre l = 0 → (∀ x ∈ l, 0 ≤ x ∧ x < n) ∧ (∀ x ∈ l, x ∉ pre) ∧ ∀ (i j : Nat) (hi : i < l.length) (hj : j < l.length), i ≠ j → l[i] ≠ l[j]
  | [], _, _ => ⟨by simp, by simp, fun i j hi => by simp at hi⟩
  | a :: l, pre, h => by
    rw [fixF] at h
    by_cases h1 : a < 0 ∨ n ≤ a
    · rw [if_pos h1] at h; cases h
    rw [if_neg h1] at h
    by_cases h2 : a ∈ pre
    · rw [if_pos h2] at h; cases h
    rw [if_neg h2] at h
    obtain ⟨k1, k2, k3⟩ := fixF_ok h
    have ha : a ∉ l := fun hm => k2 a hm (by simp)
    refine ⟨fun x hx => ?_, fun x hx => ?_, fun i j hi hj hne => ?_⟩
    · rcases List.mem_cons.1 hx with rfl | hx
      · omega
      · exact k1 x hx
    · rcases List.mem_cons.1 hx with rfl | hx
      · exact h2
      · exact fun hm => k2 x hx (by simp [hm])
    · match i, j with
      | 0, 0 => exact absurd rfl hne
      | 0, j + 1 => exact fun e => ha (by have e' : a = l[j]'(by simpa using hj) := e; rw [e']; exact List.getElem_mem _)
      | i + 1, 0 => exact fun e => ha (by have e' : l[i]'(by simpa using hi) = a := e; rw [← e']; exact List.getElem_mem _)
      | i + 1, j + 1 => exact k3 i j (by simpa using hi) (by simpa using hj) (by omega)
/-- A state of the chase with a fixed order beside one of the task. -/
structure SimO (c : Chs) (l : List Int) (s : Cst) (t : Ost) : Prop where
  ball : t.ball = s.ball
  need : t.need = s.need
  str : 0 ≤ s.str → s.str.toNat < l.length ∧ l[s.str.toNat]? = some t.str
  par : 0 ≤ s.par ∧ s.par.toNat < l.length ∧ l[s.par.toNat]? = some t.par
  wait : ∀ i : Nat, s.nxt ≤ i → ∀ x, l[i]? = some x → bitW t.wait x = true
theorem bestF_le {f : Int → Int} {w : Int} : ∀ {k : Nat} {i : Nat}, i < k → bitW w i = true → f i ≤ bestF f w k
  | 0, i, h, _ => by omega
  | k + 1, i, h, hb => by
    rw [bestF]
    by_cases e : i = k
    · subst e; rw [if_pos hb]; omega
    · have := bestF_le (f := f) (w := w) (k := k) (i := i) (by omega) hb
      split <;> omega
theorem fix_law {c : Chs} (ht : OkT c) {l : List Int} (hl : fixF c.ord.length [] l = 0) (hc' : OkC (fixC c l)) : ∀ (n : Nat) (s : Cst) (t : Ost), OkS (fixC c l) s → OkOs c t → SimO c l s t → 0 ≤ s.str → vacO t = false → leftO c t = n → chF (fixC c l) n s ≤ vO c t
  | 0, s, t, hs, hto, hm, h0, hv, hn => by
    unfold vO; rw [hn, chF, valO, hm.need]; exact Int.le_refl _
  | n + 1, s, t, hs, hto, hm, h0, hv, hn => by
    obtain ⟨l1, l2, l3⟩ := fixF_ok hl
    by_cases h1 : s.need = 0
    · rw [chF, if_pos h1, vO_won (by rw [hm.need]; exact h1), hn]; exact Int.le_refl _
    have hb : t.ball ≠ c.bows.length := fun e => by unfold leftO at hn; omega
    have hbs : s.ball ≠ c.bows.length := by rw [← hm.ball]; exact hb
    rw [chF, if_neg h1, if_neg (by omega), vO_run ht.ok hto (by rw [hm.need]; exact h1) hb hv]
    obtain ⟨_, _, _, _, _, _, _, _, _, _, _, _, _, _, _, hd⟩ := mvO_at ht.ok hto hb hv
    have hok := checkD_ok hd
    have hlen : (fixC c l).ord.length = l.length := by unfold fixC setC; simp
    obtain ⟨g1, g2⟩ := hm.str h0
    have em : mvC (fixC c l) s = mvO c t := by
      have hx := l1 _ (List.mem_of_getElem? g2)
      have e1 : (fixC c l).ord[s.str.toNat]? = some (getI c.ord t.str) := by
        unfold fixC setC
        dsimp only
        rw [List.getElem?_map, g2]; rfl
      have e2 : getI c.ord t.str = c.ord[t.str.toNat]'(by omega) := by unfold getI; rw [List.getElem?_eq_getElem (by omega)]; rfl
      have e3 : c.ord[t.str.toNat]? = some (getI c.ord t.str) := by rw [e2]; exact List.getElem?_eq_getElem _
      unfold mvO mvC cstO
      rw [e1]
      dsimp only
      rw [e3, hm.ball]
      rfl
    rw [em]
    refine sumI_le fun o ho => Int.mul_le_mul_of_nonneg_left ?_ (by have := (hok.each o ho).w1; omega)
    have ho0 := (hok.each o ho).r0
    have hst : stC (fixC c l) s = 1 := by
      unfold stC; rw [if_neg h1, if_neg]
      rintro (h | h)
      · omega
      · exact hbs h
    obtain ⟨k1, k2, k3⟩ := stepC_ok hc' hs hst ho0
    obtain ⟨j1, j2, j3⟩ := stepO_ok hto hb hv ho0
    have jl : leftO c (stepO c t o) = n := by unfold leftO at hn ⊢; rw [j2]; omega
    have esw : swapC (fixC c l) (s.ball + 1) o = swapC c (t.ball + 1) o := by rw [hm.ball]; rfl
    have hnd : (stepO c t o).need = (stepC (fixC c l) s o).need := by rw [j3, k3, hm.need]
    have hbl : (stepO c t o).ball = (stepC (fixC c l) s o).ball := by rw [j2, k2, hm.ball]
    have hpar := hm.par
    have hge := (vO_bd ht n _ j1 jl).1
    by_cases hne0 : (stepC (fixC c l) s o).need = 0
    · have : chF (fixC c l) n (stepC (fixC c l) s o) = pow16 n := by
        cases n with
        | zero => rw [chF, if_pos hne0]; rfl
        | succ m => rw [chF, if_pos hne0]
      rw [this, vO_won (by rw [hnd]; exact hne0), jl]; exact Int.le_refl _
    cases n with
    | zero =>
      rw [chF, if_neg hne0]; exact hge
    | succ m =>
    have hjb : (stepO c t o).ball ≠ c.bows.length := fun e => by unfold leftO at jl; omega
    have hjn : (stepO c t o).need ≠ 0 := by rw [hnd]; exact hne0
    by_cases hw : o.wick = true
    · by_cases hnx : s.nxt = (fixC c l).ord.length
      · have e : (stepC (fixC c l) s o).str = -1 := by unfold stepC; rw [if_pos hw, if_pos hnx]
        rw [chF, if_neg hne0, e, if_pos (by decide)]; exact hge
      · -- the next one comes in
        have hnx2 := hs.nxt
        have hi : s.nxt.toNat < l.length := by omega
        have hx := l1 _ (List.getElem_mem hi)
        obtain ⟨x, hxe⟩ : ∃ x, x = l[s.nxt.toNat] := ⟨_, rfl⟩
        rw [← hxe] at hx
        have hget : l[s.nxt.toNat]? = some x := by rw [hxe]; exact List.getElem?_eq_getElem hi
        have hbx := hm.wait s.nxt.toNat (by omega) x hget
        have hwt : (stepO c t o).wait = t.wait := by unfold stepO; split <;> rfl
        have hvac : vacO (stepO c t o) = true := by
          unfold vacO stepO
          rw [hw]
          split <;> simp
        obtain ⟨q1, q2, q3, q4⟩ := sendO_ok ht j1 hvac (i := x) hx (by rw [hwt]; exact hbx)
        have ql : leftO c (sendO (stepO c t o) x) = m + 1 := by unfold leftO at jl ⊢; rw [q3]; exact jl
        rw [vO_vac ht j1 hjn hjb hvac]
        obtain ⟨xn, hxn⟩ := Int.eq_ofNat_of_zero_le hx.1
        have hle := bestF_le (f := fun i => vO c (sendO (stepO c t o) i)) (w := (stepO c t o).wait) (k := c.ord.length) (i := xn) (by omega) (by rw [hwt, ← hxn]; exact hbx)
        refine Int.le_trans ?_ hle
        show _ ≤ vO c (sendO (stepO c t o) xn)
        rw [← hxn]
        have hst2 : (stepC (fixC c l) s o).nxt = s.nxt + 1 := by unfold stepC; rw [if_pos hw, if_neg hnx]; split <;> rfl
        have hwt2 : (sendO (stepO c t o) x).wait = clrW t.wait x := by rw [← hwt]; unfold sendO; split <;> rfl
        have hsw : ∀ i : Nat, s.nxt + 1 ≤ i → ∀ y, l[i]? = some y → bitW (clrW t.wait x) y = true := fun i hi2 y hy => by
          have hil := (List.getElem?_eq_some_iff.1 hy).1
          have hyy := (List.getElem?_eq_some_iff.1 hy).2
          have hym := l1 y (List.mem_of_getElem? hy)
          have hne : y ≠ x := by rw [hxe, ← hyy]; exact l3 i _ hil hi (by omega)
          have hp := ht.np
          rw [clrW_bit hto.w16 (by omega) (by omega), hm.wait i (by omega) y hy]
          simp [hne]
        refine fix_law ht hl hc' (m + 1) _ _ k1 q1 ⟨by rw [q3, hbl], by rw [q4, hnd], ?_, ?_, ?_⟩ ?_ q2 ql
        · intro hp0
          unfold stepC stepO sendO
          rw [if_pos hw, if_neg hnx, ← esw]
          by_cases hx2 : swapC (fixC c l) (s.ball + 1) o = true
          · rw [if_pos hx2, if_pos hx2]
            dsimp only
            have : ¬ t.par < 0 := by
              unfold vacO at hv
              rw [Bool.or_eq_false_iff, decide_eq_false_iff_not, decide_eq_false_iff_not] at hv
              exact hv.2
            rw [if_neg this]
            exact ⟨hpar.2.1, hpar.2.2⟩
          · rw [if_neg hx2, if_neg hx2, hw]
            dsimp only
            rw [if_pos (by simp)]
            exact ⟨hi, hget⟩
        · unfold stepC stepO sendO
          rw [if_pos hw, if_neg hnx, ← esw]
          by_cases hx2 : swapC (fixC c l) (s.ball + 1) o = true
          · rw [if_pos hx2, if_pos hx2]
            dsimp only
            have : ¬ t.par < 0 := by
              unfold vacO at hv
              rw [Bool.or_eq_false_iff, decide_eq_false_iff_not, decide_eq_false_iff_not] at hv
              exact hv.2
            rw [if_neg this]
            exact ⟨by omega, hi, hget⟩
          · rw [if_neg hx2, if_neg hx2, hw]
            dsimp only
            rw [if_pos (by simp)]
            exact hpar
        · rw [hst2, hwt2]
          exact hsw
        · unfold stepC
          rw [if_pos hw, if_neg hnx]
          split
          · exact hs.par.1
          · dsimp only; omega
    · have hwf : o.wick = false := by simpa using hw
      have hvac : vacO (stepO c t o) = false := by
        unfold vacO at hv ⊢
        unfold stepO
        rw [hwf]
        split
        · rw [Bool.or_comm]; simpa using hv
        · simpa using hv
      have hwt : (stepO c t o).wait = t.wait := by unfold stepO; split <;> rfl
      have hst2 : (stepC (fixC c l) s o).nxt = s.nxt := by unfold stepC; rw [if_neg hw]; split <;> rfl
      refine fix_law ht hl hc' (m + 1) _ _ k1 j1 ⟨hbl, hnd, ?_, ?_, by rw [hst2, hwt]; exact hm.wait⟩ ?_ hvac jl
      · intro hp0
        unfold stepC stepO
        rw [if_neg hw, ← esw, hwf]
        by_cases hx2 : swapC (fixC c l) (s.ball + 1) o = true
        · rw [if_pos hx2, if_pos hx2]
          exact ⟨hpar.2.1, hpar.2.2⟩
        · rw [if_neg hx2, if_neg hx2]
          exact ⟨g1, by simpa using g2⟩
      · unfold stepC stepO
        rw [if_neg hw, ← esw, hwf]
        by_cases hx2 : swapC (fixC c l) (s.ball + 1) o = true
        · rw [if_pos hx2, if_pos hx2]
          exact ⟨h0, g1, by simpa using g2⟩
        · rw [if_neg hx2, if_neg hx2]
          exact hpar
      · unfold stepC
        rw [if_neg hw]
        split
        · exact hs.par.1
        · exact h0
theorem fixed_le {c : Chs} {l : List Int} (h1 : (bestOS c).2.2 = 0) (h2 : (fixedS c l).2 = 0) : (fixedS c l).1 ≤ (bestOS c).2.1 := by
  unfold bestOS at h1 ⊢
  by_cases hc : checkO c ≠ 0
  · rw [if_pos hc] at h1; exact absurd h1 hc
  rw [if_neg hc]
  have hc0 : checkO c = 0 := by omega
  have ht := okT_of hc0
  unfold fixedS at h2 ⊢
  rw [if_neg hc] at h2 ⊢
  by_cases g1 : l.length < 2
  · rw [if_pos g1] at h2; cases h2
  rw [if_neg g1] at h2 ⊢
  by_cases g2 : fixF c.ord.length [] l ≠ 0
  · rw [if_pos g2] at h2; exact absurd h2 g2
  rw [if_neg g2] at h2 ⊢
  by_cases g3 : checkC (fixC c l) ≠ 0
  · rw [if_pos g3] at h2; exact absurd h2 g3
  rw [if_neg g3]
  have hl : fixF c.ord.length [] l = 0 := by omega
  have hc' := checkC_ok (c := fixC c l) (by omega)
  obtain ⟨l1, l2, l3⟩ := fixF_ok hl
  have hn0 : 0 < l.length := by omega
  have hn1 : 1 < l.length := by omega
  have b0 := l1 _ (List.getElem_mem hn0)
  have b1 := l1 _ (List.getElem_mem hn1)
  have hne := l3 0 1 hn0 hn1 (by omega)
  obtain ⟨a, ha⟩ := Int.eq_ofNat_of_zero_le b0.1
  obtain ⟨b, hb⟩ := Int.eq_ofNat_of_zero_le b1.1
  have ha2 : a < c.ord.length := by omega
  have hb2 : b < c.ord.length := by omega
  have hab : a ≠ b := fun e => hne (by rw [ha, hb, e])
  have hle := (allB_ge (fun a b => vO c (openO c a b)) c.ord.length ((0, 0), -1) c.ord.length).2 a b ha2 hb2 hab
  refine Int.le_trans ?_ hle
  show _ ≤ vO c (openO c a b)
  obtain ⟨o1, o2, o3⟩ := openO_ok ht ha2 hb2 hab
  have hlen : (fixC c l).ord.length = l.length := by unfold fixC setC; simp
  have hneed := ht.ok.need
  have hs : OkS (fixC c l) ⟨0, c.need, 0, 1, 2⟩ := ⟨⟨Int.le_refl _, by show (0 : Int) ≤ ((fixC c l).bows.length : Int); omega⟩, ⟨by show 0 ≤ c.need; omega, Int.le_refl _⟩, ⟨Int.le_refl _, by show (2 : Int) ≤ ((fixC c l).ord.length : Int); omega⟩, ⟨by show (-1 : Int) ≤ 0; decide, by show (0 : Int) < 2; decide⟩, ⟨by show (0 : Int) ≤ 1; decide, by show (1 : Int) < 2; decide⟩, by show (0 : Int) ≠ 1; decide, fun h => by cases h⟩
  have hlf : leftC (fixC c l) ⟨0, c.need, 0, 1, 2⟩ = c.bows.length := by unfold leftC fixC setC; simp
  show valS (fixC c l) ⟨0, c.need, 0, 1, 2⟩ ≤ _
  unfold valS
  rw [hlf]
  refine fix_law ht hl hc' c.bows.length _ _ hs o1 ⟨rfl, rfl, fun _ => ⟨hn0, ?_⟩, ⟨by show (0 : Int) ≤ 1; decide, hn1, ?_⟩, fun i hi x hx => ?_⟩ (Int.le_refl _) o2 o3
  · show l[0]? = some (a : Int)
    rw [List.getElem?_eq_getElem hn0, ha]
  · show l[1]? = some (b : Int)
    rw [List.getElem?_eq_getElem hn1, hb]
  · have hil := (List.getElem?_eq_some_iff.1 hx).1
    have hxx := (List.getElem?_eq_some_iff.1 hx).2
    have hi2 : 2 ≤ i := by have : (2 : Int) ≤ (i : Int) := hi; omega
    have bx := l1 x (List.mem_of_getElem? hx)
    obtain ⟨m, rfl⟩ := Int.eq_ofNat_of_zero_le bx.1
    rw [openO_bit ht ha2 hb2 (by omega)]
    have n0 := l3 i 0 hil hn0 (by omega)
    have n1 := l3 i 1 hil hn1 (by omega)
    rw [hxx, ha] at n0
    rw [hxx, hb] at n1
    have e0 : m ≠ a := fun e => n0 (by rw [e])
    have e1 : m ≠ b := fun e => n1 (by rw [e])
    simp [e0, e1]
end Go.Proofs.YtjchapoggmipbaaGreatDoor

namespace Go.Proofs.YtjchapoggmipbaaGreatDoor

theorem ordF_nodup {n : Int} : ∀ {l pre : List Int}, ordF n pre l = 0 → l.Nodup ∧ ∀ b ∈ l, b ∉ pre
  | [], _, _ => ⟨List.nodup_nil, fun _ h => by cases h⟩
  | a :: l, pre, h => by
    rw [ordF] at h
    by_cases h1 : a < 0 ∨ n ≤ a
    · rw [if_pos h1] at h; cases h
    rw [if_neg h1] at h
    by_cases h2 : a ∈ pre
    · rw [if_pos h2] at h; cases h
    rw [if_neg h2] at h
    obtain ⟨k1, k2⟩ := ordF_nodup h
    refine ⟨List.nodup_cons.2 ⟨fun hm => k2 a hm (by simp), k1⟩, fun b hb => ?_⟩
    rcases List.mem_cons.1 hb with rfl | hb
    · exact h2
    · exact fun hp => k2 b hb (by simp [hp])
/-- The chase of two batters. -/
theorem pair_chk {c : Chs} (h : checkC c = 0) {i j : Nat} (hi : i < c.ord.length) (hj : j < c.ord.length) (hne : i ≠ j) : checkC (setC c [c.ord[i], c.ord[j]]) = 0 := by
  have ho := checkC_ok h
  have b1 := ho.ord _ (List.getElem_mem hi)
  have b2 := ho.ord _ (List.getElem_mem hj)
  have hnn : c.ord[i] ≠ c.ord[j] := by
    have hd : c.ord.Nodup := by
      unfold checkC at h
      by_cases h1 : checkM c.mdl ≠ 0
      · rw [if_pos h1] at h; exact absurd h h1
      rw [if_neg h1] at h
      by_cases h2 : c.bows.length = 0
      · rw [if_pos h2] at h; cases h
      rw [if_neg h2] at h
      by_cases h3 : 12 < c.bows.length
      · rw [if_pos h3] at h; cases h
      rw [if_neg h3] at h
      by_cases h4 : plansF c.mdl.bows.length c.bows ≠ 0
      · rw [if_pos h4] at h; exact absurd h h4
      rw [if_neg h4] at h
      by_cases h5 : rangeC c = true
      · rw [if_pos h5] at h; cases h
      rw [if_neg h5] at h
      by_cases h6 : c.ord.length < 2 ∨ 11 < c.ord.length
      · rw [if_pos h6] at h; cases h
      rw [if_neg h6] at h
      exact (ordF_nodup h).1
    exact fun e => hne ((List.getElem_inj hd).1 e)
  unfold checkC at h ⊢
  have e1 : ∀ o, (setC c o).mdl = c.mdl := fun _ => rfl
  have e2 : ∀ o, (setC c o).bows = c.bows := fun _ => rfl
  have e3 : ∀ o, rangeC (setC c o) = rangeC c := fun _ => rfl
  have e4 : ∀ o, (setC c o).ord = o := fun _ => rfl
  simp only [e1, e2, e3, e4]
  by_cases h1 : checkM c.mdl ≠ 0
  · rw [if_pos h1] at h; exact absurd h h1
  rw [if_neg h1] at h ⊢
  by_cases h2 : c.bows.length = 0
  · rw [if_pos h2] at h; cases h
  rw [if_neg h2] at h ⊢
  by_cases h3 : 12 < c.bows.length
  · rw [if_pos h3] at h; cases h
  rw [if_neg h3] at h ⊢
  by_cases h4 : plansF c.mdl.bows.length c.bows ≠ 0
  · rw [if_pos h4] at h; exact absurd h h4
  rw [if_neg h4] at h ⊢
  by_cases h5 : rangeC c = true
  · rw [if_pos h5] at h; cases h
  rw [if_neg h5] at h ⊢
  rw [if_neg (by simp)]
  rw [ordF, if_neg (by omega), if_neg (by simp), ordF, if_neg (by omega), if_neg (by simpa using fun e => hnn e.symm), ordF]
theorem moves_pair {c : Chs} {s : Ost} (ht : OkT c) (h : OkOs c s) (h1 : s.need ≠ 0) (h2 : s.ball ≠ c.bows.length) (hv : vacO s = false) {x y : Int}
    (hx : c.ord[s.str.toNat]? = some x) (hy : c.ord[s.par.toNat]? = some y) : movesC (setC c [x, y]) ⟨s.ball, s.need, 0, 1, 2⟩ = (mvO c s, 0) ∧ (mvO c s).length ≤ 16 := by
  obtain ⟨i, j, b, w, a1, a2, a3, a4, a5, a6, a7, a8, a9, a10, a11, a12⟩ := mvO_at ht.ok h h2 hv
  have k1 := h.ball; have k2 := h.need; have k3 := h.str; have k4 := h.par; have k5 := h.ne
  have hv2 := hv
  unfold vacO at hv2
  rw [Bool.or_eq_false_iff, decide_eq_false_iff_not, decide_eq_false_iff_not] at hv2
  have g1 : s.str.toNat < c.ord.length := by omega
  have g2 : s.par.toNat < c.ord.length := by omega
  have hk := pair_chk ht.chk g1 g2 (by omega)
  rw [List.getElem?_eq_getElem g1] at hx
  rw [List.getElem?_eq_getElem g2] at hy
  cases hx; cases hy
  refine ⟨?_, (checkD_ok a12).len.2⟩
  have hc0 : chstC (setC c [c.ord[s.str.toNat], c.ord[s.par.toNat]]) ⟨s.ball, s.need, 0, 1, 2⟩ = 0 := by
    unfold chstC
    rw [if_neg (by omega)]
    unfold stateC outC outC.inC
    have e1 : (setC c [c.ord[s.str.toNat], c.ord[s.par.toNat]]).bows = c.bows := rfl
    have e2 : (setC c [c.ord[s.str.toNat], c.ord[s.par.toNat]]).need = c.need := rfl
    have e3 : (setC c [c.ord[s.str.toNat], c.ord[s.par.toNat]]).ord.length = 2 := rfl
    simp only [e1, e2, e3]
    simp [k1, k2]
  have hs1 : stC (setC c [c.ord[s.str.toNat], c.ord[s.par.toNat]]) ⟨s.ball, s.need, 0, 1, 2⟩ = 1 := by
    unfold stC
    have e1 : (setC c [c.ord[s.str.toNat], c.ord[s.par.toNat]]).bows = c.bows := rfl
    simp only [e1]
    rw [if_neg h1, if_neg (by omega)]
  unfold movesC
  rw [if_neg (by omega), if_neg (by omega)]
  congr 1
  unfold mvO mvC cstO
  have e1 : (setC c [c.ord[s.str.toNat], c.ord[s.par.toNat]]).bows = c.bows := rfl
  have e2 : (setC c [c.ord[s.str.toNat], c.ord[s.par.toNat]]).mdl = c.mdl := rfl
  have e3 : (setC c [c.ord[s.str.toNat], c.ord[s.par.toNat]]).ord = [c.ord[s.str.toNat], c.ord[s.par.toNat]] := rfl
  simp only [e1, e2, e3]
  rw [List.getElem?_eq_getElem g1]
  rfl
/-- The best openers' value is attained. -/
theorem rowB_is (f : Int → Int → Int) (a : Nat) (r : (Int × Int) × Int) : ∀ k, rowB f a k r = r ∨ ∃ b : Nat, b < k ∧ a ≠ b ∧ rowB f a k r = (((a : Int), (b : Int)), f a b)
  | 0 => .inl rfl
  | k + 1 => by
    have ih := rowB_is f a r k
    rw [rowB]
    by_cases e : a = k
    · rw [if_pos e]
      rcases ih with h | ⟨b, h1, h2, h3⟩
      · exact .inl h
      · exact .inr ⟨b, by omega, h2, h3⟩
    · rw [if_neg e]
      by_cases hlt : (rowB f a k r).2 < f a k
      · rw [if_pos hlt]; exact .inr ⟨k, by omega, e, rfl⟩
      · rw [if_neg hlt]
        rcases ih with h | ⟨b, h1, h2, h3⟩
        · exact .inl h
        · exact .inr ⟨b, by omega, h2, h3⟩
theorem allB_is (f : Int → Int → Int) (k : Nat) (r : (Int × Int) × Int) : ∀ n, allB f k n r = r ∨ ∃ a b : Nat, a < n ∧ b < k ∧ a ≠ b ∧ allB f k n r = (((a : Int), (b : Int)), f a b)
  | 0 => .inl rfl
  | n + 1 => by
    rw [allB]
    rcases rowB_is f n (allB f k n r) k with h | ⟨b, h1, h2, h3⟩
    · rw [h]
      rcases allB_is f k r n with h | ⟨a, b, h1, h2, h3, h4⟩
      · exact .inl h
      · exact .inr ⟨a, b, by omega, h2, h3, h4⟩
    · exact .inr ⟨n, b, by omega, h1, h2, h3⟩
theorem bestS_is {c : Chs} (ht : OkT c) (p : Int × Int) : ∃ a b : Nat, a < c.ord.length ∧ b < c.ord.length ∧ a ≠ b ∧ bestS c p = (((a : Int), (b : Int)), vO c (openO c a b)) := by
  rcases allB_is (fun a b => vO c (openO c a b)) c.ord.length (p, -1) c.ord.length with h | h
  · exfalso
    have hp := ht.np
    have h1 := (allB_ge (fun a b => vO c (openO c a b)) c.ord.length (p, -1) c.ord.length).2 0 1 (by omega) (by omega) (by omega)
    rw [h] at h1
    obtain ⟨k1, _, _⟩ := openO_ok ht (a := 0) (b := 1) (by omega) (by omega) (by omega)
    have := (vO_bd ht _ _ k1 rfl).1
    have h2 : vO c (openO c ((0 : Nat) : Int) ((1 : Nat) : Int)) ≤ -1 := h1
    omega
  · exact h
end Go.Proofs.YtjchapoggmipbaaGreatDoor

namespace Go.Proofs.YtjchapoggmipbaaGreatDoor
open Go.RowKit

set_option maxRecDepth 100000 in
theorem or_within (n lo hi : Int) (b : Bool) (hb : outC.inC n lo hi = b) (w : World) : Calls Tryz.prog 104 #[.int .i64 n, .int .i64 lo, .int .i64 hi] w fun e w' => e = .returned (.bool b) ∧ w' = w := by
  have HB := Lib.hid hb.symm
  unfold outC.inC at HB
  clear hb
  by_cases h1 : lo ≤ n
  · by_cases h2 : n ≤ hi
    · go_enter Tryz.func104, Tryz.ntmps104
      go_wp2
      go_ret
      exact ⟨ret_b (by rw [HB.out]; simp [h1, h2]), rfl⟩
    · go_enter Tryz.func104, Tryz.ntmps104
      go_wp2
      go_ret
      exact ⟨ret_b (by rw [HB.out]; simp [h1, h2]), rfl⟩
  · go_enter Tryz.func104, Tryz.ntmps104
    go_wp2
    go_ret
    exact ⟨ret_b (by rw [HB.out]; simp; omega), rfl⟩
set_option maxRecDepth 100000 in
set_option maxHeartbeats 1000000 in
theorem or_vacant (s : Ost) (w : World) : Calls Tryz.prog 55 #[osV s] w fun e w' => e = .returned (.bool (vacO s)) ∧ Below w.heap.size w w' := by
  obtain ⟨a, b, c, d, wt⟩ := s
  obtain ⟨z, hz⟩ : ∃ z, z = vacO ⟨a, b, c, d, wt⟩ := ⟨_, rfl⟩
  rw [← hz]
  unfold vacO at hz
  unfold osV
  dsimp only at hz ⊢
  by_cases h1 : c < 0
  · have HZ := Lib.hid (show z = true by rw [hz]; simp [h1])
    clear hz
    go_enter Tryz.func55, Tryz.ntmps55
    go_wp2
    go_ret
    exact ⟨ret_b HZ.out.symm, Below.alloc (Below.refl _ _) (Nat.le_refl _) _⟩
  by_cases h2 : d < 0
  · have HZ := Lib.hid (show z = true by rw [hz]; simp [h2])
    clear hz
    go_enter Tryz.func55, Tryz.ntmps55
    go_wp2
    go_ret
    exact ⟨ret_b HZ.out.symm, Below.alloc (Below.refl _ _) (Nat.le_refl _) _⟩
  · have HZ := Lib.hid (show z = false by rw [hz]; simp; omega)
    clear hz
    go_enter Tryz.func55, Tryz.ntmps55
    go_wp2
    go_ret
    exact ⟨ret_b HZ.out.symm, Below.alloc (Below.refl _ _) (Nat.le_refl _) _⟩
set_option maxRecDepth 100000 in
set_option maxHeartbeats 1000000 in
theorem or_ended (c : Chs) (s : Ost) (bv wv pv ov : Value) (w : World) (h : ChAt w (· < w.heap.size) bv wv pv ov c) : Calls Tryz.prog 56 #[chV c bv wv pv ov, osV s] w fun e w' => e = .returned (.bool (endO c s)) ∧ Below w.heap.size w w' := by
  unfold chV osV
  obtain ⟨ball, need, str, par, wait⟩ := s
  obtain ⟨A, ca, rfl, hc1, hc2⟩ := h.mdl.bat.shape
  obtain ⟨A1, ca1, rfl, hc3, hc4⟩ := h.mdl.bow.shape
  obtain ⟨A2, ca2, rfl, hc5, hc6⟩ := h.bow.shape
  obtain ⟨A3, ca3, rfl, hc7, hc8⟩ := h.ord.shape
  have HX := Lib.hid (OSB.new w c (.slice A c.mdl.bats.length ca) (.slice A1 c.mdl.bows.length ca1) (.slice A2 c.bows.length ca2) (.slice A3 c.ord.length ca3) ⟨ball, need, str, par, wait⟩)
  obtain ⟨z, hz⟩ : ∃ z, z = endO c ⟨ball, need, str, par, wait⟩ := ⟨_, rfl⟩
  rw [← hz]
  unfold endO at hz
  dsimp only at hz ⊢
  by_cases h1 : need = 0
  · have HZ := Lib.hid (show z = true by rw [hz]; simp [h1])
    have e1 : (need == 0) = true := beq_iff_eq.2 h1
    clear hz h h1
    go_enter Tryz.func56, Tryz.ntmps56
    go_wp2
    go_ret
    exact ⟨ret_b HZ.out.symm, HX.out.bel⟩
  have e1 : (need == 0) = false := beq_eq_false_iff_ne.2 h1
  by_cases h2 : ball = c.bows.length
  · have HZ := Lib.hid (show z = true by rw [hz]; simp [h2])
    have e2 : (ball == (c.bows.length : Int)) = true := beq_iff_eq.2 h2
    clear hz h h1 h2
    go_enter Tryz.func56, Tryz.ntmps56
    go_wp2
    go_ret
    exact ⟨ret_b HZ.out.symm, HX.out.bel⟩
  · have HZ := Lib.hid (show z = false by rw [hz]; simp [h1, h2])
    have e2 : (ball == (c.bows.length : Int)) = false := beq_eq_false_iff_ne.2 h2
    clear hz h h1 h2
    go_enter Tryz.func56, Tryz.ntmps56
    go_wp2
    go_ret
    exact ⟨ret_b HZ.out.symm, HX.out.bel⟩
set_option maxRecDepth 100000 in
set_option maxHeartbeats 20000000 in
theorem or_checkState (c : Chs) (s : Ost) (bv wv pv ov : Value) (w : World) (h : ChAt w (· < w.heap.size) bv wv pv ov c) (ht : OkT c) (hw : 0 ≤ s.wait ∧ s.wait < 65536) :
    Calls Tryz.prog 81 #[chV c bv wv pv ov, osV s] w fun e w' => e = .returned (.int .i64 (stateO c s)) ∧ Below w.heap.size w w' := by
  unfold chV osV
  obtain ⟨ball, need, str, par, wait⟩ := s
  obtain ⟨A, ca, rfl, hc1, hc2⟩ := h.mdl.bat.shape
  obtain ⟨A1, ca1, rfl, hc3, hc4⟩ := h.mdl.bow.shape
  obtain ⟨A2, ca2, rfl, hc5, hc6⟩ := h.bow.shape
  obtain ⟨A3, ca3, rfl, hc7, hc8⟩ := h.ord.shape
  have HX := Lib.hid (OSB.new w c (.slice A c.mdl.bats.length ca) (.slice A1 c.mdl.bows.length ca1) (.slice A2 c.bows.length ca2) (.slice A3 c.ord.length ca3) ⟨ball, need, str, par, wait⟩)
  have HM := Lib.hid h
  obtain ⟨z, hz⟩ : ∃ z, z = stateO c ⟨ball, need, str, par, wait⟩ := ⟨_, rfl⟩
  rw [← hz]
  have hnp := ht.np
  have hnb := ht.nb
  dsimp only at hw
  have hbad : outO c ⟨ball, need, str, par, wait⟩ = true → z = 2 := fun h => by rw [hz]; unfold stateO; rw [if_pos h]
  have harg : outO c ⟨ball, need, str, par, wait⟩ = false → str = par → z = 1 := fun h h2 => by rw [hz]; unfold stateO; rw [if_neg (by simp [h]), if_pos h2]
  have hex : outO c ⟨ball, need, str, par, wait⟩ = false → str ≠ par → bothO ⟨ball, need, str, par, wait⟩ = true → z = 7 := fun h h2 h3 => by rw [hz]; unfold stateO; rw [if_neg (by simp [h]), if_neg h2, if_pos h3]
  have hok : outO c ⟨ball, need, str, par, wait⟩ = false → str ≠ par → bothO ⟨ball, need, str, par, wait⟩ = false → z = 0 := fun h h2 h3 => by rw [hz]; unfold stateO; rw [if_neg (by simp [h]), if_neg h2, if_neg (by simp [h3])]
  obtain ⟨hw1, hw2⟩ := hw
  obtain ⟨hnp1, hnp2⟩ := hnp
  clear h hz ht
  cases b0 : outC.inC ball 0 c.bows.length
  · have HZ := Lib.hid (hbad (by unfold outO; simp [b0]))
    clear hbad harg hex hok
    go_enter Tryz.func81, Tryz.ntmps81
    go_wp2_with (go_at_call 104; refine (or_within _ _ _ _ (by first | exact b0 | exact b1 | exact b2 | exact b3) _).mono ?_; rintro e w2 ⟨rfl, rfl⟩)
    go_ret
    exact ⟨ret_i HZ.out.symm, HX.out.bel⟩
  cases b1 : outC.inC need 0 c.need
  · have HZ := Lib.hid (hbad (by unfold outO; simp [b0, b1]))
    clear hbad harg hex hok
    go_enter Tryz.func81, Tryz.ntmps81
    go_wp2_with (go_at_call 104; refine (or_within _ _ _ _ (by first | exact b0 | exact b1 | exact b2 | exact b3) _).mono ?_; rintro e w2 ⟨rfl, rfl⟩)
    go_ret
    exact ⟨ret_i HZ.out.symm, HX.out.bel⟩
  cases b2 : outC.inC str (-1) (c.ord.length - 1)
  · have HZ := Lib.hid (hbad (by unfold outO; simp [b0, b1, b2]))
    clear hbad harg hex hok
    go_enter Tryz.func81, Tryz.ntmps81
    go_wp2_with (go_at_call 104; refine (or_within _ _ _ _ (by first | exact b0 | exact b1 | exact b2 | exact b3) _).mono ?_; rintro e w2 ⟨rfl, rfl⟩)
    go_ret
    exact ⟨ret_i HZ.out.symm, HX.out.bel⟩
  cases b3 : outC.inC par (-1) (c.ord.length - 1)
  · have HZ := Lib.hid (hbad (by unfold outO; simp [b0, b1, b2, b3]))
    clear hbad harg hex hok
    go_enter Tryz.func81, Tryz.ntmps81
    go_wp2_with (go_at_call 104; refine (or_within _ _ _ _ (by first | exact b0 | exact b1 | exact b2 | exact b3) _).mono ?_; rintro e w2 ⟨rfl, rfl⟩)
    go_ret
    exact ⟨ret_i HZ.out.symm, HX.out.bel⟩
  have p0 := (show 0 ≤ ball ∧ ball ≤ c.bows.length by have := b0; unfold outC.inC at this; simpa using this)
  obtain ⟨p0a, p0b⟩ := p0
  have p1 := (show 0 ≤ need ∧ need ≤ c.need by have := b1; unfold outC.inC at this; simpa using this)
  obtain ⟨p1a, p1b⟩ := p1
  have p2 := (show -1 ≤ str ∧ str ≤ c.ord.length - 1 by have := b2; unfold outC.inC at this; simpa using this)
  obtain ⟨p2a, p2b⟩ := p2
  have p3 := (show -1 ≤ par ∧ par ≤ c.ord.length - 1 by have := b3; unfold outC.inC at this; simpa using this)
  obtain ⟨p3a, p3b⟩ := p3
  cases b4 : (wait / 2 ^ c.ord.length == 0)
  · have HZ := Lib.hid (hbad (by unfold outO shrW; simp [b0, b1, b2, b3]; simpa using b4))
    have b5 : (wait / 2 ^ c.ord.length != 0) = true := by simp only [bne, b4]; rfl
    clear hbad harg hex hok
    go_enter Tryz.func81, Tryz.ntmps81
    go_wp2_with (go_at_call 104; refine (or_within _ _ _ _ (by first | exact b0 | exact b1 | exact b2 | exact b3) _).mono ?_; rintro e w2 ⟨rfl, rfl⟩)
    go_ret
    exact ⟨ret_i HZ.out.symm, HX.out.bel⟩
  have b5 : (wait / 2 ^ c.ord.length != 0) = false := by simp only [bne, b4]; rfl
  have ho : outO c ⟨ball, need, str, par, wait⟩ = false := by unfold outO shrW; simp [b0, b1, b2, b3]; simpa using b4
  by_cases h1 : str = par
  · have HZ := Lib.hid (harg ho h1)
    have e1 : (str == par) = true := beq_iff_eq.2 h1
    have h1' := Lib.hid h1
    clear hbad harg hex hok ho h1
    go_enter Tryz.func81, Tryz.ntmps81
    go_wp2_with (go_at_call 104; refine (or_within _ _ _ _ (by first | exact b0 | exact b1 | exact b2 | exact b3) _).mono ?_; rintro e w2 ⟨rfl, rfl⟩)
    go_ret
    exact ⟨ret_i HZ.out.symm, HX.out.bel⟩
  have e1 : (str == par) = false := beq_eq_false_iff_ne.2 h1
  have hbo : bothO ⟨ball, need, str, par, wait⟩ = ((decide (0 ≤ str) && bitW wait str) || (decide (0 ≤ par) && bitW wait par)) := rfl
  by_cases d1 : 0 ≤ str
  · cases c1 : bitW wait str
    · have f1 : (bits .and .u16 (wait / 2 ^ str.toNat) 1 == 1) = false := c1
      by_cases d2 : 0 ≤ par
      · cases c2 : bitW wait par
        · have f2 : (bits .and .u16 (wait / 2 ^ par.toNat) 1 == 1) = false := c2
          have HZ := Lib.hid (hok ho h1 (by rw [hbo]; simp [c1, c2]))
          clear hbad harg hex hok ho h1 hbo
          go_enter Tryz.func81, Tryz.ntmps81
          have tok0 : True := trivial
          go_wp2_with (go_at_call 104; refine (or_within _ _ _ _ (by first | exact b0 | exact b1 | exact b2 | exact b3) _).mono ?_; rintro e w2 ⟨rfl, rfl⟩)
          go_ret
          first | exact ⟨ret_i HZ.out.symm, HX3.out.bel⟩ | exact ⟨ret_i HZ.out.symm, HX2.out.bel⟩ | exact ⟨ret_i HZ.out.symm, HX.out.bel⟩
        · have f2 : (bits .and .u16 (wait / 2 ^ par.toNat) 1 == 1) = true := c2
          have HZ := Lib.hid (hex ho h1 (by rw [hbo]; simp [c1, c2, d2]))
          clear hbad harg hex hok ho h1 hbo
          go_enter Tryz.func81, Tryz.ntmps81
          have tok0 : True := trivial
          go_wp2_with (go_at_call 104; refine (or_within _ _ _ _ (by first | exact b0 | exact b1 | exact b2 | exact b3) _).mono ?_; rintro e w2 ⟨rfl, rfl⟩)
          go_ret
          first | exact ⟨ret_i HZ.out.symm, HX3.out.bel⟩ | exact ⟨ret_i HZ.out.symm, HX2.out.bel⟩ | exact ⟨ret_i HZ.out.symm, HX.out.bel⟩
      · skip
        have HZ := Lib.hid (hok ho h1 (by rw [hbo]; simp [c1, d2]))
        clear hbad harg hex hok ho h1 hbo
        go_enter Tryz.func81, Tryz.ntmps81
        have tok0 : True := trivial
        go_wp2_with (go_at_call 104; refine (or_within _ _ _ _ (by first | exact b0 | exact b1 | exact b2 | exact b3) _).mono ?_; rintro e w2 ⟨rfl, rfl⟩)
        go_ret
        first | exact ⟨ret_i HZ.out.symm, HX3.out.bel⟩ | exact ⟨ret_i HZ.out.symm, HX2.out.bel⟩ | exact ⟨ret_i HZ.out.symm, HX.out.bel⟩
    · have f1 : (bits .and .u16 (wait / 2 ^ str.toNat) 1 == 1) = true := c1
      have HZ := Lib.hid (hex ho h1 (by rw [hbo]; simp [c1, d1]))
      clear hbad harg hex hok ho h1 hbo
      go_enter Tryz.func81, Tryz.ntmps81
      have tok0 : True := trivial
      go_wp2_with (go_at_call 104; refine (or_within _ _ _ _ (by first | exact b0 | exact b1 | exact b2 | exact b3) _).mono ?_; rintro e w2 ⟨rfl, rfl⟩)
      go_ret
      first | exact ⟨ret_i HZ.out.symm, HX3.out.bel⟩ | exact ⟨ret_i HZ.out.symm, HX2.out.bel⟩ | exact ⟨ret_i HZ.out.symm, HX.out.bel⟩
  · by_cases d2 : 0 ≤ par
    · cases c2 : bitW wait par
      · have f2 : (bits .and .u16 (wait / 2 ^ par.toNat) 1 == 1) = false := c2
        have HZ := Lib.hid (hok ho h1 (by rw [hbo]; simp [c2, d1]))
        clear hbad harg hex hok ho h1 hbo
        go_enter Tryz.func81, Tryz.ntmps81
        have tok0 : True := trivial
        go_wp2_with (go_at_call 104; refine (or_within _ _ _ _ (by first | exact b0 | exact b1 | exact b2 | exact b3) _).mono ?_; rintro e w2 ⟨rfl, rfl⟩)
        go_ret
        first | exact ⟨ret_i HZ.out.symm, HX3.out.bel⟩ | exact ⟨ret_i HZ.out.symm, HX2.out.bel⟩ | exact ⟨ret_i HZ.out.symm, HX.out.bel⟩
      · have f2 : (bits .and .u16 (wait / 2 ^ par.toNat) 1 == 1) = true := c2
        have HZ := Lib.hid (hex ho h1 (by rw [hbo]; simp [c2, d1, d2]))
        clear hbad harg hex hok ho h1 hbo
        go_enter Tryz.func81, Tryz.ntmps81
        have tok0 : True := trivial
        go_wp2_with (go_at_call 104; refine (or_within _ _ _ _ (by first | exact b0 | exact b1 | exact b2 | exact b3) _).mono ?_; rintro e w2 ⟨rfl, rfl⟩)
        go_ret
        first | exact ⟨ret_i HZ.out.symm, HX3.out.bel⟩ | exact ⟨ret_i HZ.out.symm, HX2.out.bel⟩ | exact ⟨ret_i HZ.out.symm, HX.out.bel⟩
    · exfalso; omega
set_option maxRecDepth 100000 in
set_option maxHeartbeats 4000000 in
theorem or_CheckState (c : Chs) (s : Ost) (bv wv pv ov : Value) (w : World) (h : ChAt w (· < w.heap.size) bv wv pv ov c) (hw : 0 ≤ s.wait ∧ s.wait < 65536) :
    Calls Tryz.prog 54 #[chV c bv wv pv ov, osV s] w fun e w' => e = .returned (.int .i64 (chstO c s)) ∧ Below w.heap.size w w' := by
  unfold chV osV
  obtain ⟨ball, need, str, par, wait⟩ := s
  obtain ⟨A, ca, rfl, hc1, hc2⟩ := h.mdl.bat.shape
  obtain ⟨A1, ca1, rfl, hc3, hc4⟩ := h.mdl.bow.shape
  obtain ⟨A2, ca2, rfl, hc5, hc6⟩ := h.bow.shape
  obtain ⟨A3, ca3, rfl, hc7, hc8⟩ := h.ord.shape
  have hx := OSB.new w c (.slice A c.mdl.bats.length ca) (.slice A1 c.mdl.bows.length ca1) (.slice A2 c.bows.length ca2) (.slice A3 c.ord.length ca3) ⟨ball, need, str, par, wait⟩
  have HX := Lib.hid hx
  have HM := Lib.hid h
  obtain ⟨z, hz⟩ : ∃ z, z = chstO c ⟨ball, need, str, par, wait⟩ := ⟨_, rfl⟩
  rw [← hz]
  unfold chstO at hz
  have k1 := fun W (hW : Below w.heap.size w W) => or_Check c _ _ _ _ W (HM.out.below hW)
  have k2 := fun (h0 : checkO c = 0) W (hW : Below w.heap.size w W) => or_checkState c ⟨ball, need, str, par, wait⟩ _ _ _ _ W (HM.out.below hW) (okT_of h0) hw
  unfold chV osV at k2
  unfold chV at k1
  dsimp only at k2
  obtain ⟨u, hu⟩ : ∃ u, u = checkO c := ⟨_, rfl⟩
  obtain ⟨v, hv⟩ : ∃ v, v = stateO c ⟨ball, need, str, par, wait⟩ := ⟨_, rfl⟩
  rw [← hu] at k1 k2 hz
  rw [← hv] at k2 hz
  have K1 := Lib.hid k1
  have tok0 : True := trivial
  clear k1 hu hv h hx hw
  by_cases h0 : u = 0
  · rw [if_neg (by omega)] at hz
    have HZ := Lib.hid hz
    have K2 := Lib.hid (k2 h0)
    have eu : (u != 0) = false := by simp [h0]
    clear hz h0 k2
    go_enter Tryz.func54, Tryz.ntmps54
    go_wp2_with (first
      | (clear tok0; go_at_call 20; refine (K1.out _ HX.out.bel).mono ?_; rintro e w2 ⟨rfl, hb2⟩; have HX2 := Lib.hid (HX.out.below hb2); obtain ⟨x0, x1, x2, x3, x4, x5, x6, y0, y1, y2, y3, y4⟩ := HX2.out.cells; clear hb2; have tok1 : True := trivial)
      | (clear tok1; go_at_call 81; refine (K2.out _ HX2.out.bel).mono ?_; rintro e w3 ⟨rfl, hb3⟩; have HX3 := Lib.hid (HX2.out.below hb3); clear hb3; have tok2 : True := trivial))
    go_ret
    exact ⟨ret_i HZ.out.symm, HX3.out.bel⟩
  · rw [if_pos h0] at hz
    have HZ := Lib.hid hz
    have eu : (u != 0) = true := by simp [h0]
    clear hz h0 k2
    go_enter Tryz.func54, Tryz.ntmps54
    go_wp2_with (clear tok0; go_at_call 20; refine (K1.out _ HX.out.bel).mono ?_; rintro e w2 ⟨rfl, hb2⟩; have HX2 := Lib.hid (HX.out.below hb2); obtain ⟨x0, x1, x2, x3, x4, x5, x6, y0, y1, y2, y3, y4⟩ := HX2.out.cells; clear hb2; have tok1 : True := trivial)
    go_ret
    exact ⟨ret_i HZ.out.symm, HX2.out.bel⟩
end Go.Proofs.YtjchapoggmipbaaGreatDoor

namespace Go.Proofs.YtjchapoggmipbaaGreatDoor
open Go.RowKit

theorem Blk.put5 {w : World} {g : Nat} {t : TypeId} {a b c d e : Value} (h : Blk w g t #[a, b, c, d, e]) (x0 x1 x2 x3 x4 : Value) :
    Blk (((((w.setCell ⟨g, 0, none⟩ x0).setCell ⟨g, 1, none⟩ x1).setCell ⟨g, 2, none⟩ x2).setCell ⟨g, 3, none⟩ x3).setCell ⟨g, 4, none⟩ x4) g t #[x0, x1, x2, x3, x4] :=
  ((((h.set_ 0 x0).set_ 1 x1).set_ 2 x2).set_ 3 x3).set_ 4 x4
theorem below_set5 {B : Nat} {a w : World} (h : Below B a w) {g : Nat} (hg : B ≤ g) (x0 x1 x2 x3 x4 : Value) :
    Below B a (((((w.setCell ⟨g, 0, none⟩ x0).setCell ⟨g, 1, none⟩ x1).setCell ⟨g, 2, none⟩ x2).setCell ⟨g, 3, none⟩ x3).setCell ⟨g, 4, none⟩ x4) :=
  Below.setCell (Below.setCell (Below.setCell (Below.setCell (Below.setCell h hg x0) hg x1) hg x2) hg x3) hg x4
set_option maxRecDepth 100000 in
set_option maxHeartbeats 4000000 in
theorem ch44_moves (c : Chs) (s : Cst) (bv wv pv ov : Value) (w : World) (h : ChAt w (· < w.heap.size) bv wv pv ov c) (hc : OkC c) (hs : OkS c s) (h1 : stC c s = 1) :
    Calls Tryz.prog 60 #[chV c bv wv pv ov, stV s] w fun e w' => ∃ A n k, e = .returned (.slice A n k) ∧ Below w.heap.size w w' ∧ Sl 3 elOtc w' (fun b => w.heap.size ≤ b ∧ b < w'.heap.size) (.slice A n k) (mvC c s) := by
  unfold chV stV
  obtain ⟨ball, need, str, par, nxt⟩ := s
  obtain ⟨A, ca, rfl, hc1, hc2⟩ := h.mdl.bat.shape
  obtain ⟨A1, ca1, rfl, hc3, hc4⟩ := h.mdl.bow.shape
  obtain ⟨A2, ca2, rfl, hc5, hc6⟩ := h.bow.shape
  obtain ⟨A3, ca3, rfl, hc7, hc8⟩ := h.ord.shape
  have hx := CSB.new w c (.slice A c.mdl.bats.length ca) (.slice A1 c.mdl.bows.length ca1) (.slice A2 c.bows.length ca2) (.slice A3 c.ord.length ca3) ⟨ball, need, str, par, nxt⟩
  have HX := Lib.hid hx
  have HM := Lib.hid h
  obtain ⟨i, j, bt, bw, e1, e2, s0, s1, i0, i1, j0, j1, f1, f2, hsh, hq5⟩ := mvC_at hc hs h1
  have sn := hs.str.2
  have sx := hs.nxt.2
  have sb := hs.ball.1
  dsimp only at e1 e2 s0 s1 sn sx sb
  obtain ⟨a, rfl⟩ : ∃ a : Nat, str = (a : Int) := ⟨str.toNat, by omega⟩
  obtain ⟨e, rfl⟩ : ∃ a : Nat, ball = (a : Int) := ⟨ball.toNat, by omega⟩
  obtain ⟨i, rfl⟩ : ∃ a : Nat, i = (a : Int) := ⟨i.toNat, by omega⟩
  obtain ⟨j, rfl⟩ : ∃ a : Nat, j = (a : Int) := ⟨j.toNat, by omega⟩
  rw [Int.toNat_natCast] at e1 e2 f1 f2
  have la : a < c.ord.length := by omega
  have le : e < c.bows.length := by omega
  have li : i < c.mdl.bats.length := by omega
  have lj : j < c.mdl.bows.length := by omega
  have ga : c.ord[a] = (i : Int) := by rw [List.getElem?_eq_getElem la] at e1; exact Option.some.inj e1
  have ge : c.bows[e] = (j : Int) := by rw [List.getElem?_eq_getElem le] at e2; exact Option.some.inj e2
  have gi : c.mdl.bats[i] = bt := by rw [List.getElem?_eq_getElem li] at f1; exact Option.some.inj f1
  have gj : c.mdl.bows[j] = bw := by rw [List.getElem?_eq_getElem lj] at f2; exact Option.some.inj f2
  obtain ⟨b0, o0, rfl, hb0, z0⟩ := int_at h.ord la
  obtain ⟨b1, o1, rfl, hb1, z1⟩ := int_at h.bow le
  obtain ⟨b2, o2, v, rfl, hb2, hq3, z2, hv, hq1⟩ := bat_at h.mdl.bat li
  obtain ⟨b3, o3, rfl, hb3, hq4, z3, hq2⟩ := bow_at h.mdl.bow lj
  rw [ga] at z0
  rw [ge] at z1
  rw [gi] at hv
  rw [gj] at z3
  have ks := fun W (hW : Below w.heap.size w W) => m_Shift bt.dist v bw.shift W (hv.keep elOtc_good (Same.of_below hW) fun b h => Nat.lt_of_lt_of_le h hW.size)
  rw [hsh] at ks
  obtain ⟨n, hn⟩ : ∃ n, n = bw.shift := ⟨_, rfl⟩
  rw [← hn] at ks z3
  obtain ⟨l, hl⟩ : ∃ l, l = mvC c ⟨(e : Int), need, (a : Int), par, nxt⟩ := ⟨_, rfl⟩
  rw [← hl] at ks ⊢
  have KS := Lib.hid ks
  obtain ⟨W, hW⟩ : ∃ W, W = (w.alloc (.cells (chC c (.slice (some ⟨b2, o2, none⟩) c.mdl.bats.length ca) (.slice (some ⟨b3, o3, none⟩) c.mdl.bows.length ca1) (.slice (some ⟨b1, o1, none⟩) c.bows.length ca2) (.slice (some ⟨b0, o0, none⟩) c.ord.length ca3)) 77)).alloc (.cells #[.int .i64 (e : Int), .int .i64 need, .int .i64 (a : Int), .int .i64 par, .int .i64 nxt] 79) := ⟨_, rfl⟩
  have hx2 : CSB w W w.heap.size c (.slice (some ⟨b2, o2, none⟩) c.mdl.bats.length ca) (.slice (some ⟨b3, o3, none⟩) c.mdl.bows.length ca1) (.slice (some ⟨b1, o1, none⟩) c.bows.length ca2) (.slice (some ⟨b0, o0, none⟩) c.ord.length ca3) ⟨(e : Int), need, (a : Int), par, nxt⟩ := by rw [hW]; exact hx
  have y0 : W.cell? ⟨b0, o0 + a, none⟩ = some (.int .i64 (i : Int)) := (hx2.bel.cell (p := ⟨b0, o0 + a, none⟩) hb0).trans z0
  have y1 : W.cell? ⟨b1, o1 + e, none⟩ = some (.int .i64 (j : Int)) := (hx2.bel.cell (p := ⟨b1, o1 + e, none⟩) hb1).trans z1
  have y2 : W.cell? ⟨b2, o2 + i * 2 + 1, none⟩ = some v := (hx2.bel.cell (p := ⟨b2, o2 + i * 2 + 1, none⟩) hb2).trans z2
  have y3 : W.cell? ⟨b3, o3 + j * 2 + 1, none⟩ = some (.int .i64 n) := (hx2.bel.cell (p := ⟨b3, o3 + j * 2 + 1, none⟩) hb3).trans z3
  have HX2 := Lib.hid hx2
  have Z0 := Lib.hid z0
  have Z1 := Lib.hid z1
  have Z2 := Lib.hid z2
  have Z3 := Lib.hid z3
  have B0 := Lib.hid hb0
  have B1 := Lib.hid hb1
  have B2 := Lib.hid hb2
  have B3 := Lib.hid hb3
  have HW := Lib.hid hW
  have p1 : (0 : Int) ≤ (a : Int) := by omega
  have p2 : (a : Int) < (c.ord.length : Int) := by omega
  have p3 : (0 : Int) ≤ (e : Int) := by omega
  have p4 : (e : Int) < (c.bows.length : Int) := by omega
  have p5 : (0 : Int) ≤ (i : Int) := by omega
  have p6 : (i : Int) < (c.mdl.bats.length : Int) := by omega
  have p7 : (0 : Int) ≤ (j : Int) := by omega
  have p8 : (j : Int) < (c.mdl.bows.length : Int) := by omega
  clear hq1 hq2 hq3 hq4 hq5 ks hn hl hsh hv z0 z1 z2 z3 hb0 hb1 hb2 hb3 ga ge gi gj la le li lj e1 e2 f1 f2 s0 s1 i0 i1 j0 j1 sn sx sb h1 hs hc hx h HM HX hx2 hW y0 y1 y2 y3
  go_enter Tryz.func60, Tryz.ntmps60
  go_wp2
  unfold chC at HW
  rw [← HW.out]
  clear HW
  have y0 : W.cell? ⟨b0, o0 + a, none⟩ = some (.int .i64 (i : Int)) := (HX2.out.bel.cell (p := ⟨b0, o0 + a, none⟩) B0.out).trans Z0.out
  have y1 : W.cell? ⟨b1, o1 + e, none⟩ = some (.int .i64 (j : Int)) := (HX2.out.bel.cell (p := ⟨b1, o1 + e, none⟩) B1.out).trans Z1.out
  have y2 : W.cell? ⟨b2, o2 + i * 2 + 1, none⟩ = some v := (HX2.out.bel.cell (p := ⟨b2, o2 + i * 2 + 1, none⟩) B2.out).trans Z2.out
  have y3 : W.cell? ⟨b3, o3 + j * 2 + 1, none⟩ = some (.int .i64 n) := (HX2.out.bel.cell (p := ⟨b3, o3 + j * 2 + 1, none⟩) B3.out).trans Z3.out
  obtain ⟨x0, x1, x2, x3, x4, x5, x6, t0, t1, t2, t3, t4⟩ := HX2.out.cells
  dsimp only at t0 t1 t2 t3 t4
  have HXD := Lib.hid HX2.out.drew
  go_region_held3 (fun w' => w'.cell? ⟨w.heap.size, 0, none⟩ = some (.slice (some ⟨b2, o2, none⟩) c.mdl.bats.length ca) ∧ w'.cell? ⟨w.heap.size, 1, none⟩ = some (.slice (some ⟨b3, o3, none⟩) c.mdl.bows.length ca1) ∧ w'.cell? ⟨w.heap.size, 2, none⟩ = some (.slice (some ⟨b1, o1, none⟩) c.bows.length ca2) ∧ w'.cell? ⟨w.heap.size, 6, none⟩ = some (.slice (some ⟨b0, o0, none⟩) c.ord.length ca3) ∧ w'.cell? ⟨w.heap.size + 1, 0, none⟩ = some (.int .i64 (e : Int)) ∧ w'.cell? ⟨w.heap.size + 1, 2, none⟩ = some (.int .i64 (a : Int)) ∧ w'.cell? ⟨b0, o0 + a, none⟩ = some (.int .i64 (i : Int)) ∧ w'.cell? ⟨b1, o1 + e, none⟩ = some (.int .i64 (j : Int)) ∧ w'.cell? ⟨b2, o2 + i * 2 + 1, none⟩ = some v ∧ w'.cell? ⟨b3, o3 + j * 2 + 1, none⟩ = some (.int .i64 n)) (first | exact ⟨x0, x1, x2, x6, t0, t2, u0, u1, u2, u3⟩ | exact ⟨x0, x1, x2, x6, t0, t2, y0, y1, y2, y3⟩ | go_keep) ((go_at_call 83; refine (KS.out _ HXD.out.bel).mono ?_; rintro e4 w4 ⟨v4, rfl, hs4, hb4⟩; obtain ⟨A4, c4, rfl, hc41, hc42⟩ := hs4.shape; have HX4 := Lib.hid (HXD.out.below hb4); obtain ⟨x0, x1, x2, x3, x4, x5, x6, t0, t1, t2, t3, t4⟩ := HX4.out.cells; dsimp only at t0 t1 t2 t3 t4; have u0 := (hb4.cell (p := ⟨b0, o0 + a, none⟩) (Nat.lt_of_lt_of_le B0.out HXD.out.bel.size)).trans y0; have u1 := (hb4.cell (p := ⟨b1, o1 + e, none⟩) (Nat.lt_of_lt_of_le B1.out HXD.out.bel.size)).trans y1; have u2 := (hb4.cell (p := ⟨b2, o2 + i * 2 + 1, none⟩) (Nat.lt_of_lt_of_le B2.out HXD.out.bel.size)).trans y2; have u3 := (hb4.cell (p := ⟨b3, o3 + j * 2 + 1, none⟩) (Nat.lt_of_lt_of_le B3.out HXD.out.bel.size)).trans y3; have HS4 := Lib.hid hs4; clear hs4 hb4))
  all_goals go_wp2
  go_ret
  exact ⟨_, _, _, rfl, HX4.out.bel, HS4.out.keep elOtc_good (Same.refl _ _) fun b h => ⟨Nat.le_trans HXD.out.bel.size h.1, h.2⟩⟩
set_option maxRecDepth 100000 in
set_option maxHeartbeats 4000000 in
theorem ch44_Moves (c : Chs) (s : Cst) (bv wv pv ov : Value) (w : World) (h : ChAt w (· < w.heap.size) bv wv pv ov c) :
    Calls Tryz.prog 25 #[chV c bv wv pv ov, stV s] w (OtcPost w (movesC c s)) := by
  unfold chV stV
  obtain ⟨ball, need, str, par, nxt⟩ := s
  obtain ⟨A, ca, rfl, hc1, hc2⟩ := h.mdl.bat.shape
  obtain ⟨A1, ca1, rfl, hc3, hc4⟩ := h.mdl.bow.shape
  obtain ⟨A2, ca2, rfl, hc5, hc6⟩ := h.bow.shape
  obtain ⟨A3, ca3, rfl, hc7, hc8⟩ := h.ord.shape
  have hx := CSB.new w c (.slice A c.mdl.bats.length ca) (.slice A1 c.mdl.bows.length ca1) (.slice A2 c.bows.length ca2) (.slice A3 c.ord.length ca3) ⟨ball, need, str, par, nxt⟩
  have HX := Lib.hid hx
  have HM := Lib.hid h
  obtain ⟨z, hz⟩ : ∃ z, z = movesC c ⟨ball, need, str, par, nxt⟩ := ⟨_, rfl⟩
  rw [← hz]
  unfold movesC at hz
  have k1 := fun W (hW : Below w.heap.size w W) => ch44_CheckState c ⟨ball, need, str, par, nxt⟩ _ _ _ _ W (HM.out.below hW)
  have k2 := fun (hs : OkS c ⟨ball, need, str, par, nxt⟩) W (hW : Below w.heap.size w W) => ch44_status c ⟨ball, need, str, par, nxt⟩ _ _ _ _ W (HM.out.below hW) hs
  have k3 := fun (hc : OkC c) (hs : OkS c ⟨ball, need, str, par, nxt⟩) (h1 : stC c ⟨ball, need, str, par, nxt⟩ = 1) W (hW : Below w.heap.size w W) => ch44_moves c ⟨ball, need, str, par, nxt⟩ _ _ _ _ W (HM.out.below hW) hc hs h1
  have hok := fun h => (chst_ok (c := c) (s := ⟨ball, need, str, par, nxt⟩) h).2
  unfold chV stV at k1 k2 k3
  dsimp only at k1 k2 k3
  obtain ⟨u, hu⟩ : ∃ u, u = chstC c ⟨ball, need, str, par, nxt⟩ := ⟨_, rfl⟩
  obtain ⟨v, hv⟩ : ∃ v, v = stC c ⟨ball, need, str, par, nxt⟩ := ⟨_, rfl⟩
  rw [← hu] at k1 hz hok
  rw [← hv] at k2 k3 hz
  have K1 := Lib.hid k1
  have tok0 : True := trivial
  clear k1 hu h hx
  by_cases h0 : u = 0
  · rw [if_neg (by omega)] at hz
    have K2 := Lib.hid (k2 (hok h0).2)
    have eu : (u != 0) = false := by simp [h0]
    by_cases hv1 : v = 1
    · rw [if_neg (by omega)] at hz
      have K3 := Lib.hid (k3 (hok h0).1 (hok h0).2 hv1)
      have ev : (v != 1) = false := by simp [hv1]
      have HZ := Lib.hid hz
      clear hz h0 hok k2 k3 hv1 hv
      go_enter Tryz.func25, Tryz.ntmps25
      go_wp2_with (first
        | (clear tok0; go_at_call 58; refine (K1.out _ HX.out.bel).mono ?_; rintro e w2 ⟨rfl, hb2⟩; have HX2 := Lib.hid (HX.out.below hb2); obtain ⟨x0, x1, x2, x3, x4, x5, x6, y0, y1, y2, y3, y4⟩ := HX2.out.cells; clear hb2; have tok1 : True := trivial)
        | (clear tok1; go_at_call 59; refine (K2.out _ HX2.out.bel).mono ?_; rintro e w3 ⟨rfl, hb3⟩; have HX3 := Lib.hid (HX2.out.below hb3); obtain ⟨x0, x1, x2, x3, x4, x5, x6, y0, y1, y2, y3, y4⟩ := HX3.out.cells; clear hb3; have tok2 : True := trivial)
        | (clear tok2; go_at_call 60; refine (K3.out _ HX3.out.bel).mono ?_; rintro e w4 ⟨A4, n4, k4, rfl, hb4, hs4⟩; have HS4 := Lib.hid hs4; have HX4 := Lib.hid (HX3.out.below hb4); clear hb4 hs4; have tok3 : True := trivial))
      go_ret2
      rw [HZ.out]
      exact ⟨_, rfl, HS4.out.keep elOtc_good (Same.refl _ _) fun b h => ⟨Nat.le_trans HX3.out.bel.size h.1, h.2⟩, HX4.out.bel⟩
    · rw [if_pos hv1] at hz
      have ev : (v != 1) = true := by simp [hv1]
      have HZ := Lib.hid hz
      clear hz h0 hok k2 k3 hv1 hv
      go_enter Tryz.func25, Tryz.ntmps25
      go_wp2_with (first
        | (clear tok0; go_at_call 58; refine (K1.out _ HX.out.bel).mono ?_; rintro e w2 ⟨rfl, hb2⟩; have HX2 := Lib.hid (HX.out.below hb2); obtain ⟨x0, x1, x2, x3, x4, x5, x6, y0, y1, y2, y3, y4⟩ := HX2.out.cells; clear hb2; have tok1 : True := trivial)
        | (clear tok1; go_at_call 59; refine (K2.out _ HX2.out.bel).mono ?_; rintro e w3 ⟨rfl, hb3⟩; have HX3 := Lib.hid (HX2.out.below hb3); obtain ⟨x0, x1, x2, x3, x4, x5, x6, y0, y1, y2, y3, y4⟩ := HX3.out.cells; clear hb3; have tok2 : True := trivial))
      go_ret2
      exact otc_nil HX3.out.bel HZ.out
  · rw [if_pos h0] at hz
    have HZ := Lib.hid hz
    have eu : (u != 0) = true := by simp [h0]
    clear hz h0 hok k2 k3 hv
    go_enter Tryz.func25, Tryz.ntmps25
    go_wp2_with (clear tok0; go_at_call 58; refine (K1.out _ HX.out.bel).mono ?_; rintro e w2 ⟨rfl, hb2⟩; have HX2 := Lib.hid (HX.out.below hb2); obtain ⟨x0, x1, x2, x3, x4, x5, x6, y0, y1, y2, y3, y4⟩ := HX2.out.cells; clear hb2; have tok1 : True := trivial)
    go_ret2
    exact otc_nil HX2.out.bel HZ.out
theorem ch44_start_ret {R' : Ending → World → Prop} {a : Act} {w : World} {x0 x1 x2 x3 x4 v : Value} {g : Nat} (h2 : a.tmps[2]? = some (.pointer (some ⟨g, 0, none⟩))) (h3 : a.tmps[3]? = some v) (hb : Blk w g 79 #[x0, x1, x2, x3, x4])
    (hd : a.defers = []) (hR : R' (.returned (.tuple #[.agg #[x0, x1, x2, x3, x4], v])) w) : bodyPost Tryz.prog Tryz.f28 R' .ret a w := by
  have r0 := hb.cell 0
  have r1 := hb.cell 1
  have r2 := hb.cell 2
  have r3 := hb.cell 3
  have r4 := hb.cell 4
  simp only [List.getElem?_toArray, List.getElem?_cons_zero, List.getElem?_cons_succ] at r0 r1 r2 r3 r4
  refine bodyPost_ret (v := .tuple #[.agg #[x0, x1, x2, x3, x4], v]) (by simp [results, Tryz.results28, go_sem, h2, h3, r0, r1, r2, r3, r4]) hd hR
set_option maxRecDepth 100000 in
set_option maxHeartbeats 4000000 in
theorem ch44_Start (c : Chs) (bv wv pv ov : Value) (w : World) (h : ChAt w (· < w.heap.size) bv wv pv ov c) :
    Calls Tryz.prog 28 #[chV c bv wv pv ov] w fun e w' => e = .returned (.tuple #[stV (startC c).1, .int .i64 (startC c).2]) ∧ Below w.heap.size w w' := by
  unfold chV
  obtain ⟨z, hz⟩ : ∃ z, z = startC c := ⟨_, rfl⟩
  rw [← hz]
  unfold startC at hz
  have hx := ChB.new w c bv wv pv ov
  have k1 := fun W (hW : Below w.heap.size w W) => ch44_Check c _ _ _ _ W (h.below hW)
  unfold chV at k1
  obtain ⟨u, hu⟩ : ∃ u, u = checkC c := ⟨_, rfl⟩
  rw [← hu] at k1 hz
  obtain ⟨A, ca, rfl, hc1, hc2⟩ := h.mdl.bat.shape
  obtain ⟨A1, ca1, rfl, hc3, hc4⟩ := h.mdl.bow.shape
  obtain ⟨A2, ca2, rfl, hc5, hc6⟩ := h.bow.shape
  obtain ⟨A3, ca3, rfl, hc7, hc8⟩ := h.ord.shape
  have HXR := Lib.hid (⟨hx.alloc (.cells #[.int .i64 0, .int .i64 0, .int .i64 0, .int .i64 0, .int .i64 0] 79), by have := Blk.new (w.alloc (.cells #[.slice A c.mdl.bats.length ca, .slice A1 c.mdl.bows.length ca1, .slice A2 c.bows.length ca2, .int .i64 c.over, .int .i64 c.done, .int .i64 c.need, .slice A3 c.ord.length ca3] 77)) 79 #[.int .i64 0, .int .i64 0, .int .i64 0, .int .i64 0, .int .i64 0]; rw [World.size_alloc] at this; exact this⟩ : ChB w ((w.alloc (.cells #[.slice A c.mdl.bats.length ca, .slice A1 c.mdl.bows.length ca1, .slice A2 c.bows.length ca2, .int .i64 c.over, .int .i64 c.done, .int .i64 c.need, .slice A3 c.ord.length ca3] 77)).alloc (.cells #[.int .i64 0, .int .i64 0, .int .i64 0, .int .i64 0, .int .i64 0] 79)) w.heap.size c (.slice A c.mdl.bats.length ca) (.slice A1 c.mdl.bows.length ca1) (.slice A2 c.bows.length ca2) (.slice A3 c.ord.length ca3) ∧ Blk ((w.alloc (.cells #[.slice A c.mdl.bats.length ca, .slice A1 c.mdl.bows.length ca1, .slice A2 c.bows.length ca2, .int .i64 c.over, .int .i64 c.done, .int .i64 c.need, .slice A3 c.ord.length ca3] 77)).alloc (.cells #[.int .i64 0, .int .i64 0, .int .i64 0, .int .i64 0, .int .i64 0] 79)) (w.heap.size + 1) 79 #[.int .i64 0, .int .i64 0, .int .i64 0, .int .i64 0, .int .i64 0])
  have K1 := Lib.hid k1
  clear k1 hu h hx
  by_cases h0 : u = 0
  · rw [if_neg (by omega)] at hz
    have HZ := Lib.hid hz
    have eu : (u != 0) = false := by simp [h0]
    clear hz h0
    go_enter Tryz.func28, Tryz.ntmps28
    go_wp2_with (go_at_call 51; refine (K1.out _ HXR.out.1.bel).mono ?_; rintro e w2 ⟨rfl, hb2⟩; have HX2 := Lib.hid (HXR.out.1.below hb2); have HR2 := Lib.hid (HXR.out.2.below hb2 HXR.out.2.lt); obtain ⟨x0, x1, x2, x3, x4, x5, x6⟩ := HX2.out.cells; have y0 := HR2.out.cell 0; have y1 := HR2.out.cell 1; have y2 := HR2.out.cell 2; have y3 := HR2.out.cell 3; have y4 := HR2.out.cell 4; have g0 := HR2.out.frozen 0; have g1 := HR2.out.frozen 1; have g2 := HR2.out.frozen 2; have g3 := HR2.out.frozen 3; have g4 := HR2.out.frozen 4; simp only [List.getElem?_toArray, List.getElem?_cons_zero, List.getElem?_cons_succ] at y0 y1 y2 y3 y4; clear hb2)
    refine ch44_start_ret rfl rfl (HR2.out.put5 _ _ _ _ _) rfl ⟨by rw [HZ.out]; rfl, ?_⟩
    exact below_set5 HX2.out.bel (by omega) _ _ _ _ _
  · rw [if_pos h0] at hz
    have HZ := Lib.hid hz
    have eu : (u != 0) = true := by simp [h0]
    clear hz h0
    go_enter Tryz.func28, Tryz.ntmps28
    go_wp2_with (go_at_call 51; refine (K1.out _ HXR.out.1.bel).mono ?_; rintro e w2 ⟨rfl, hb2⟩; have HX2 := Lib.hid (HXR.out.1.below hb2); have HR2 := Lib.hid (HXR.out.2.below hb2 HXR.out.2.lt); obtain ⟨x0, x1, x2, x3, x4, x5, x6⟩ := HX2.out.cells; have y0 := HR2.out.cell 0; have y1 := HR2.out.cell 1; have y2 := HR2.out.cell 2; have y3 := HR2.out.cell 3; have y4 := HR2.out.cell 4; have g0 := HR2.out.frozen 0; have g1 := HR2.out.frozen 1; have g2 := HR2.out.frozen 2; have g3 := HR2.out.frozen 3; have g4 := HR2.out.frozen 4; simp only [List.getElem?_toArray, List.getElem?_cons_zero, List.getElem?_cons_succ] at y0 y1 y2 y3 y4; clear hb2)
    refine ch44_start_ret rfl rfl (HR2.out.put5 _ _ _ _ _) rfl ⟨by rw [HZ.out]; rfl, ?_⟩
    exact below_set5 HX2.out.bel (by omega) _ _ _ _ _
end Go.Proofs.YtjchapoggmipbaaGreatDoor

namespace Go.Proofs.YtjchapoggmipbaaGreatDoor
open Go.RowKit

theorem Blk.drewNB {w : World} {g : Nat} {t : TypeId} {cs : Array Value} (h : Blk w g t cs) (n : Nat) : Blk (w.drewN n) g t cs := h
theorem blk_r (w : World) (o1 o2 o3 : Obj) : Blk ((((w.alloc o1).alloc o2).alloc o3).alloc (.cells #[.int .i64 0, .int .i64 0, .int .i64 0, .int .i64 0, .int .i64 0] 79)) (w.heap.size + 1 + 1 + 1) 79 #[.int .i64 0, .int .i64 0, .int .i64 0, .int .i64 0, .int .i64 0] := by
  have h := Blk.new (((w.alloc o1).alloc o2).alloc o3) 79 #[.int .i64 0, .int .i64 0, .int .i64 0, .int .i64 0, .int .i64 0]
  rw [World.size_alloc, World.size_alloc, World.size_alloc] at h
  exact h
theorem blk_rv (w : World) (o1 o2 o3 : Obj) (x0 x1 x2 x3 x4 : Value) : Blk ((((w.alloc o1).alloc o2).alloc o3).alloc (.cells #[x0, x1, x2, x3, x4] 79)) (w.heap.size + 1 + 1 + 1) 79 #[x0, x1, x2, x3, x4] := by
  have h := Blk.new (((w.alloc o1).alloc o2).alloc o3) 79 #[x0, x1, x2, x3, x4]
  rw [World.size_alloc, World.size_alloc, World.size_alloc] at h
  exact h
theorem ne31 (n : Nat) : n + 1 + 1 + 1 ≠ n + 1 := by omega
theorem le3 (n : Nat) : n ≤ n + 1 + 1 + 1 := by omega
theorem le1 (n : Nat) : n ≤ n + 1 := by omega
theorem blk_far1 {W : World} {n : Nat} {t : TypeId} {cs : Array Value} (h : Blk W (n + 1 + 1 + 1) t cs) (i : Nat) (u : Value) : Blk (W.setCell ⟨n + 1, i, none⟩ u) (n + 1 + 1 + 1) t cs := h.far (ne31 n) u
theorem below_far1 {W a : World} {n : Nat} (h : Below n a W) (i : Nat) (u : Value) : Below n a (W.setCell ⟨n + 1, i, none⟩ u) := Below.setCell h (le1 n) u
theorem below_r (w : World) (o1 o2 o3 o4 : Obj) : Below w.heap.size w ((((w.alloc o1).alloc o2).alloc o3).alloc o4) :=
  Below.alloc (Below.alloc (Below.alloc (Below.alloc (Below.refl _ _) (Nat.le_refl _) o1) (by simp) o2) (by simp; omega) o3) (by simp; omega) o4
theorem ch44_step_ret {R' : Ending → World → Prop} {a : Act} {w : World} {x0 x1 x2 x3 x4 : Value} {g : Nat} (h2 : a.tmps[6]? = some (.pointer (some ⟨g, 0, none⟩))) (hb : Blk w g 79 #[x0, x1, x2, x3, x4])
    (hd : a.defers = []) (hR : R' (.returned (.agg #[x0, x1, x2, x3, x4])) w) : bodyPost Tryz.prog Tryz.f85 R' .ret a w := by
  have r0 := hb.cell 0
  have r1 := hb.cell 1
  have r2 := hb.cell 2
  have r3 := hb.cell 3
  have r4 := hb.cell 4
  simp only [List.getElem?_toArray, List.getElem?_cons_zero, List.getElem?_cons_succ] at r0 r1 r2 r3 r4
  refine bodyPost_ret (v := .agg #[x0, x1, x2, x3, x4]) (by simp [results, Tryz.results85, go_sem, h2, r0, r1, r2, r3, r4]) hd hR
set_option maxRecDepth 100000 in
set_option maxHeartbeats 4000000 in
theorem ch44_step (c : Chs) (s : Cst) (o : Otc) (A A1 A2 A3 : Option Addr) (ca ca1 ca2 ca3 : Nat) (w : World) (hc : OkC c) (hs : OkS c s) (h1 : stC c s = 1) (hr : 0 ≤ o.runs ∧ o.runs ≤ 7) :
    Calls Tryz.prog 85 #[.agg #[.slice A c.mdl.bats.length ca, .slice A1 c.mdl.bows.length ca1, .slice A2 c.bows.length ca2, .int .i64 c.over, .int .i64 c.done, .int .i64 c.need, .slice A3 c.ord.length ca3], stV s, .agg #[.int .i64 o.runs, .bool o.wick, .int .i64 o.wt]] w fun e w' => e = .returned (stV (stepC c s o)) ∧ Below w.heap.size w w' := by
  obtain ⟨z, hz⟩ : ∃ z, z = stepC c s o := ⟨_, rfl⟩
  rw [← hz]
  unfold stepC at hz
  obtain ⟨ball, need, str, par, nxt⟩ := s
  obtain ⟨pr, pw, pt⟩ := o
  unfold stV
  dsimp only at hr hz ⊢
  have b1 := hs.ball
  have b2 := hs.need
  have b3 := hs.nxt
  have b4 := hs.str
  have b5 := hs.par
  have b6 := hc.nb
  have b7 := hc.need
  have b8 := hc.no
  have b9 := hc.over
  have b10 := hc.done
  have hst := (left_run hs h1).2.1
  dsimp only at b1 b2 b3 b4 b5 hst
  obtain ⟨m, hm⟩ : ∃ m, max (need - pr) 0 = m := ⟨_, rfl⟩
  have hm2 : max 0 (need - pr) = m := by rw [← hm]; omega
  have hm3 : 0 ≤ m ∧ m ≤ 84 := by omega
  rw [hm] at hz
  have hsw : swapC c (ball + 1) ⟨pr, pw, pt⟩ = (decide (pr % 2 = 1) != decide ((c.done + (ball + 1)) % c.over = 0)) := rfl
  have e1 : (pr % 2 == 1) = decide (pr % 2 = 1) := by by_cases h : pr % 2 = 1 <;> simp [h]
  have e2 : ((c.done + (ball + 1)) % c.over == 0) = decide ((c.done + (ball + 1)) % c.over = 0) := by by_cases h : (c.done + (ball + 1)) % c.over = 0 <;> simp [h]
  rw [hsw] at hz
  obtain ⟨x1, hx1⟩ : ∃ x, x = decide (pr % 2 = 1) := ⟨_, rfl⟩
  obtain ⟨x2, hx2⟩ : ∃ x, x = decide ((c.done + (ball + 1)) % c.over = 0) := ⟨_, rfl⟩
  rw [← hx1] at e1 hz
  rw [← hx2] at e2 hz
  obtain ⟨over, hov⟩ : ∃ x, x = c.over := ⟨_, rfl⟩
  obtain ⟨done, hdo⟩ : ∃ x, x = c.done := ⟨_, rfl⟩
  rw [← hov, ← hdo] at e2 ⊢
  rw [← hov] at b9
  rw [← hdo, ← hov] at b10
  obtain ⟨c1, c2⟩ := b1
  obtain ⟨c3, c4⟩ := b2
  obtain ⟨c5, c6⟩ := b3
  obtain ⟨c7, c8⟩ := b4
  obtain ⟨c9, c10⟩ := b5
  obtain ⟨c11, c12⟩ := b6
  obtain ⟨c13, c14⟩ := b7
  obtain ⟨c15, c16⟩ := b8
  obtain ⟨c17, c18⟩ := b9
  obtain ⟨c19, c20⟩ := b10
  obtain ⟨c21, c22⟩ := hr
  obtain ⟨c23, c24⟩ := hm3
  have d0 : (str == -1) = false := beq_eq_false_iff_ne.2 (by omega)
  clear hx1 hx2 hov hdo hsw hs hc h1
  cases pw
  · rw [if_neg (by simp)] at hz
    cases x1 <;> cases x2 <;> simp only [bne_self_eq_false, if_true, if_false, Bool.false_eq_true, Bool.bne_false, Bool.bne_true, Bool.not_false, Bool.not_true] at hz
    all_goals
      have HZ := Lib.hid hz
      clear hz
      go_enter Tryz.func85, Tryz.ntmps85
      go_wp2
      go_quiet (fail)
      go_wp2
      apply ch44_step_ret (g := w.heap.size + 1 + 1 + 1) (h2 := rfl) (hd := rfl)
      case hb =>
        first
          | with_reducible exact blk_rv _ _ _ _ _ _ _ _ _
          | (with_reducible apply Blk.put5
             repeat (first | with_reducible refine Blk.drewNB ?_ _ | with_reducible refine blk_far1 ?_ _ _)
             with_reducible exact blk_r _ _ _ _)
      case hR =>
        refine ⟨by rw [HZ.out], ?_⟩
        first
          | with_reducible exact below_r _ _ _ _ _
          | (with_reducible refine below_set5 ?_ (le3 _) _ _ _ _ _
             repeat (first | with_reducible refine Below.drewN_ ?_ _ | with_reducible refine below_far1 ?_ _ _)
             with_reducible exact below_r _ _ _ _ _)
  · rw [if_pos rfl] at hz
    by_cases hn : nxt = (c.ord.length : Int)
    · rw [if_pos hn] at hz
      have en : (nxt == (c.ord.length : Int)) = true := beq_iff_eq.2 hn
      have en2 : ¬ nxt < (c.ord.length : Int) := by omega
      have HZ := Lib.hid hz
      clear hz hn
      cases x1 <;> cases x2
      all_goals
        go_enter Tryz.func85, Tryz.ntmps85
        go_wp2
        apply ch44_step_ret (g := w.heap.size + 1 + 1 + 1) (h2 := rfl) (hd := rfl)
        case hb =>
          first
            | with_reducible exact blk_rv _ _ _ _ _ _ _ _ _
            | (with_reducible apply Blk.put5
               repeat (first | with_reducible refine Blk.drewNB ?_ _ | with_reducible refine blk_far1 ?_ _ _)
               with_reducible exact blk_r _ _ _ _)
        case hR =>
          refine ⟨by rw [HZ.out], ?_⟩
          first
            | with_reducible exact below_r _ _ _ _ _
            | (with_reducible refine below_set5 ?_ (le3 _) _ _ _ _ _
               repeat (first | with_reducible refine Below.drewN_ ?_ _ | with_reducible refine below_far1 ?_ _ _)
               with_reducible exact below_r _ _ _ _ _)
    · rw [if_neg hn] at hz
      have en : (nxt == (c.ord.length : Int)) = false := beq_eq_false_iff_ne.2 hn
      have en2 : nxt < (c.ord.length : Int) := by omega
      cases x1 <;> cases x2 <;> simp only [bne_self_eq_false, if_true, if_false, Bool.false_eq_true, Bool.bne_false, Bool.bne_true, Bool.not_false, Bool.not_true] at hz
      all_goals
        have HZ := Lib.hid hz
        clear hz hn
        go_enter Tryz.func85, Tryz.ntmps85
        go_wp2
        go_quiet (fail)
        go_wp2
        apply ch44_step_ret (g := w.heap.size + 1 + 1 + 1) (h2 := rfl) (hd := rfl)
        case hb =>
          first
            | with_reducible exact blk_rv _ _ _ _ _ _ _ _ _
            | (with_reducible apply Blk.put5
               repeat (first | with_reducible refine Blk.drewNB ?_ _ | with_reducible refine blk_far1 ?_ _ _)
               with_reducible exact blk_r _ _ _ _)
        case hR =>
          refine ⟨by rw [HZ.out], ?_⟩
          first
            | with_reducible exact below_r _ _ _ _ _
            | (with_reducible refine below_set5 ?_ (le3 _) _ _ _ _ _
               repeat (first | with_reducible refine Below.drewN_ ?_ _ | with_reducible refine below_far1 ?_ _ _)
               with_reducible exact below_r _ _ _ _ _)

end Go.Proofs.YtjchapoggmipbaaGreatDoor

namespace Go.Proofs.YtjchapoggmipbaaGreatDoor
open Go.RowKit

set_option maxRecDepth 100000 in
set_option maxHeartbeats 4000000 in
theorem ch44_power (c : Chs) (s : Cst) (bv wv pv ov : Value) (w : World) (h : ChAt w (· < w.heap.size) bv wv pv ov c) (hc : OkC c) (hs : OkS c s) :
    Calls Tryz.prog 84 #[chV c bv wv pv ov, stV s] w fun e w' => e = .returned (.int .i64 (pow16 (leftC c s))) ∧ Below w.heap.size w w' := by
  unfold chV stV
  obtain ⟨ball, need, str, par, nxt⟩ := s
  obtain ⟨A, ca, rfl, hc1, hc2⟩ := h.mdl.bat.shape
  obtain ⟨A1, ca1, rfl, hc3, hc4⟩ := h.mdl.bow.shape
  obtain ⟨A2, ca2, rfl, hc5, hc6⟩ := h.bow.shape
  obtain ⟨A3, ca3, rfl, hc7, hc8⟩ := h.ord.shape
  have hx := CSB.new w c (.slice A c.mdl.bats.length ca) (.slice A1 c.mdl.bows.length ca1) (.slice A2 c.bows.length ca2) (.slice A3 c.ord.length ca3) ⟨ball, need, str, par, nxt⟩
  have HX := Lib.hid hx
  have HM := Lib.hid h
  obtain ⟨n, hn⟩ : ∃ n, n = leftC c ⟨ball, need, str, par, nxt⟩ := ⟨_, rfl⟩
  have hn12 := left_le hc hs
  rw [← hn] at hn12
  have hb := hs.ball
  dsimp only at hb
  have hbn : (c.bows.length : Int) - ball = (n : Int) := by rw [hn]; unfold leftC; dsimp only; omega
  rw [← hn]
  obtain ⟨z, hz⟩ : ∃ z, z = pow16 n := ⟨_, rfl⟩
  rw [← hz]
  have hnb := hc.nb
  obtain ⟨hb1, hb2⟩ := hb
  obtain ⟨hnb1, hnb2⟩ := hnb
  clear hs hc hn hx h
  have hcase : n = 0 ∨ n = 1 ∨ n = 2 ∨ n = 3 ∨ n = 4 ∨ n = 5 ∨ n = 6 ∨ n = 7 ∨ n = 8 ∨ n = 9 ∨ n = 10 ∨ n = 11 ∨ n = 12 := by omega
  clear hn12
  rcases hcase with rfl | rfl | rfl | rfl | rfl | rfl | rfl | rfl | rfl | rfl | rfl | rfl | rfl
  all_goals
    have HZ := Lib.hid hz
    have hq := hbn
    simp only [Int.natCast_zero, Int.natCast_one, Int.cast_ofNat_Int] at hq
    clear hz hbn
    go_enter Tryz.func84, Tryz.ntmps84
    go_wp2
    go_ret
    exact ⟨ret_i (by rw [HZ.out]; first | rfl | decide), HX.out.bel⟩
end Go.Proofs.YtjchapoggmipbaaGreatDoor

namespace Go.Proofs.YtjchapoggmipbaaGreatDoor
open Go.RowKit

theorem oblk_r (w : World) (o1 o2 o3 : Obj) : Blk ((((w.alloc o1).alloc o2).alloc o3).alloc (.cells #[.int .i64 0, .int .i64 0, .int .i64 0, .int .i64 0, .int .u16 0] 47)) (w.heap.size + 1 + 1 + 1) 47 #[.int .i64 0, .int .i64 0, .int .i64 0, .int .i64 0, .int .u16 0] := by
  have h := Blk.new (((w.alloc o1).alloc o2).alloc o3) 47 #[.int .i64 0, .int .i64 0, .int .i64 0, .int .i64 0, .int .u16 0]
  rwa [World.size_alloc, World.size_alloc, World.size_alloc] at h
theorem oblk_rv (w : World) (o1 o2 o3 : Obj) (x0 x1 x2 x3 x4 : Value) : Blk ((((w.alloc o1).alloc o2).alloc o3).alloc (.cells #[x0, x1, x2, x3, x4] 47)) (w.heap.size + 1 + 1 + 1) 47 #[x0, x1, x2, x3, x4] := by
  have h := Blk.new (((w.alloc o1).alloc o2).alloc o3) 47 #[x0, x1, x2, x3, x4]
  rwa [World.size_alloc, World.size_alloc, World.size_alloc] at h
theorem or_send_ret {R' : Ending → World → Prop} {a : Act} {w : World} {x0 x1 x2 x3 x4 : Value} {g : Nat} (h2 : a.tmps[4]? = some (.pointer (some ⟨g, 0, none⟩))) (hb : Blk w g 47 #[x0, x1, x2, x3, x4])
    (hd : a.defers = []) (hR : R' (.returned (.agg #[x0, x1, x2, x3, x4])) w) : bodyPost Tryz.prog Tryz.f57 R' .ret a w := by
  have r0 := hb.cell 0
  have r1 := hb.cell 1
  have r2 := hb.cell 2
  have r3 := hb.cell 3
  have r4 := hb.cell 4
  simp only [List.getElem?_toArray, List.getElem?_cons_zero, List.getElem?_cons_succ] at r0 r1 r2 r3 r4
  refine bodyPost_ret (v := .agg #[x0, x1, x2, x3, x4]) (by simp [results, Tryz.results57, go_sem, h2, r0, r1, r2, r3, r4]) hd hR
set_option maxRecDepth 100000 in
set_option maxHeartbeats 4000000 in
theorem or_send (s : Ost) (i : Int) (w : World) (hw : 0 ≤ s.wait ∧ s.wait < 65536) (hi : 0 ≤ i ∧ i < 16) :
    Calls Tryz.prog 57 #[osV s, .int .i64 i] w fun e w' => e = .returned (osV (sendO s i)) ∧ Below w.heap.size w w' := by
  obtain ⟨z, hz⟩ : ∃ z, z = sendO s i := ⟨_, rfl⟩
  rw [← hz]
  unfold sendO clrW at hz
  obtain ⟨a, b, c, d, wt⟩ := s
  obtain ⟨hi1, hi2⟩ := hi
  obtain ⟨hw1, hw2⟩ := hw
  unfold osV
  dsimp only at hw1 hw2 hz ⊢
  by_cases h1 : c < 0
  · rw [if_pos h1] at hz
    have HZ := Lib.hid hz
    clear hz
    go_enter Tryz.func57, Tryz.ntmps57
    go_wp2
    all_goals go_region
    all_goals go_wp2
    all_goals
      apply or_send_ret (g := w.heap.size + 1) (h2 := rfl) (hd := rfl)
      case hb =>
        repeat (with_reducible refine Blk.drewNB ?_ _)
        first | exact blk_two _ _ _ _ | exact (blk_two _ _ _ _).drew
      case hR =>
        refine ⟨by rw [HZ.out] <;> rfl, ?_⟩
        repeat (with_reducible refine Below.drewN_ ?_ _)
        first | exact below_two _ _ _ | exact Below.drew (below_two _ _ _)
  · rw [if_neg h1] at hz
    have HZ := Lib.hid hz
    clear hz
    go_enter Tryz.func57, Tryz.ntmps57
    go_wp2
    all_goals go_region
    all_goals go_wp2
    all_goals
      apply or_send_ret (g := w.heap.size + 1) (h2 := rfl) (hd := rfl)
      case hb =>
        repeat (with_reducible refine Blk.drewNB ?_ _)
        first | exact blk_two _ _ _ _ | exact (blk_two _ _ _ _).drew
      case hR =>
        refine ⟨by rw [HZ.out] <;> rfl, ?_⟩
        repeat (with_reducible refine Below.drewN_ ?_ _)
        first | exact below_two _ _ _ | exact Below.drew (below_two _ _ _)
set_option maxRecDepth 100000 in
set_option maxHeartbeats 4000000 in
theorem or_moves (c : Chs) (s : Ost) (bv wv pv ov : Value) (w : World) (h : ChAt w (· < w.heap.size) bv wv pv ov c) (hc : OkC c) (hs : OkOs c s) (h1 : s.ball ≠ c.bows.length) (h2 : vacO s = false) :
    Calls Tryz.prog 79 #[chV c bv wv pv ov, osV s] w fun e w' => ∃ A n k, e = .returned (.slice A n k) ∧ Below w.heap.size w w' ∧ Sl 3 elOtc w' (fun b => w.heap.size ≤ b ∧ b < w'.heap.size) (.slice A n k) (mvO c s) := by
  unfold chV osV
  obtain ⟨ball, need, str, par, wait⟩ := s
  obtain ⟨A, ca, rfl, hc1, hc2⟩ := h.mdl.bat.shape
  obtain ⟨A1, ca1, rfl, hc3, hc4⟩ := h.mdl.bow.shape
  obtain ⟨A2, ca2, rfl, hc5, hc6⟩ := h.bow.shape
  obtain ⟨A3, ca3, rfl, hc7, hc8⟩ := h.ord.shape
  have hx := OSB.new w c (.slice A c.mdl.bats.length ca) (.slice A1 c.mdl.bows.length ca1) (.slice A2 c.bows.length ca2) (.slice A3 c.ord.length ca3) ⟨ball, need, str, par, wait⟩
  have HX := Lib.hid hx
  have HM := Lib.hid h
  obtain ⟨i, j, bt, bw, e1, e2, s0, s1, i0, i1, j0, j1, f1, f2, hsh, hq5⟩ := mvO_at hc hs h1 h2
  have sn := hs.str.2
  have sb := hs.ball.1
  dsimp only at e1 e2 s0 s1 sn sb
  obtain ⟨a, rfl⟩ : ∃ a : Nat, str = (a : Int) := ⟨str.toNat, by omega⟩
  obtain ⟨e, rfl⟩ : ∃ a : Nat, ball = (a : Int) := ⟨ball.toNat, by omega⟩
  obtain ⟨i, rfl⟩ : ∃ a : Nat, i = (a : Int) := ⟨i.toNat, by omega⟩
  obtain ⟨j, rfl⟩ : ∃ a : Nat, j = (a : Int) := ⟨j.toNat, by omega⟩
  rw [Int.toNat_natCast] at e1 e2 f1 f2
  have la : a < c.ord.length := by omega
  have le : e < c.bows.length := by omega
  have li : i < c.mdl.bats.length := by omega
  have lj : j < c.mdl.bows.length := by omega
  have ga : c.ord[a] = (i : Int) := by rw [List.getElem?_eq_getElem la] at e1; exact Option.some.inj e1
  have ge : c.bows[e] = (j : Int) := by rw [List.getElem?_eq_getElem le] at e2; exact Option.some.inj e2
  have gi : c.mdl.bats[i] = bt := by rw [List.getElem?_eq_getElem li] at f1; exact Option.some.inj f1
  have gj : c.mdl.bows[j] = bw := by rw [List.getElem?_eq_getElem lj] at f2; exact Option.some.inj f2
  obtain ⟨b0, o0, rfl, hb0, z0⟩ := int_at h.ord la
  obtain ⟨b1, o1, rfl, hb1, z1⟩ := int_at h.bow le
  obtain ⟨b2, o2, v, rfl, hb2, hq3, z2, hv, hq1⟩ := bat_at h.mdl.bat li
  obtain ⟨b3, o3, rfl, hb3, hq4, z3, hq2⟩ := bow_at h.mdl.bow lj
  rw [ga] at z0
  rw [ge] at z1
  rw [gi] at hv
  rw [gj] at z3
  have ks := fun W (hW : Below w.heap.size w W) => m_Shift bt.dist v bw.shift W (hv.keep elOtc_good (Same.of_below hW) fun b h => Nat.lt_of_lt_of_le h hW.size)
  rw [hsh] at ks
  obtain ⟨n, hn⟩ : ∃ n, n = bw.shift := ⟨_, rfl⟩
  rw [← hn] at ks z3
  obtain ⟨l, hl⟩ : ∃ l, l = mvO c ⟨(e : Int), need, (a : Int), par, wait⟩ := ⟨_, rfl⟩
  rw [← hl] at ks ⊢
  have KS := Lib.hid ks
  obtain ⟨W, hW⟩ : ∃ W, W = (w.alloc (.cells (chC c (.slice (some ⟨b2, o2, none⟩) c.mdl.bats.length ca) (.slice (some ⟨b3, o3, none⟩) c.mdl.bows.length ca1) (.slice (some ⟨b1, o1, none⟩) c.bows.length ca2) (.slice (some ⟨b0, o0, none⟩) c.ord.length ca3)) 28)).alloc (.cells #[.int .i64 (e : Int), .int .i64 need, .int .i64 (a : Int), .int .i64 par, .int .u16 wait] 47) := ⟨_, rfl⟩
  have hx2 : OSB w W w.heap.size c (.slice (some ⟨b2, o2, none⟩) c.mdl.bats.length ca) (.slice (some ⟨b3, o3, none⟩) c.mdl.bows.length ca1) (.slice (some ⟨b1, o1, none⟩) c.bows.length ca2) (.slice (some ⟨b0, o0, none⟩) c.ord.length ca3) ⟨(e : Int), need, (a : Int), par, wait⟩ := by rw [hW]; exact hx
  have y0 : W.cell? ⟨b0, o0 + a, none⟩ = some (.int .i64 (i : Int)) := (hx2.bel.cell (p := ⟨b0, o0 + a, none⟩) hb0).trans z0
  have y1 : W.cell? ⟨b1, o1 + e, none⟩ = some (.int .i64 (j : Int)) := (hx2.bel.cell (p := ⟨b1, o1 + e, none⟩) hb1).trans z1
  have y2 : W.cell? ⟨b2, o2 + i * 2 + 1, none⟩ = some v := (hx2.bel.cell (p := ⟨b2, o2 + i * 2 + 1, none⟩) hb2).trans z2
  have y3 : W.cell? ⟨b3, o3 + j * 2 + 1, none⟩ = some (.int .i64 n) := (hx2.bel.cell (p := ⟨b3, o3 + j * 2 + 1, none⟩) hb3).trans z3
  have HX2 := Lib.hid hx2
  have Z0 := Lib.hid z0
  have Z1 := Lib.hid z1
  have Z2 := Lib.hid z2
  have Z3 := Lib.hid z3
  have B0 := Lib.hid hb0
  have B1 := Lib.hid hb1
  have B2 := Lib.hid hb2
  have B3 := Lib.hid hb3
  have HW := Lib.hid hW
  have p1 : (0 : Int) ≤ (a : Int) := by omega
  have p2 : (a : Int) < (c.ord.length : Int) := by omega
  have p3 : (0 : Int) ≤ (e : Int) := by omega
  have p4 : (e : Int) < (c.bows.length : Int) := by omega
  have p5 : (0 : Int) ≤ (i : Int) := by omega
  have p6 : (i : Int) < (c.mdl.bats.length : Int) := by omega
  have p7 : (0 : Int) ≤ (j : Int) := by omega
  have p8 : (j : Int) < (c.mdl.bows.length : Int) := by omega
  clear hq1 hq2 hq3 hq4 hq5 ks hn hl hsh hv z0 z1 z2 z3 hb0 hb1 hb2 hb3 ga ge gi gj la le li lj e1 e2 f1 f2 s0 s1 i0 i1 j0 j1 sn sb h1 h2 hs hc hx h HM HX hx2 hW y0 y1 y2 y3
  go_enter Tryz.func79, Tryz.ntmps79
  go_wp2
  unfold chC at HW
  rw [← HW.out]
  clear HW
  have y0 : W.cell? ⟨b0, o0 + a, none⟩ = some (.int .i64 (i : Int)) := (HX2.out.bel.cell (p := ⟨b0, o0 + a, none⟩) B0.out).trans Z0.out
  have y1 : W.cell? ⟨b1, o1 + e, none⟩ = some (.int .i64 (j : Int)) := (HX2.out.bel.cell (p := ⟨b1, o1 + e, none⟩) B1.out).trans Z1.out
  have y2 : W.cell? ⟨b2, o2 + i * 2 + 1, none⟩ = some v := (HX2.out.bel.cell (p := ⟨b2, o2 + i * 2 + 1, none⟩) B2.out).trans Z2.out
  have y3 : W.cell? ⟨b3, o3 + j * 2 + 1, none⟩ = some (.int .i64 n) := (HX2.out.bel.cell (p := ⟨b3, o3 + j * 2 + 1, none⟩) B3.out).trans Z3.out
  obtain ⟨x0, x1, x2, x3, x4, x5, x6, t0, t1, t2, t3, t4⟩ := HX2.out.cells
  dsimp only at t0 t1 t2 t3 t4
  have HXD := Lib.hid HX2.out.drew
  go_region_held3 (fun w' => w'.cell? ⟨w.heap.size, 0, none⟩ = some (.slice (some ⟨b2, o2, none⟩) c.mdl.bats.length ca) ∧ w'.cell? ⟨w.heap.size, 1, none⟩ = some (.slice (some ⟨b3, o3, none⟩) c.mdl.bows.length ca1) ∧ w'.cell? ⟨w.heap.size, 2, none⟩ = some (.slice (some ⟨b1, o1, none⟩) c.bows.length ca2) ∧ w'.cell? ⟨w.heap.size, 6, none⟩ = some (.slice (some ⟨b0, o0, none⟩) c.ord.length ca3) ∧ w'.cell? ⟨w.heap.size + 1, 0, none⟩ = some (.int .i64 (e : Int)) ∧ w'.cell? ⟨w.heap.size + 1, 2, none⟩ = some (.int .i64 (a : Int)) ∧ w'.cell? ⟨b0, o0 + a, none⟩ = some (.int .i64 (i : Int)) ∧ w'.cell? ⟨b1, o1 + e, none⟩ = some (.int .i64 (j : Int)) ∧ w'.cell? ⟨b2, o2 + i * 2 + 1, none⟩ = some v ∧ w'.cell? ⟨b3, o3 + j * 2 + 1, none⟩ = some (.int .i64 n)) (first | exact ⟨x0, x1, x2, x6, t0, t2, u0, u1, u2, u3⟩ | exact ⟨x0, x1, x2, x6, t0, t2, y0, y1, y2, y3⟩ | go_keep) ((go_at_call 83; refine (KS.out _ HXD.out.bel).mono ?_; rintro e4 w4 ⟨v4, rfl, hs4, hb4⟩; obtain ⟨A4, c4, rfl, hc41, hc42⟩ := hs4.shape; have HX4 := Lib.hid (HXD.out.below hb4); obtain ⟨x0, x1, x2, x3, x4, x5, x6, t0, t1, t2, t3, t4⟩ := HX4.out.cells; dsimp only at t0 t1 t2 t3 t4; have u0 := (hb4.cell (p := ⟨b0, o0 + a, none⟩) (Nat.lt_of_lt_of_le B0.out HXD.out.bel.size)).trans y0; have u1 := (hb4.cell (p := ⟨b1, o1 + e, none⟩) (Nat.lt_of_lt_of_le B1.out HXD.out.bel.size)).trans y1; have u2 := (hb4.cell (p := ⟨b2, o2 + i * 2 + 1, none⟩) (Nat.lt_of_lt_of_le B2.out HXD.out.bel.size)).trans y2; have u3 := (hb4.cell (p := ⟨b3, o3 + j * 2 + 1, none⟩) (Nat.lt_of_lt_of_le B3.out HXD.out.bel.size)).trans y3; have HS4 := Lib.hid hs4; clear hs4 hb4))
  all_goals go_wp2
  go_ret
  exact ⟨_, _, _, rfl, HX4.out.bel, HS4.out.keep elOtc_good (Same.refl _ _) fun b h => ⟨Nat.le_trans HXD.out.bel.size h.1, h.2⟩⟩
theorem leftO_le {c : Chs} {s : Ost} (hc : OkT c) (hs : OkOs c s) : leftO c s ≤ 12 := by
  have := hc.nb; have := hs.ball
  unfold leftO; omega
set_option maxRecDepth 100000 in
set_option maxHeartbeats 4000000 in
theorem or_power (c : Chs) (s : Ost) (bv wv pv ov : Value) (w : World) (h : ChAt w (· < w.heap.size) bv wv pv ov c) (hc : OkT c) (hs : OkOs c s) :
    Calls Tryz.prog 78 #[chV c bv wv pv ov, osV s] w fun e w' => e = .returned (.int .i64 (pow16 (leftO c s))) ∧ Below w.heap.size w w' := by
  unfold chV osV
  obtain ⟨ball, need, str, par, wait⟩ := s
  obtain ⟨A, ca, rfl, hc1, hc2⟩ := h.mdl.bat.shape
  obtain ⟨A1, ca1, rfl, hc3, hc4⟩ := h.mdl.bow.shape
  obtain ⟨A2, ca2, rfl, hc5, hc6⟩ := h.bow.shape
  obtain ⟨A3, ca3, rfl, hc7, hc8⟩ := h.ord.shape
  have hx := OSB.new w c (.slice A c.mdl.bats.length ca) (.slice A1 c.mdl.bows.length ca1) (.slice A2 c.bows.length ca2) (.slice A3 c.ord.length ca3) ⟨ball, need, str, par, wait⟩
  have HX := Lib.hid hx
  have HM := Lib.hid h
  obtain ⟨n, hn⟩ : ∃ n, n = leftO c ⟨ball, need, str, par, wait⟩ := ⟨_, rfl⟩
  have hn12 := leftO_le hc hs
  rw [← hn] at hn12
  have hb := hs.ball
  dsimp only at hb
  have hbn : (c.bows.length : Int) - ball = (n : Int) := by rw [hn]; unfold leftO; dsimp only; omega
  rw [← hn]
  obtain ⟨z, hz⟩ : ∃ z, z = pow16 n := ⟨_, rfl⟩
  rw [← hz]
  have hnb := hc.ok.nb
  obtain ⟨hb1, hb2⟩ := hb
  obtain ⟨hnb1, hnb2⟩ := hnb
  clear hs hc hn hx h
  have hcase : n = 0 ∨ n = 1 ∨ n = 2 ∨ n = 3 ∨ n = 4 ∨ n = 5 ∨ n = 6 ∨ n = 7 ∨ n = 8 ∨ n = 9 ∨ n = 10 ∨ n = 11 ∨ n = 12 := by omega
  clear hn12
  rcases hcase with rfl | rfl | rfl | rfl | rfl | rfl | rfl | rfl | rfl | rfl | rfl | rfl | rfl
  all_goals
    have HZ := Lib.hid hz
    have hq := hbn
    simp only [Int.natCast_zero, Int.natCast_one, Int.cast_ofNat_Int] at hq
    clear hz hbn
    go_enter Tryz.func78, Tryz.ntmps78
    go_wp2
    go_ret
    exact ⟨ret_i (by rw [HZ.out]; first | rfl | decide), HX.out.bel⟩
theorem or_step_ret {R' : Ending → World → Prop} {a : Act} {w : World} {x0 x1 x2 x3 x4 : Value} {g : Nat} (h2 : a.tmps[6]? = some (.pointer (some ⟨g, 0, none⟩))) (hb : Blk w g 47 #[x0, x1, x2, x3, x4])
    (hd : a.defers = []) (hR : R' (.returned (.agg #[x0, x1, x2, x3, x4])) w) : bodyPost Tryz.prog Tryz.f80 R' .ret a w := by
  have r0 := hb.cell 0
  have r1 := hb.cell 1
  have r2 := hb.cell 2
  have r3 := hb.cell 3
  have r4 := hb.cell 4
  simp only [List.getElem?_toArray, List.getElem?_cons_zero, List.getElem?_cons_succ] at r0 r1 r2 r3 r4
  refine bodyPost_ret (v := .agg #[x0, x1, x2, x3, x4]) (by simp [results, Tryz.results80, go_sem, h2, r0, r1, r2, r3, r4]) hd hR
set_option maxRecDepth 100000 in
set_option maxHeartbeats 4000000 in
theorem or_step (c : Chs) (s : Ost) (o : Otc) (A A1 A2 A3 : Option Addr) (ca ca1 ca2 ca3 : Nat) (w : World) (hc : OkT c) (hs : OkOs c s) (h1 : s.ball ≠ c.bows.length) (h2 : vacO s = false) (hr : 0 ≤ o.runs ∧ o.runs ≤ 7) :
    Calls Tryz.prog 80 #[.agg #[.slice A c.mdl.bats.length ca, .slice A1 c.mdl.bows.length ca1, .slice A2 c.bows.length ca2, .int .i64 c.over, .int .i64 c.done, .int .i64 c.need, .slice A3 c.ord.length ca3], osV s, .agg #[.int .i64 o.runs, .bool o.wick, .int .i64 o.wt]] w fun e w' => e = .returned (osV (stepO c s o)) ∧ Below w.heap.size w w' := by
  obtain ⟨z, hz⟩ : ∃ z, z = stepO c s o := ⟨_, rfl⟩
  rw [← hz]
  unfold stepO at hz
  obtain ⟨ball, need, str, par, wait⟩ := s
  obtain ⟨pr, pw, pt⟩ := o
  unfold osV
  dsimp only at hr hz ⊢
  have b1 := hs.ball
  have b2 := hs.need
  have b4 := hs.str
  have b5 := hs.par
  have b6 := hc.ok.nb
  have b7 := hc.ok.need
  have b8 := hc.np
  have b9 := hc.ok.over
  have b10 := hc.ok.done
  have b11 := hs.w16
  dsimp only at b1 b2 b4 b5 b11 h1
  obtain ⟨m, hm⟩ : ∃ m, max (need - pr) 0 = m := ⟨_, rfl⟩
  have hm2 : max 0 (need - pr) = m := by rw [← hm]; omega
  have hm3 : 0 ≤ m ∧ m ≤ 84 := by omega
  rw [hm] at hz
  have hsw : swapC c (ball + 1) ⟨pr, pw, pt⟩ = (decide (pr % 2 = 1) != decide ((c.done + (ball + 1)) % c.over = 0)) := rfl
  have e1 : (pr % 2 == 1) = decide (pr % 2 = 1) := by by_cases h : pr % 2 = 1 <;> simp [h]
  have e2 : ((c.done + (ball + 1)) % c.over == 0) = decide ((c.done + (ball + 1)) % c.over = 0) := by by_cases h : (c.done + (ball + 1)) % c.over = 0 <;> simp [h]
  rw [hsw] at hz
  obtain ⟨x1, hx1⟩ : ∃ x, x = decide (pr % 2 = 1) := ⟨_, rfl⟩
  obtain ⟨x2, hx2⟩ : ∃ x, x = decide ((c.done + (ball + 1)) % c.over = 0) := ⟨_, rfl⟩
  rw [← hx1] at e1 hz
  rw [← hx2] at e2 hz
  obtain ⟨over, hov⟩ : ∃ x, x = c.over := ⟨_, rfl⟩
  obtain ⟨done, hdo⟩ : ∃ x, x = c.done := ⟨_, rfl⟩
  rw [← hov, ← hdo] at e2 ⊢
  rw [← hov] at b9
  rw [← hdo, ← hov] at b10
  obtain ⟨c1, c2⟩ := b1
  obtain ⟨c3, c4⟩ := b2
  obtain ⟨c7, c8⟩ := b4
  obtain ⟨c9, c10⟩ := b5
  obtain ⟨c11, c12⟩ := b6
  obtain ⟨c13, c14⟩ := b7
  obtain ⟨c15, c16⟩ := b8
  obtain ⟨c17, c18⟩ := b9
  obtain ⟨c19, c20⟩ := b10
  obtain ⟨c21, c22⟩ := hr
  obtain ⟨c23, c24⟩ := hm3
  obtain ⟨c25, c26⟩ := b11
  clear hx1 hx2 hov hdo hsw hs hc h1 h2
  cases pw
  all_goals
    simp only [Bool.false_eq_true, if_true, if_false] at hz
    cases x1 <;> cases x2 <;> simp only [bne_self_eq_false, if_true, if_false, Bool.false_eq_true, Bool.bne_false, Bool.bne_true, Bool.not_false, Bool.not_true] at hz
    all_goals
      have HZ := Lib.hid hz
      clear hz
      go_enter Tryz.func80, Tryz.ntmps80
      go_wp2
      go_quiet (fail)
      go_wp2
      apply or_step_ret (g := w.heap.size + 1 + 1 + 1) (h2 := rfl) (hd := rfl)
      case hb =>
        first
          | with_reducible exact oblk_rv _ _ _ _ _ _ _ _ _
          | (with_reducible apply Blk.put5
             repeat (first | with_reducible refine Blk.drewNB ?_ _ | with_reducible refine blk_far1 ?_ _ _)
             with_reducible exact oblk_r _ _ _ _)
      case hR =>
        refine ⟨by rw [HZ.out] <;> rfl, ?_⟩
        first
          | with_reducible exact below_r _ _ _ _ _
          | (with_reducible refine below_set5 ?_ (le3 _) _ _ _ _ _
             repeat (first | with_reducible refine Below.drewN_ ?_ _ | with_reducible refine below_far1 ?_ _ _)
             with_reducible exact below_r _ _ _ _ _)
theorem or_opened_ret {R' : Ending → World → Prop} {a : Act} {w : World} {x0 x1 x2 x3 x4 : Value} {g : Nat} (h2 : a.tmps[6]? = some (.pointer (some ⟨g, 0, none⟩))) (hb : Blk w g 47 #[x0, x1, x2, x3, x4])
    (hd : a.defers = []) (hR : R' (.returned (.agg #[x0, x1, x2, x3, x4])) w) : bodyPost Tryz.prog Tryz.f22 R' .ret a w := by
  have r0 := hb.cell 0
  have r1 := hb.cell 1
  have r2 := hb.cell 2
  have r3 := hb.cell 3
  have r4 := hb.cell 4
  simp only [List.getElem?_toArray, List.getElem?_cons_zero, List.getElem?_cons_succ] at r0 r1 r2 r3 r4
  refine bodyPost_ret (v := .agg #[x0, x1, x2, x3, x4]) (by simp [results, Tryz.results22, go_sem, h2, r0, r1, r2, r3, r4]) hd hR
set_option maxRecDepth 100000 in
set_option maxHeartbeats 4000000 in
theorem or_opened (c : Chs) (a b : Nat) (bv wv pv ov : Value) (w : World) (h : ChAt w (· < w.heap.size) bv wv pv ov c) (ht : OkT c) (ha : a < c.ord.length) (hb : b < c.ord.length) :
    Calls Tryz.prog 22 #[chV c bv wv pv ov, .int .i64 (a : Int), .int .i64 (b : Int)] w fun e w' => e = .returned (osV (openO c a b)) ∧ Below w.heap.size w w' := by
  unfold chV
  obtain ⟨A, ca, rfl, hc1, hc2⟩ := h.mdl.bat.shape
  obtain ⟨A1, ca1, rfl, hc3, hc4⟩ := h.mdl.bow.shape
  obtain ⟨A2, ca2, rfl, hc5, hc6⟩ := h.bow.shape
  obtain ⟨A3, ca3, rfl, hc7, hc8⟩ := h.ord.shape
  obtain ⟨z, hz⟩ : ∃ z, z = openO c a b := ⟨_, rfl⟩
  rw [← hz]
  unfold openO lessW allW oneW at hz
  have hnp := ht.np
  unfold osV
  obtain ⟨hnp1, hnp2⟩ := hnp
  obtain ⟨n, hn⟩ : ∃ n, n = c.ord.length := ⟨_, rfl⟩
  rw [← hn] at hz hnp1 hnp2 ha hb ⊢
  have g1 : (0 : Int) ≤ (n : Int) := by omega
  have g2 : (n : Int) < 16 := by omega
  have g3 : (0 : Int) ≤ (a : Int) := by omega
  have g4 : (a : Int) < 16 := by omega
  have g5 : (0 : Int) ≤ (b : Int) := by omega
  have g6 : (b : Int) < 16 := by omega
  have HZ := Lib.hid hz
  clear hz h ht hn
  go_enter Tryz.func22, Tryz.ntmps22
  go_wp2
  all_goals go_region
  all_goals go_wp2
  all_goals
    apply or_opened_ret (g := w.heap.size + 1) (h2 := rfl) (hd := rfl)
    case hb =>
      repeat (with_reducible refine Blk.drewNB ?_ _)
      first | exact blk_two _ _ _ _ | exact (blk_two _ _ _ _).drew
    case hR =>
      refine ⟨by rw [HZ.out] <;> rfl, ?_⟩
      repeat (with_reducible refine Below.drewN_ ?_ _)
      first | exact below_two _ _ _ | exact Below.drew (below_two _ _ _)
end Go.Proofs.YtjchapoggmipbaaGreatDoor

namespace Go.Proofs.YtjchapoggmipbaaGreatDoor
open Go.RowKit Go.Maps

def keyS (s : Cst) : Lit := .string (keyBytes [.int .i64 s.ball, .int .i64 s.need, .int .i64 s.str, .int .i64 s.par, .int .i64 s.nxt])
structure Smol (s : Cst) : Prop where
  ball : -1000 ≤ s.ball ∧ s.ball ≤ 1000
  need : -1000 ≤ s.need ∧ s.need ≤ 1000
  str : -1000 ≤ s.str ∧ s.str ≤ 1000
  par : -1000 ≤ s.par ∧ s.par ≤ 1000
  nxt : -1000 ≤ s.nxt ∧ s.nxt ≤ 1000
theorem OkS.smol {c : Chs} {s : Cst} (hc : OkC c) (h : OkS c s) : Smol s := by
  have := hc.nb; have := hc.need; have := hc.no; have := h.ball; have := h.need; have := h.nxt; have := h.str; have := h.par
  exact ⟨by omega, by omega, by omega, by omega, by omega⟩
theorem law44 : Keyed Tryz.prog 79 := Keyed.of_law (deep_law_gate (by kernel_rfl) (of_decide_eq_true (by kernel_rfl)) (of_decide_eq_true (by kernel_rfl)) (by kernel_rfl) (by kernel_rfl))
theorem wf_small {x : Int} (h : -1000 ≤ x ∧ x ≤ 1000) : (Lit.int .i64 x).wf = true := WalkArith.wf_i64 (by omega)
theorem key_of {s : Cst} (h : Smol s) : keyOf Tryz.prog 79 (stV s) = some (keyS s) := by
  have hkt : Tryz.prog.keyType 79 = true := by kernel_rfl
  have hce : Tryz.prog.cellsOf 79 = 5 := by kernel_rfl
  have hci : Tryz.prog.cellsOf 3 = 1 := by kernel_rfl
  obtain ⟨m, hm⟩ : ∃ m, Tryz.prog.types.size = m + 1 := ⟨Tryz.prog.types.size - 1, by kernel_rfl⟩
  have w0 := wf_small h.ball
  have w1 := wf_small h.need
  have w2 := wf_small h.str
  have w3 := wf_small h.par
  have w4 := wf_small h.nxt
  unfold keyOf stV keyS
  simp only [Tryz.underlying79]
  rw [if_pos (by simp [hkt, Value.formed, Tryz.underlying79, hce]), hm]
  unfold Program.keyLits
  simp only [Tryz.underlying79, Value.cells]
  rw [if_pos ⟨by rw [hce]; rfl, by kernel_rfl⟩]
  simp [hci, Program.keyLits, Tryz.underlying3, w0, w1, w2, w3, w4]
theorem key_inj {s t : Cst} (hs : Smol s) (ht : Smol t) (h : keyS s = keyS t) : s = t := by
  have e := keyOf_inj_deep (P := Tryz.prog) (m := Tryz.prog.types.size + 1) (k := 79) (by kernel_rfl) (by kernel_rfl) (key_of hs) (h ▸ key_of ht)
  obtain ⟨a1, a2, a3, a4, a5⟩ := s
  obtain ⟨b1, b2, b3, b4, b5⟩ := t
  unfold stV at e
  simp at e
  obtain ⟨rfl, rfl, rfl, rfl, rfl⟩ := e
  rfl
theorem key_lit (s : Cst) : WideAt.IsKeyLit (keyS s) := by unfold keyS; trivial
theorem zero_i64 (w : World) : (zeroValue 2).run Tryz.prog w = .ok (.int .i64 0) w := by kernel_rfl
/-- Every state of the map has its value. -/
def Known (c : Chs) (D : DataW Unit) : Prop := ∀ s, OkS c s → Maps.has D (keyS s) = true → D.atKey (keyS s) (.lit (.int .i64 0)) = .lit (.int .i64 (valS c s))
theorem Known.none (c : Chs) : Known c (.map []) := fun s _ h => by cases h
theorem Known.put {c : Chs} {D : DataW Unit} (h : Known c D) (hD : IsMap D) (hc : OkC c) {s : Cst} (hs : OkS c s) : Known c (D.put (keyS s) (.lit (.int .i64 (valS c s)))) := fun t ht hh => by
  by_cases e : keyS t = keyS s
  · have := key_inj (ht.smol hc) (hs.smol hc) e
    subst this
    exact atKey_put_same hD (key_lit _) _ _
  · rw [has_put_other e] at hh
    rw [atKey_put_other e]
    exact h t ht hh
abbrev Vals (w : World) (b N : Nat) (D : DataW Unit) : Prop := w.ownsMap Tryz.prog 79 (plainElem Tryz.prog 2) b N D
def cntV : Nat → Nat
  | 0 => 1
  | n + 1 => 1 + 16 * cntV n
theorem cntV_le : ∀ n, n ≤ 12 → cntV n ≤ 17 ^ 13 := fun n h => by
  have hm : ∀ k, cntV k ≤ 17 ^ k := fun k => by
    induction k with
    | zero => decide
    | succ k ih => rw [cntV, Nat.pow_succ]; have : 0 < 17 ^ k := Nat.pow_pos (by omega); omega
  exact Nat.le_trans (hm n) (Nat.pow_le_pow_right (by omega) (by omega))
end Go.Proofs.YtjchapoggmipbaaGreatDoor

namespace Go.Proofs.YtjchapoggmipbaaGreatDoor
open Go.RowKit Go.Maps

def keyOs (s : Ost) : Lit := .string (keyBytes [.int .i64 s.ball, .int .i64 s.need, .int .i64 s.str, .int .i64 s.par, .int .u16 s.wait])
structure SmolO (s : Ost) : Prop where
  ball : -1000 ≤ s.ball ∧ s.ball ≤ 1000
  need : -1000 ≤ s.need ∧ s.need ≤ 1000
  str : -1000 ≤ s.str ∧ s.str ≤ 1000
  par : -1000 ≤ s.par ∧ s.par ≤ 1000
  w16 : 0 ≤ s.wait ∧ s.wait < 65536
theorem OkOs.smol {c : Chs} {s : Ost} (hc : OkT c) (h : OkOs c s) : SmolO s := by
  have := hc.nb; have := hc.ok.need; have := hc.np; have := h.ball; have := h.need; have := h.str; have := h.par
  exact ⟨by omega, by omega, by omega, by omega, h.w16⟩
theorem law45 : Keyed Tryz.prog 47 := Keyed.of_law (deep_law_gate (by kernel_rfl) (of_decide_eq_true (by kernel_rfl)) (of_decide_eq_true (by kernel_rfl)) (by kernel_rfl) (by kernel_rfl))
theorem okey_of {s : Ost} (h : SmolO s) : keyOf Tryz.prog 47 (osV s) = some (keyOs s) := by
  have hkt : Tryz.prog.keyType 47 = true := by kernel_rfl
  have hce : Tryz.prog.cellsOf 47 = 5 := by kernel_rfl
  have hci : Tryz.prog.cellsOf 3 = 1 := by kernel_rfl
  have hcu : Tryz.prog.cellsOf 45 = 1 := by kernel_rfl
  obtain ⟨m, hm⟩ : ∃ m, Tryz.prog.types.size = m + 1 := ⟨Tryz.prog.types.size - 1, by kernel_rfl⟩
  have w0 := wf_small h.ball
  have w1 := wf_small h.need
  have w2 := wf_small h.str
  have w3 := wf_small h.par
  have w4 : (Lit.int .u16 s.wait).wf = true := WalkArith.wf_u16 (by have := h.w16; omega)
  unfold keyOf osV keyOs
  simp only [Tryz.underlying47]
  rw [if_pos (by simp [hkt, Value.formed, Tryz.underlying47, hce]), hm]
  unfold Program.keyLits
  simp only [Tryz.underlying47, Value.cells]
  rw [if_pos ⟨by rw [hce]; rfl, by kernel_rfl⟩]
  simp [hci, hcu, Program.keyLits, Tryz.underlying3, Tryz.underlying45, w0, w1, w2, w3, w4]
theorem okey_inj {s t : Ost} (hs : SmolO s) (ht : SmolO t) (h : keyOs s = keyOs t) : s = t := by
  have e := keyOf_inj_deep (P := Tryz.prog) (m := Tryz.prog.types.size + 1) (k := 47) (by kernel_rfl) (by kernel_rfl) (okey_of hs) (h ▸ okey_of ht)
  obtain ⟨a1, a2, a3, a4, a5⟩ := s
  obtain ⟨b1, b2, b3, b4, b5⟩ := t
  unfold osV at e
  simp at e
  obtain ⟨rfl, rfl, rfl, rfl, rfl⟩ := e
  rfl
theorem okey_lit (s : Ost) : WideAt.IsKeyLit (keyOs s) := by unfold keyOs; trivial
/-- Every state of the map has its value. -/
def KnownO (c : Chs) (D : DataW Unit) : Prop := ∀ s, OkOs c s → Maps.has D (keyOs s) = true → D.atKey (keyOs s) (.lit (.int .i64 0)) = .lit (.int .i64 (vO c s))
theorem KnownO.none (c : Chs) : KnownO c (.map []) := fun s _ h => by cases h
theorem KnownO.put {c : Chs} {D : DataW Unit} (h : KnownO c D) (hD : IsMap D) (hc : OkT c) {s : Ost} (hs : OkOs c s) : KnownO c (D.put (keyOs s) (.lit (.int .i64 (vO c s)))) := fun t ht hh => by
  by_cases e : keyOs t = keyOs s
  · have := okey_inj (ht.smol hc) (hs.smol hc) e
    subst this
    exact atKey_put_same hD (okey_lit _) _ _
  · rw [has_put_other e] at hh
    rw [atKey_put_other e]
    exact h t ht hh
/-- Nothing is taken out. -/
def GrewO (D D' : DataW Unit) : Prop := ∀ s, Maps.has D (keyOs s) = true → Maps.has D' (keyOs s) = true
theorem GrewO.refl (D : DataW Unit) : GrewO D D := fun _ h => h
theorem GrewO.trans {A B C : DataW Unit} (h : GrewO A B) (k : GrewO B C) : GrewO A C := fun s x => k s (h s x)
theorem GrewO.put {D : DataW Unit} (hD : IsMap D) (s : Ost) (v : DataW Unit) : GrewO D (D.put (keyOs s) v) := fun t h => by
  by_cases e : keyOs t = keyOs s
  · rw [e]; exact has_put_same hD (okey_lit _) _
  · rw [has_put_other e]; exact h
abbrev ValsO (w : World) (b N : Nat) (D : DataW Unit) : Prop := w.ownsMap Tryz.prog 47 (plainElem Tryz.prog 2) b N D
def rankO (c : Chs) (s : Ost) : Nat := 2 * leftO c s + (if vacO s = true then 1 else 0)
def cntR : Nat → Nat
  | 0 => 1
  | m + 1 => 1 + (if m % 2 = 0 then 6 else 16) * cntR m
theorem cntR_step (m : Nat) : cntR m ≤ cntR (m + 1) := by
  rw [cntR]; split <;> omega
theorem cntR_mono {k m : Nat} (h : k ≤ m) : cntR k ≤ cntR m := by
  induction m with
  | zero => obtain rfl : k = 0 := by omega
            exact Nat.le_refl _
  | succ m ih =>
    by_cases e : k = m + 1
    · subst e; exact Nat.le_refl _
    · exact Nat.le_trans (ih (by omega)) (cntR_step m)
/-- What a function that values states of an order does. -/
def SolveO (f : FuncId) (c : Chs) (m : Nat) : Prop := ∀ (s : Ost), rankO c s = m → OkOs c s → ∀ (bv wv pv ov : Value) (F : Nat → Prop) (b N : Nat) (D : DataW Unit) (w : World), ChAt w F bv wv pv ov c → (∀ x, F x → x < w.heap.size ∧ x ≠ b) → ValsO w b N D → KnownO c D → N + cntR m ≤ 2000000000000000000 →
  Calls Tryz.prog f #[chV c bv wv pv ov, osV s, .map (some b)] w fun e w' => e = .returned (.int .i64 (vO c s)) ∧ Only b w w' ∧ ∃ D', ValsO w' b (N + cntR m) D' ∧ KnownO c D' ∧ GrewO D D' ∧ Maps.has D' (keyOs s) = true
/-- The states that follow have a lesser rank. -/
theorem rank_send {c : Chs} {s : Ost} {i : Int} (ht : OkT c) (h : OkOs c s) (hv : vacO s = true) (hi : 0 ≤ i ∧ i < c.ord.length) (hb : bitW s.wait i = true) : OkOs c (sendO s i) ∧ rankO c (sendO s i) + 1 = rankO c s := by
  obtain ⟨k1, k2, k3, k4⟩ := sendO_ok ht h hv hi hb
  refine ⟨k1, ?_⟩
  unfold rankO leftO
  rw [k2, hv, k3]; simp
theorem rank_step {c : Chs} {s : Ost} {o : Otc} (h : OkOs c s) (h2 : s.ball ≠ c.bows.length) (hv : vacO s = false) (ho : 0 ≤ o.runs) : OkOs c (stepO c s o) ∧ rankO c (stepO c s o) + 1 ≤ rankO c s := by
  obtain ⟨k1, k2, k3⟩ := stepO_ok h h2 hv ho
  have := h.ball
  refine ⟨k1, ?_⟩
  unfold rankO leftO
  rw [hv, k2]
  split
  · simp; omega
  · simp; omega
/-- A box of a task, a box of a map's variable, beside a map. -/
structure EnvO (W : World) (F : Nat → Prop) (b g0 g2 : Nat) (c : Chs) (bv wv pv ov : Value) : Prop where
  ch : ChAt W F bv wv pv ov c
  hF : ∀ x, F x → x < W.heap.size ∧ x ≠ b
  t0 : Blk W g0 28 #[bv, wv, pv, .int .i64 c.over, .int .i64 c.done, .int .i64 c.need, ov]
  m2 : Blk W g2 70 #[.map (some b)]
  n0 : g0 ≠ b
  n2 : g2 ≠ b
theorem EnvO.only {W W' : World} {F : Nat → Prop} {b g0 g2 : Nat} {c : Chs} {bv wv pv ov : Value} (h : EnvO W F b g0 g2 c bv wv pv ov) (ho : Only b W W') : EnvO W' F b g0 g2 c bv wv pv ov :=
  ⟨h.ch.keep (ho.same h.hF) fun _ h => h, fun x hx => ⟨Nat.lt_of_lt_of_le (h.hF x hx).1 ho.size, (h.hF x hx).2⟩, h.t0.grown ho (by intro e; injection e with e; exact h.n0 e.symm), h.m2.grown ho (by intro e; injection e with e; exact h.n2 e.symm), h.n0, h.n2⟩
theorem ovals_below {W W' : World} {b N : Nat} {D : DataW Unit} (h : ValsO W b N D) (hb : Below W.heap.size W W') : ValsO W' b N D := h.kept (Only.of_below (g := b + 1) hb) (by simp)
end Go.Proofs.YtjchapoggmipbaaGreatDoor

namespace Go.Proofs.YtjchapoggmipbaaGreatDoor
open Go.RowKit Go.Maps

/-- A chase and a state boxed, a map of values beside them. -/
structure Sol (w W : World) (b N : Nat) (c : Chs) (bv wv pv ov : Value) (s : Cst) : Prop where
  only : Only b w W
  box : Blk W w.heap.size 77 #[bv, wv, pv, .int .i64 c.over, .int .i64 c.done, .int .i64 c.need, ov]
  st : Blk W (w.heap.size + 1) 79 #[.int .i64 s.ball, .int .i64 s.need, .int .i64 s.str, .int .i64 s.par, .int .i64 s.nxt]
  blt : b < w.heap.size
  vals : ∃ D, Vals W b N D ∧ Known c D
section
variable {w W W' : World} {b N N' : Nat} {c : Chs} {bv wv pv ov : Value} {s : Cst}
theorem vals_below {D : DataW Unit} (h : Vals W b N D) (hb : Below W.heap.size W W') : Vals W' b N D := h.kept (Only.of_below (g := b + 1) hb) (by simp)
theorem Sol.below (h : Sol w W b N c bv wv pv ov s) (hb : Below W.heap.size W W') : Sol w W' b N c bv wv pv ov s :=
  ⟨h.only.trans (Only.of_below hb), h.box.below hb h.box.lt, h.st.below hb h.st.lt, h.blt, let ⟨D, h1, h2⟩ := h.vals; ⟨D, vals_below h1 hb, h2⟩⟩
theorem Sol.alloc (h : Sol w W b N c bv wv pv ov s) (o : Obj) : Sol w (W.alloc o) b N c bv wv pv ov s := h.below (Below.alloc (Below.refl _ _) (Nat.le_refl _) o)
theorem Sol.drew (h : Sol w W b N c bv wv pv ov s) : Sol w W.drew b N c bv wv pv ov s := h.below (Below.drew (Below.refl _ _))
theorem Sol.into (h : Sol w W b N c bv wv pv ov s) (ho : Only b W W') (hv : ∃ D, Vals W' b N' D ∧ Known c D) : Sol w W' b N' c bv wv pv ov s :=
  ⟨h.only.trans ho, h.box.grown ho (by intro e; injection e with e; have := h.blt; omega), h.st.grown ho (by intro e; injection e with e; have := h.blt; omega), h.blt, hv⟩
theorem Sol.cells (h : Sol w W b N c bv wv pv ov s) : W.cell? ⟨w.heap.size, 0, none⟩ = some bv ∧ W.cell? ⟨w.heap.size, 1, none⟩ = some wv ∧ W.cell? ⟨w.heap.size, 2, none⟩ = some pv ∧ W.cell? ⟨w.heap.size, 3, none⟩ = some (.int .i64 c.over) ∧ W.cell? ⟨w.heap.size, 4, none⟩ = some (.int .i64 c.done) ∧ W.cell? ⟨w.heap.size, 5, none⟩ = some (.int .i64 c.need) ∧ W.cell? ⟨w.heap.size, 6, none⟩ = some ov ∧
    W.cell? ⟨w.heap.size + 1, 0, none⟩ = some (.int .i64 s.ball) ∧ W.cell? ⟨w.heap.size + 1, 1, none⟩ = some (.int .i64 s.need) ∧ W.cell? ⟨w.heap.size + 1, 2, none⟩ = some (.int .i64 s.str) ∧ W.cell? ⟨w.heap.size + 1, 3, none⟩ = some (.int .i64 s.par) ∧ W.cell? ⟨w.heap.size + 1, 4, none⟩ = some (.int .i64 s.nxt) :=
  ⟨h.box.cell 0, h.box.cell 1, h.box.cell 2, h.box.cell 3, h.box.cell 4, h.box.cell 5, h.box.cell 6, h.st.cell 0, h.st.cell 1, h.st.cell 2, h.st.cell 3, h.st.cell 4⟩
theorem Sol.new {D : DataW Unit} (h1 : Vals w b N D) (h2 : Known c D) : Sol w ((w.alloc (.cells #[bv, wv, pv, .int .i64 c.over, .int .i64 c.done, .int .i64 c.need, ov] 77)).alloc (.cells #[.int .i64 s.ball, .int .i64 s.need, .int .i64 s.str, .int .i64 s.par, .int .i64 s.nxt] 79)) b N c bv wv pv ov s :=
  let hx := CSB.new w c bv wv pv ov s
  ⟨Only.of_below hx.bel, hx.box, hx.st, h1.lt, D, vals_below h1 hx.bel, h2⟩
end
/-- A list that lies in blocks other than b. -/
theorem sl_only {W W' : World} {b : Nat} {v : Value} {l : List Otc} (h : Sl 3 elOtc W (fun x => x < W.heap.size ∧ x ≠ b) v l) (ho : Only b W W') : Sl 3 elOtc W' (fun x => x < W'.heap.size ∧ x ≠ b) v l :=
  h.keep elOtc_good (ho.same fun x hx => hx) fun x hx => ⟨Nat.lt_of_lt_of_le hx.1 ho.size, hx.2⟩
/-- What a function that values states does. -/
def SolveAt (f : FuncId) (c : Chs) (n : Nat) : Prop := ∀ (s : Cst), leftC c s = n → OkS c s → ∀ (bv wv pv ov : Value) (F : Nat → Prop) (b N : Nat) (D : DataW Unit) (w : World), ChAt w F bv wv pv ov c → (∀ x, F x → x < w.heap.size ∧ x ≠ b) → Vals w b N D → Known c D → N + cntV n ≤ 2000000000000000000 →
  Calls Tryz.prog f #[chV c bv wv pv ov, stV s, .map (some b)] w fun e w' => e = .returned (.int .i64 (valS c s)) ∧ Only b w w' ∧ ∃ D', Vals w' b (N + cntV n) D' ∧ Known c D'
theorem prod_bd {x y : Int} {n : Nat} (hn : n ≤ 11) (hx : 1 ≤ x ∧ x ≤ 16) (hy : 0 ≤ y ∧ y ≤ pow16 n) : 0 ≤ x * y ∧ x * y ≤ 281474976710656 := by
  have h1 : pow16 n ≤ 17592186044416 := by
    have h2 := (pow16_le (n := n + 1) (by omega)).2
    rw [pow16] at h2; omega
  refine ⟨Int.mul_nonneg (by omega) hy.1, ?_⟩
  have := Int.mul_le_mul hx.2 (Int.le_trans hy.2 h1) hy.1 (by omega)
  omega
set_option maxRecDepth 100000 in
set_option maxHeartbeats 8000000 in
theorem ch44_solve_at (c : Chs) (hc : OkC c) (n : Nat) (ih : ∀ k, n = k + 1 → SolveAt 62 c k) : SolveAt 62 c n := by
  intro s hl hs bv wv pv ov F b N D w h hF hown hkn hN
  have hkey := key_of (hs.smol hc)
  have hn12 := left_le hc hs
  rw [hl] at hn12
  obtain ⟨z, hz⟩ : ∃ z, z = valS c s := ⟨_, rfl⟩
  have hbd := valS_bd hc hs
  rw [hl] at hbd
  have hp16 := pow16_le hn12
  have hz0 : 0 ≤ z ∧ z ≤ 281474976710656 := by rw [hz]; omega
  have hit : Maps.has D (keyS s) = true → D.atKey (keyS s) (.lit (.int .i64 0)) = .lit (.int .i64 z) := fun hh => by rw [hz]; exact hkn s hs hh
  have hput : ∀ (D2 : DataW Unit), Known c D2 → IsMap D2 → Known c (D2.put (keyS s) (.lit (.int .i64 z))) := fun D2 h1 h2 => by rw [hz]; exact h1.put h2 hc hs
  have hsol : Sol w _ b N c bv wv pv ov s := Sol.new hown hkn
  have kst := fun W (hW : Only b w W) => ch44_status c s bv wv pv ov W ((h.keep (hW.same hF) fun x hx => Nat.lt_of_lt_of_le (hF x hx).1 hW.size)) hs
  have kmv := fun (h1 : stC c s = 1) W (hW : Only b w W) => ch44_moves c s bv wv pv ov W ((h.keep (hW.same hF) fun x hx => Nat.lt_of_lt_of_le (hF x hx).1 hW.size)) hc hs h1
  have ken := fun W (hW : Only b w W) => ch44_power c s bv wv pv ov W ((h.keep (hW.same hF) fun x hx => Nat.lt_of_lt_of_le (hF x hx).1 hW.size)) hc hs
  have hend : stC c s ≠ 1 → (if stC c s = 2 then pow16 (leftC c s) else 0) = z := fun h1 => by
    have := stC_bd c s
    rw [hz]
    by_cases h2 : stC c s = 2
    · rw [if_pos h2, valS_won h2]
    · rw [if_neg h2, valS_lost hs (by omega)]
  have HA := Lib.hid h
  have HF := Lib.hid hF
  have HKN := Lib.hid hkn
  rw [← hz]
  clear hbd hp16
  obtain ⟨A, ca, rfl, hc1, hc2⟩ := h.mdl.bat.shape
  obtain ⟨A1, ca1, rfl, hc3, hc4⟩ := h.mdl.bow.shape
  obtain ⟨A2, ca2, rfl, hc5, hc6⟩ := h.bow.shape
  obtain ⟨A3, ca3, rfl, hc7, hc8⟩ := h.ord.shape
  unfold chV stV at kst kmv ken ⊢
  unfold stV at hkey
  have HSOL := Lib.hid hsol
  have HKEY := Lib.hid hkey
  have HV2 := Lib.hid (vals_below hown (CSB.new w c (.slice A c.mdl.bats.length ca) (.slice A1 c.mdl.bows.length ca1) (.slice A2 c.bows.length ca2) (.slice A3 c.ord.length ca3) s).bel)
  have HPUT := Lib.hid hput
  clear hsol hkey h hF hown hput
  obtain ⟨y0, y1, y2, y3, y4, y5, y6, t0, t1, t2, t3, t4⟩ := HSOL.out.cells
  clear y0 y1 y2 y3 y4 y5 y6 t0 t1 t2 t3 t4
  cases hh : Maps.has D (keyS s)
  case true =>
    have HIT := Lib.hid (hit hh)
    clear hit ih kst kmv ken hend hz hl hs hc hkn
    go_enter Tryz.func62, Tryz.ntmps62
    go_wp2_with (at_lookup; refine wpList_lookup_own_ok_int _ rfl _ _ 127 rfl 79 2 .i64 law44 Tryz.underlying127 Tryz.underlying2 (zero_i64 _) b N D rfl HV2.out _ _ rfl HKEY.out ?_; intro cc hat hwc; have HC := Lib.hid (show cc = z from by have := hat.symm.trans HIT.out; injection this with this; injection this); clear hat hwc)
    go_ret
    exact ⟨ret_i HC.out, HSOL.out.only, D, HV2.out.mono (by omega), HKN.out⟩
  case false =>
    clear hit
    obtain ⟨st, hst⟩ : ∃ x, x = stC c s := ⟨_, rfl⟩
    have hst3 := stC_bd c s
    rw [← hst] at kst kmv hend hst3
    by_cases h1 : st = 1
    case neg =>
      have HSt := Lib.hid hst
      have KST := Lib.hid kst
      have hcn : 1 ≤ cntV n := by cases n <;> rw [cntV] <;> omega
      have tok0 : True := trivial
      by_cases h2 : st = 2
      · have he := hend h1
        rw [if_pos h2] at he
        rw [he] at ken
        have KEN := Lib.hid ken
        have e2 : (st == 2) = true := beq_iff_eq.2 h2
        clear kst kmv ken hend hst hst3 h1 h2 he ih hl hs hc hkn hz hn12
        go_enter Tryz.func62, Tryz.ntmps62
        go_wp2_with (first
          | (at_lookup; refine wpList_lookup_own_ok_int _ rfl _ _ 127 rfl 79 2 .i64 law44 Tryz.underlying127 Tryz.underlying2 (zero_i64 _) b N D rfl HV2.out _ _ rfl HKEY.out ?_; intro cc hat hwc; clear hat hwc)
          | (clear tok0; go_at_call 59; refine (KST.out _ HSOL.out.only).mono ?_; rintro e w2 ⟨rfl, hb2⟩; have HS2 := Lib.hid (HSOL.out.below hb2); obtain ⟨y0, y1, y2, y3, y4, y5, y6, t0, t1, t2, t3, t4⟩ := HS2.out.cells; clear hb2; have tok1 : True := trivial)
          | (clear tok1; go_at_call 84; refine (KEN.out _ HS2.out.only).mono ?_; rintro e w3 ⟨rfl, hb3⟩; have HS3 := Lib.hid (HS2.out.below hb3); clear y0 y1 y2 y3 y4 y5 y6 t0 t1 t2 t3 t4; obtain ⟨y0, y1, y2, y3, y4, y5, y6, t0, t1, t2, t3, t4⟩ := HS3.out.cells; obtain ⟨D2, hv9, hk9⟩ := HS3.out.vals; have HV9 := Lib.hid hv9; have HK9 := Lib.hid hk9; clear hb3 hv9 hk9; have tok2 : True := trivial)
          | (at_mapUpdate; refine wpList_mapUpdate_own _ rfl _ _ _ 127 rfl 79 2 law44 Tryz.underlying127 _ b N D2 rfl HV9.out (by unfold maxLen; omega) _ _ _ rfl rfl HKEY.out _ [] (plainElem_int Tryz.underlying2 (WalkArith.wf_i64 (by omega))) ?_; intro w9 hown9 hgrow9; have HG9 := Lib.hid hgrow9; have HO9 := Lib.hid hown9; clear hgrow9 hown9))
        go_ret
        exact ⟨rfl, HS3.out.only.trans HG9.out, _, HO9.out.mono (by omega), HPUT.out _ HK9.out HV9.out.isMap⟩
      · have he := hend h1
        rw [if_neg h2] at he
        subst he
        have e2 : (st == 2) = false := beq_eq_false_iff_ne.2 h2
        have e1 : (st == 1) = false := beq_eq_false_iff_ne.2 h1
        clear kst kmv ken hend hst hst3 h1 h2 ih hl hs hc hkn hz hn12
        go_enter Tryz.func62, Tryz.ntmps62
        go_wp2_with (first
          | (at_lookup; refine wpList_lookup_own_ok_int _ rfl _ _ 127 rfl 79 2 .i64 law44 Tryz.underlying127 Tryz.underlying2 (zero_i64 _) b N D rfl HV2.out _ _ rfl HKEY.out ?_; intro cc hat hwc; clear hat hwc)
          | (clear tok0; go_at_call 59; refine (KST.out _ HSOL.out.only).mono ?_; rintro e w3 ⟨rfl, hb2⟩; have HS3 := Lib.hid (HSOL.out.below hb2); obtain ⟨y0, y1, y2, y3, y4, y5, y6, t0, t1, t2, t3, t4⟩ := HS3.out.cells; obtain ⟨D2, hv9, hk9⟩ := HS3.out.vals; have HV9 := Lib.hid hv9; have HK9 := Lib.hid hk9; clear hb2 hv9 hk9; have tok1 : True := trivial)
          | (at_mapUpdate; refine wpList_mapUpdate_own _ rfl _ _ _ 127 rfl 79 2 law44 Tryz.underlying127 _ b N D2 rfl HV9.out (by unfold maxLen; omega) _ _ _ rfl rfl HKEY.out _ [] (plainElem_int Tryz.underlying2 (WalkArith.wf_i64 (by omega))) ?_; intro w9 hown9 hgrow9; have HG9 := Lib.hid hgrow9; have HO9 := Lib.hid hown9; clear hgrow9 hown9))
        go_ret
        exact ⟨rfl, HS3.out.only.trans HG9.out, _, HO9.out.mono (by omega), HPUT.out _ HK9.out HV9.out.isMap⟩
    case pos =>
      have h1' : stC c s = 1 := by rw [← hst]; exact h1
      obtain ⟨hneed, hstr, k0, hk0, hk1⟩ := left_run hs h1'
      obtain rfl : n = k0 + 1 := by omega
      have hih := ih k0 rfl
      obtain ⟨l, hle⟩ : ∃ l, mvC c s = l := ⟨_, rfl⟩
      obtain ⟨_, _, _, _, _, _, _, _, _, _, _, _, _, _, _, hd⟩ := mvC_at hc hs h1'
      rw [hle] at hd
      have hok := checkD_ok hd
      have hlen : l.length ≤ 16 := hok.len.2
      have hoe : ∀ (k : Nat) (hk : k < l.length), OkO l[k] := fun k hk => hok.each _ (List.getElem_mem hk)
      have kstep := fun k (hk : k < l.length) W => ch44_step c s l[k] A A1 A2 A3 ca ca1 ca2 ca3 W hc hs h1' ⟨(hoe k hk).r0, (hoe k hk).r7⟩
      have hok2 : ∀ (k : Nat) (hk : k < l.length), leftC c (stepC c s l[k]) = k0 ∧ OkS c (stepC c s l[k]) := fun k hk => ⟨by have := left_step hc hs h1' (o := l[k]) (hoe k hk).r0; omega, (stepC_ok hc hs h1' (hoe k hk).r0).1⟩
      have krec := fun k (hk : k < l.length) N' D' W => hih (stepC c s l[k]) (hok2 k hk).1 (hok2 k hk).2 (.slice A c.mdl.bats.length ca) (.slice A1 c.mdl.bows.length ca1) (.slice A2 c.bows.length ca2) (.slice A3 c.ord.length ca3) F b N' D' W
      have hprod : ∀ (k : Nat) (hk : k < l.length), 0 ≤ l[k].wt * valS c (stepC c s l[k]) ∧ l[k].wt * valS c (stepC c s l[k]) ≤ 281474976710656 := fun k hk => prod_bd (n := k0) (by omega) ⟨(hoe k hk).w1, (hoe k hk).w16⟩ (by have := valS_bd hc (hok2 k hk).2; rw [(hok2 k hk).1] at this; exact this)
      have hsum : ∀ (k : Nat) (hk : k < l.length) (sm : Int), sm = sumI ((l.take k).map fun o => o.wt * valS c (stepC c s o)) → sm + l[k].wt * valS c (stepC c s l[k]) = sumI ((l.take (k + 1)).map fun o => o.wt * valS c (stepC c s o)) := fun k hk sm h => by
        rw [h, sum_take (fun o : Otc => o.wt * valS c (stepC c s o)) hk]
      have hfin : sumI (l.map fun o => o.wt * valS c (stepC c s o)) = z := by rw [hz, valS_run hc hs h1', hle]
      obtain ⟨q, hq⟩ : ∃ q, q = cntV k0 := ⟨_, rfl⟩
      have hcnt : cntV (k0 + 1) = 1 + 16 * q := by rw [cntV, hq]
      rw [hcnt] at hN ⊢
      unfold chV stV at krec
      unfold stV at kstep
      rw [← hq] at krec
      have kmv1 := kmv h1
      rw [hle] at kmv1
      rw [h1] at kst
      have KST := Lib.hid kst
      have KMV := Lib.hid kmv1
      have KSTEP := Lib.hid kstep
      have KREC := Lib.hid krec
      have HPR := Lib.hid hprod
      have HSUM := Lib.hid hsum
      have HFIN := Lib.hid hfin
      have tok0 : True := trivial
      clear kst kmv kmv1 ken hend hst hst3 h1 h1' hneed hstr hk0 hk1 hih hle hd hok hoe kstep hok2 krec hprod hsum hfin hq hcnt ih hl hs hc hkn hz hn12
      go_enter Tryz.func62, Tryz.ntmps62
      go_wp2_with (first
        | (at_lookup; refine wpList_lookup_own_ok_int _ rfl _ _ 127 rfl 79 2 .i64 law44 Tryz.underlying127 Tryz.underlying2 (zero_i64 _) b N D rfl HV2.out _ _ rfl HKEY.out ?_; intro cc hat hwc; clear hat hwc)
        | (clear tok0; go_at_call 59; refine (KST.out _ HSOL.out.only).mono ?_; rintro e w2 ⟨rfl, hb2⟩; have HS2 := Lib.hid (HSOL.out.below hb2); obtain ⟨y0, y1, y2, y3, y4, y5, y6, t0, t1, t2, t3, t4⟩ := HS2.out.cells; clear hb2; have tok1 : True := trivial)
        | (clear tok1; go_at_call 60; refine (KMV.out _ HS2.out.only).mono ?_; rintro e w3 ⟨A4, n4, k4, rfl, hb3, hs3⟩; obtain ⟨Az, kz, hze, hz1, hz2⟩ := hs3.shape; have hn4 : n4 = l.length := (by injection hze); subst hn4; have HS3 := Lib.hid (HS2.out.below hb3); have HL3 := Lib.hid (hs3.keep (G := fun x => x < w3.heap.size ∧ x ≠ b) elOtc_good (Same.refl _ _) fun x hx => ⟨hx.2, by have := HS2.out.blt; have := HS2.out.only.size; omega⟩); clear y0 y1 y2 y3 y4 y5 y6 t0 t1 t2 t3 t4; obtain ⟨y0, y1, y2, y3, y4, y5, y6, t0, t1, t2, t3, t4⟩ := HS3.out.cells; clear hb3 hs3 hze hz1 hz2; have tok2 : True := trivial))
      go_loopw [9, 34] (fun v i wr => ∃ (k : Nat) (sm : Int), k ≤ l.length ∧ i = .int .i64 k ∧ v = .int .i64 sm ∧ 0 ≤ sm ∧ sm ≤ 281474976710656 * k ∧ Hid (Sol w wr b (N + k * q) c (.slice A c.mdl.bats.length ca) (.slice A1 c.mdl.bows.length ca1) (.slice A2 c.bows.length ca2) (.slice A3 c.ord.length ca3) s) ∧ Hid (Sl 3 elOtc wr (fun x => x < wr.heap.size ∧ x ≠ b) (.slice A4 l.length k4) l) ∧ Hid (sm = sumI ((l.take k).map fun o => o.wt * valS c (stepC c s o)))) (fun _ i _ => l.length - (intOf i).toNat)
      case atStart => exact ⟨0, 0, Nat.zero_le _, rfl, rfl, by omega, by omega, Lib.hid (by rw [Nat.zero_mul]; exact HS3.out), HL3, Lib.hid rfl⟩
      case round =>
        clear HS2 HS3 HL3 y0 y1 y2 y3 y4 y5 y6 t0 t1 t2 t3 t4
        obtain ⟨k, sm, hk, rfl, rfl, hs0, hs1, HS, HL, hss⟩ := hrel
        by_cases hlt : k < l.length
        · obtain ⟨b0, o, rfl, hbl, g0, g1, g2⟩ := otc_at HL.out hlt
          have hp := HPR.out k hlt
          have hst := HSUM.out k hlt sm hss.out
          have kS := KSTEP.out k hlt
          have kR := KREC.out k hlt
          obtain ⟨s', hs'⟩ : ∃ x, x = stepC c s l[k] := ⟨_, rfl⟩
          rw [← hs'] at hp hst
          simp only [← hs'] at kS kR
          obtain ⟨vv, hvv⟩ : ∃ x, x = valS c s' := ⟨_, rfl⟩
          rw [← hvv] at hp hst
          simp only [← hvv] at kR
          obtain ⟨⟨pr, pw, pt⟩, hp'⟩ : ∃ p, p = l[k] := ⟨_, rfl⟩
          rw [← hp'] at g0 g1 g2 hp hst
          simp only [← hp'] at kS
          dsimp only at g0 g1 g2 hp hst kS
          obtain ⟨hp0, hp1⟩ := hp
          have hkq : k * q + q ≤ 16 * q := by have := Nat.mul_le_mul_right q (show k + 1 ≤ 16 by omega); rw [Nat.add_mul, Nat.one_mul] at this; exact this
          have HST := Lib.hid hst
          have KS := Lib.hid kS
          have KR := Lib.hid kR
          have HKQ := Lib.hid hkq
          clear hst kS kR hs' hvv hp' hss hkq
          go_wp2
          have HSA := Lib.hid (HS.out.alloc (.cells #[.int .i64 pr, .bool pw, .int .i64 pt] 82)).drew
          have HLA := Lib.hid (sl_only HL.out (Only.of_below (g := b) (Below.drew (Below.alloc (Below.refl wr.heap.size wr) (Nat.le_refl _) (.cells #[.int .i64 pr, .bool pw, .int .i64 pt] 82)))))
          have HCA := Lib.hid (Blk.new wr 82 #[.int .i64 pr, .bool pw, .int .i64 pt]).drew
          obtain ⟨y0, y1, y2, y3, y4, y5, y6, t0, t1, t2, t3, t4⟩ := HSA.out.cells
          have u0 := HCA.out.cell 0
          have u1 := HCA.out.cell 1
          have u2 := HCA.out.cell 2
          have tok2 : True := trivial
          have hwb : b < wr.heap.size := by have := HS.out.blt; have := HS.out.only.size; omega
          go_region_held3 (fun w' => w'.cell? ⟨w.heap.size, 0, none⟩ = some (.slice A c.mdl.bats.length ca) ∧ w'.cell? ⟨w.heap.size, 1, none⟩ = some (.slice A1 c.mdl.bows.length ca1) ∧ w'.cell? ⟨w.heap.size, 2, none⟩ = some (.slice A2 c.bows.length ca2) ∧ w'.cell? ⟨w.heap.size, 3, none⟩ = some (.int .i64 c.over) ∧ w'.cell? ⟨w.heap.size, 4, none⟩ = some (.int .i64 c.done) ∧ w'.cell? ⟨w.heap.size, 5, none⟩ = some (.int .i64 c.need) ∧ w'.cell? ⟨w.heap.size, 6, none⟩ = some (.slice A3 c.ord.length ca3) ∧ w'.cell? ⟨w.heap.size + 1, 0, none⟩ = some (.int .i64 s.ball) ∧ w'.cell? ⟨w.heap.size + 1, 1, none⟩ = some (.int .i64 s.need) ∧ w'.cell? ⟨w.heap.size + 1, 2, none⟩ = some (.int .i64 s.str) ∧ w'.cell? ⟨w.heap.size + 1, 3, none⟩ = some (.int .i64 s.par) ∧ w'.cell? ⟨w.heap.size + 1, 4, none⟩ = some (.int .i64 s.nxt) ∧ w'.cell? ⟨wr.heap.size, 0, none⟩ = some (.int .i64 pr) ∧ w'.cell? ⟨wr.heap.size, 1, none⟩ = some (.bool pw) ∧ w'.cell? ⟨wr.heap.size, 2, none⟩ = some (.int .i64 pt)) (first | exact ⟨y0, y1, y2, y3, y4, y5, y6, t0, t1, t2, t3, t4, u0, u1, u2⟩ | go_keep) (first
            | (clear tok2; go_at_call 85; refine (KS.out _).mono ?_; rintro e w5 ⟨rfl, hb5⟩; have HS5 := Lib.hid (HSA.out.below hb5); have HL5 := Lib.hid (sl_only HLA.out (Only.of_below hb5)); have HC5 := Lib.hid (HCA.out.below hb5 HCA.out.lt); obtain ⟨y0, y1, y2, y3, y4, y5, y6, t0, t1, t2, t3, t4⟩ := HS5.out.cells; have u0 := HC5.out.cell 0; have u1 := HC5.out.cell 1; have u2 := HC5.out.cell 2; clear hb5; have tok3 : True := trivial)
            | (clear tok3; go_at_call 62; obtain ⟨D5, hv5, hk5⟩ := HS5.out.vals; refine (KR.out _ D5 _ (HA.out.keep (HS5.out.only.same HF.out) fun _ h => h) (fun x hx => ⟨Nat.lt_of_lt_of_le (HF.out x hx).1 HS5.out.only.size, (HF.out x hx).2⟩) hv5 hk5 (by have := HKQ.out; omega)).mono ?_; rintro e w6 ⟨rfl, ho6, hv6⟩; have HS6 := Lib.hid (show Sol w w6 b (N + (k + 1) * q) c (.slice A c.mdl.bats.length ca) (.slice A1 c.mdl.bows.length ca1) (.slice A2 c.bows.length ca2) (.slice A3 c.ord.length ca3) s from HS5.out.into ho6 (by obtain ⟨D7, h1, h2⟩ := hv6; exact ⟨D7, h1.mono (by rw [Nat.add_mul]; omega), h2⟩)); have HL6 := Lib.hid (sl_only HL5.out ho6); have HC6 := Lib.hid (HC5.out.grown ho6 (by intro e; injection e with e; omega)); obtain ⟨y0, y1, y2, y3, y4, y5, y6, t0, t1, t2, t3, t4⟩ := HS6.out.cells; have u0 := HC6.out.cell 0; have u1 := HC6.out.cell 1; have u2 := HC6.out.cell 2; clear ho6 hv6 hv5 hk5; have tok4 : True := trivial))
          all_goals go_wp2
          go_roundw
          case rel => exact ⟨k + 1, sm + pt * vv, by omega, by go_num, by rw [IntWalk.i64_in (pt * vv) (by omega), IntWalk.i64_in (sm + pt * vv) (by omega)], by omega, by push_cast; omega, HS6, HL6, HST⟩
          case measure => simp [intOf]; omega
        · obtain rfl : k = l.length := by omega
          have hs2 := hss.out
          rw [List.take_of_length_le (Nat.le_refl _), HFIN.out] at hs2
          subst hs2
          obtain ⟨D2, hv9, hk9⟩ := HS.out.vals
          have HV9 := Lib.hid hv9
          have HK9 := Lib.hid hk9
          obtain ⟨y0, y1, y2, y3, y4, y5, y6, t0, t1, t2, t3, t4⟩ := HS.out.cells
          have hlq : l.length * q ≤ 16 * q := Nat.mul_le_mul_right q hlen
          obtain ⟨NN, hNN⟩ : ∃ NN, NN = N + l.length * q := ⟨_, rfl⟩
          rw [← hNN] at HV9
          have hN9 : NN + 1 ≤ N + (1 + 16 * q) := by omega
          have hN8 : NN < 2000000000000000000 := by omega
          clear hv9 hk9 hss hlq hNN
          go_wp2_with (at_mapUpdate; refine wpList_mapUpdate_own _ rfl _ _ _ 127 rfl 79 2 law44 Tryz.underlying127 _ b NN D2 rfl HV9.out (by unfold maxLen; omega) _ _ _ rfl rfl HKEY.out _ [] (plainElem_int Tryz.underlying2 (WalkArith.wf_i64 (by omega))) ?_; intro w9 hown9 hgrow9; have HG9 := Lib.hid hgrow9; have HO9 := Lib.hid hown9; clear hgrow9 hown9)
          go_ret
          exact ⟨rfl, HS.out.only.trans HG9.out, _, HO9.out.mono (by omega), HPUT.out _ HK9.out HV9.out.isMap⟩
theorem ch44_solve (c : Chs) (hc : OkC c) : ∀ n, SolveAt 62 c n
  | 0 => ch44_solve_at c hc 0 (fun k h => by omega)
  | n + 1 => ch44_solve_at c hc (n + 1) fun k h => by
      obtain rfl : n = k := by omega
      exact ch44_solve c hc n
end Go.Proofs.YtjchapoggmipbaaGreatDoor

namespace Go.Proofs.YtjchapoggmipbaaGreatDoor
open Go.RowKit Go.Maps

def elOst (_ : World) (_ : Nat → Prop) (cs : List Value) (s : Ost) : Prop := cs = [.int .i64 s.ball, .int .i64 s.need, .int .i64 s.str, .int .i64 s.par, .int .u16 s.wait]
theorem elOst_good : Good elOst := ⟨fun h _ _ => h⟩
/-- What holds of the states that follow. -/
structure NextOk (c : Chs) (s x : Ost) (y : Int) : Prop where
  ok : OkOs c x
  rank : rankO c x < rankO c s
  v0 : 0 ≤ vO c x ∧ vO c x ≤ 281474976710656
  p0 : 0 ≤ y * vO c x ∧ y * vO c x ≤ 281474976710656
theorem vO_48 {c : Chs} (ht : OkT c) {x : Ost} (hx : OkOs c x) : 0 ≤ vO c x ∧ vO c x ≤ 281474976710656 := by
  have h1 := vO_bd ht _ x hx rfl
  have h2 := pow16_le (leftO_le ht hx)
  omega
/-- The rows under way; they lie behind the world wB. -/
structure NxO (w wB W : World) (c : Chs) (bv wv pv ov : Value) (s : Ost) (v1 v2 : Value) (l1 : List Ost) (l2 : List Int) (n : Nat) : Prop where
  b0 : OSB w wB w.heap.size c bv wv pv ov s
  o1 : OwnSl 5 elOst 47 wB.heap.size W v1 l1
  o2 : OwnSl 1 elInt 2 wB.heap.size W v2 l2
  sb : Below wB.heap.size wB W
  n1 : l1.length ≤ n
  n2 : l2.length ≤ n
section
variable {w wB W W' : World} {c : Chs} {bv wv pv ov v1 v2 v' : Value} {s : Ost} {l1 : List Ost} {l2 : List Int} {n : Nat}
theorem NxO.base (h : NxO w wB W c bv wv pv ov s v1 v2 l1 l2 n) : OSB w W w.heap.size c bv wv pv ov s := h.b0.below h.sb
theorem NxO.below (h : NxO w wB W c bv wv pv ov s v1 v2 l1 l2 n) (hb : Below W.heap.size W W') : NxO w wB W' c bv wv pv ov s v1 v2 l1 l2 n := ⟨h.b0, h.o1.below elOst_good hb, h.o2.below elInt_good hb, h.sb.trans (hb.mono h.sb.size), h.n1, h.n2⟩
theorem NxO.alloc (h : NxO w wB W c bv wv pv ov s v1 v2 l1 l2 n) (o : Obj) : NxO w wB (W.alloc o) c bv wv pv ov s v1 v2 l1 l2 n := h.below (Below.alloc (Below.refl _ _) (Nat.le_refl _) o)
theorem NxO.le {m : Nat} (h : NxO w wB W c bv wv pv ov s v1 v2 l1 l2 n) (hm : n ≤ m) : NxO w wB W c bv wv pv ov s v1 v2 l1 l2 m := ⟨h.b0, h.o1, h.o2, h.sb, Nat.le_trans h.n1 hm, Nat.le_trans h.n2 hm⟩
theorem NxO.start (h : OSB w W w.heap.size c bv wv pv ov s) : NxO w W W c bv wv pv ov s (.slice none 0 0) (.slice none 0 0) [] [] 0 := ⟨h, OwnSl.nil _, OwnSl.nil _, Below.refl _ _, Nat.le_refl _, Nat.le_refl _⟩
end
theorem room8 {k n : Nat} (h : n ≤ k) (hk : k < 1000) : n + 1 ≤ maxLen ∧ (n + 1) * 8 ≤ 140737488355328 := by simp only [maxLen]; omega
theorem base2 {B : Nat} {W : World} (h : B ≤ W.heap.size) (o : Obj) : B ≤ (W.alloc o).heap.size := by simp; omega
/-- What nexts hands back. -/
def NxPost (w : World) (r : List Ost × List Int) (e : Ending) (w' : World) : Prop :=
  ∃ A n k A2 n2 k2, e = .returned (.tuple #[.slice A n k, .slice A2 n2 k2]) ∧ Below w.heap.size w w' ∧ Sl 5 elOst w' (fun b => w.heap.size ≤ b ∧ b < w'.heap.size) (.slice A n k) r.1 ∧ Sl 1 elInt w' (fun b => w.heap.size ≤ b ∧ b < w'.heap.size) (.slice A2 n2 k2) r.2
theorem NxO.post {w wB W : World} {c : Chs} {bv wv pv ov : Value} {s : Ost} {A A2 : Option Addr} {n k n2 k2 : Nat} {l1 : List Ost} {l2 : List Int} {m : Nat} (h : NxO w wB W c bv wv pv ov s (.slice A n k) (.slice A2 n2 k2) l1 l2 m) : NxPost w (l1, l2) (.returned (.tuple #[.slice A n k, .slice A2 n2 k2])) W :=
  ⟨_, _, _, _, _, _, rfl, h.base.bel, (h.o1.sl elOst_good).keep elOst_good (Same.refl _ _) fun b hb => ⟨Nat.le_trans h.b0.bel.size hb.1, hb.2⟩, (h.o2.sl elInt_good).keep elInt_good (Same.refl _ _) fun b hb => ⟨Nat.le_trans h.b0.bel.size hb.1, hb.2⟩⟩
end Go.Proofs.YtjchapoggmipbaaGreatDoor

namespace Go.Proofs.YtjchapoggmipbaaGreatDoor
open Go.RowKit Go.Maps

end Go.Proofs.YtjchapoggmipbaaGreatDoor
