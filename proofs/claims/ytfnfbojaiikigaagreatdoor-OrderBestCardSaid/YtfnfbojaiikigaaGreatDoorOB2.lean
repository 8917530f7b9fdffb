/- Several texts of this family in one: P81 P82 Y5 Y6 Y9 Y7 Y8 Y10 J10 Y11 Z2. -/
import Derived.Test.YtfnfbojaiikigaaGreatDoorYM1
import Derived.Test.YtfnfbojaiikigaaGreatDoorH3
import Derived.Test.YtfnfbojaiikigaaGreatDoorH11
import Derived.Laws.ShiftsVarLaws
set_option linter.unusedSimpArgs false
set_option linter.unusedVariables false
namespace Go.Proofs.YtfnfbojaiikigaaGreatDoor

end Go.Proofs.YtfnfbojaiikigaaGreatDoor

namespace Go.Proofs.YtfnfbojaiikigaaGreatDoor

/-- All of the first k but two. -/
def allW (k : Int) : Int := IntKind.u16.wrap (IntKind.u16.wrap (2 ^ k.toNat) - 1)
def oneW (a : Int) : Int := IntKind.u16.wrap (2 ^ a.toNat)
def lessW (k a b : Int) : Int := bits .andNot .u16 (allW k) (bits .or .u16 (oneW a) (oneW b))
theorem oneW_nat (i : Nat) (hi : i < 16) : oneW (i : Int) = ((2 ^ i : Nat) : Int) := by
  have hp : 2 ^ i < 65536 := Nat.pow_lt_pow_right (by decide) hi (n := 16)
  unfold oneW
  rw [Int.toNat_natCast, IntKind.wrap_u16]
  have : ((2 : Int) ^ i) = ((2 ^ i : Nat) : Int) := by push_cast; rfl
  rw [this]
  generalize 2 ^ i = q at hp
  omega
theorem allW_nat (k : Nat) (hk : k < 16) : allW (k : Int) = ((2 ^ k - 1 : Nat) : Int) := by
  have hp : 2 ^ k < 65536 := Nat.pow_lt_pow_right (by decide) hk (n := 16)
  have h0 : 0 < 2 ^ k := Nat.two_pow_pos k
  have h1 := oneW_nat k hk
  unfold oneW at h1
  unfold allW
  rw [h1, IntKind.wrap_u16]
  generalize 2 ^ k = q at hp h0
  omega
theorem or_lt (a b : Nat) (ha : a < 16) (hb : b < 16) : 2 ^ a ||| 2 ^ b < 65536 :=
  Nat.or_lt_two_pow (n := 16) (Nat.pow_lt_pow_right (by decide) ha) (Nat.pow_lt_pow_right (by decide) hb)
theorem lessW_nat (k a b : Nat) (hk : k < 16) (ha : a < 16) (hb : b < 16) : lessW k a b = (((2 ^ k - 1) &&& (65535 - (2 ^ a ||| 2 ^ b)) : Nat) : Int) := by
  have hp : 2 ^ k < 65536 := Nat.pow_lt_pow_right (by decide) hk (n := 16)
  have pa : 2 ^ a < 65536 := Nat.pow_lt_pow_right (by decide) ha (n := 16)
  have pb : 2 ^ b < 65536 := Nat.pow_lt_pow_right (by decide) hb (n := 16)
  unfold lessW
  rw [allW_nat k hk, oneW_nat a ha, oneW_nat b hb, u16_or_nat _ _ pa pb, u16_andNot_nat _ _ (by omega) (or_lt a b ha hb)]
theorem less_test (k a b j : Nat) (hk : k < 16) (ha : a < 16) (hb : b < 16) : ((2 ^ k - 1) &&& (65535 - (2 ^ a ||| 2 ^ b))).testBit j = (decide (j < k) && decide (j ≠ a) && decide (j ≠ b)) := by
  have ho := or_lt a b ha hb
  rw [Nat.testBit_and, Nat.testBit_two_pow_sub_one, show 65535 - (2 ^ a ||| 2 ^ b) = 2 ^ 16 - ((2 ^ a ||| 2 ^ b) + 1) by omega, Nat.testBit_two_pow_sub_succ (by omega), Nat.testBit_or, Nat.testBit_two_pow, Nat.testBit_two_pow]
  by_cases h1 : j < k
  · have h2 : j < 16 := by omega
    have e1 : decide (a = j) = decide (j = a) := decide_eq_decide.2 ⟨fun h => h.symm, fun h => h.symm⟩
    have e2 : decide (b = j) = decide (j = b) := decide_eq_decide.2 ⟨fun h => h.symm, fun h => h.symm⟩
    rw [e1, e2]
    simp [h1, h2]
  · simp [h1]
def openO (c : Chs) (a b : Int) : Ost := ⟨0, c.need, a, b, lessW c.ord.length a b⟩
theorem openO_bit {c : Chs} (ht : OkT c) {a b j : Nat} (ha : a < c.ord.length) (hb : b < c.ord.length) (hj : j < c.ord.length) : bitW (openO c a b).wait j = (decide (j ≠ a) && decide (j ≠ b)) := by
  have hp := ht.np
  show bitW (lessW _ _ _) _ = _
  rw [lessW_nat _ a b (by omega) (by omega) (by omega), bitW_nat _ j _ (by omega), less_test _ a b j (by omega) (by omega) (by omega)]
  · simp [hj]
  · have := Nat.and_le_left (n := 2 ^ c.ord.length - 1) (m := 65535 - (2 ^ a ||| 2 ^ b))
    have hq : 2 ^ c.ord.length < 65536 := Nat.pow_lt_pow_right (by decide) (show c.ord.length < 16 by omega) (n := 16)
    omega
theorem openO_ok {c : Chs} (ht : OkT c) {a b : Nat} (ha : a < c.ord.length) (hb : b < c.ord.length) (hne : a ≠ b) : OkOs c (openO c a b) ∧ vacO (openO c a b) = false ∧ leftO c (openO c a b) = c.bows.length := by
  have hp := ht.np
  have hneed := ht.ok.need
  have hq : 2 ^ c.ord.length < 65536 := Nat.pow_lt_pow_right (by decide) (show c.ord.length < 16 by omega) (n := 16)
  have hq0 : 0 < 2 ^ c.ord.length := Nat.two_pow_pos _
  have hle := Nat.and_le_left (n := 2 ^ c.ord.length - 1) (m := 65535 - (2 ^ a ||| 2 ^ b))
  have e := lessW_nat c.ord.length a b (by omega) (by omega) (by omega)
  refine ⟨⟨⟨Int.le_refl _, by show (0 : Int) ≤ _; omega⟩, ⟨by show 0 ≤ c.need; omega, Int.le_refl _⟩, ⟨by show -1 ≤ (a : Int); omega, by show (a : Int) < _; omega⟩, ⟨by show -1 ≤ (b : Int); omega, by show (b : Int) < _; omega⟩, ?_, ?_, by show (a : Int) ≠ (b : Int); omega, fun _ => ?_, fun _ => ?_⟩, ?_, ?_⟩
  · show 0 ≤ lessW _ _ _ ∧ lessW _ _ _ < 65536
    rw [e]; omega
  · show shrW (lessW _ _ _) _ = 0
    rw [e, shrW_nat _ _ (by omega), Nat.div_eq_of_lt (by omega)]; rfl
  · have := openO_bit ht ha hb ha
    rw [show (openO c a b).str = (a : Int) from rfl, this]; simp
  · have := openO_bit ht ha hb hb
    rw [show (openO c a b).par = (b : Int) from rfl, this]; simp
  · unfold vacO openO; simp
  · unfold leftO openO; simp
/-- The best pair: two loops. -/
def rowB (f : Int → Int → Int) (a : Nat) : Nat → (Int × Int) × Int → (Int × Int) × Int
  | 0, r => r
  | b + 1, r => if a = b then rowB f a b r else if (rowB f a b r).2 < f a b then (((a : Int), (b : Int)), f a b) else rowB f a b r
def allB (f : Int → Int → Int) (k : Nat) : Nat → (Int × Int) × Int → (Int × Int) × Int
  | 0, r => r
  | a + 1, r => rowB f a k (allB f k a r)
def bestS (c : Chs) (p : Int × Int) : (Int × Int) × Int := allB (fun a b => vO c (openO c a b)) c.ord.length c.ord.length (p, -1)
theorem rowB_ge (f : Int → Int → Int) (a : Nat) (r : (Int × Int) × Int) : ∀ k, r.2 ≤ (rowB f a k r).2 ∧ ∀ b, b < k → a ≠ b → f a b ≤ (rowB f a k r).2
  | 0 => ⟨Int.le_refl _, fun b h => by omega⟩
  | k + 1 => by
    obtain ⟨h1, h2⟩ := rowB_ge f a r k
    rw [rowB]
    by_cases e : a = k
    · rw [if_pos e]
      exact ⟨h1, fun b hb hne => h2 b (by omega) hne⟩
    · rw [if_neg e]
      by_cases hlt : (rowB f a k r).2 < f a k
      · rw [if_pos hlt]
        refine ⟨by show r.2 ≤ f a k; omega, fun b hb hne => ?_⟩
        show f a b ≤ f a k
        by_cases e2 : b = k
        · subst e2; exact Int.le_refl _
        · have := h2 b (by omega) hne; omega
      · rw [if_neg hlt]
        refine ⟨h1, fun b hb hne => ?_⟩
        by_cases e2 : b = k
        · subst e2; omega
        · exact h2 b (by omega) hne
theorem allB_ge (f : Int → Int → Int) (k : Nat) (r : (Int × Int) × Int) : ∀ n, r.2 ≤ (allB f k n r).2 ∧ ∀ a b, a < n → b < k → a ≠ b → f a b ≤ (allB f k n r).2
  | 0 => ⟨Int.le_refl _, fun a b h => by omega⟩
  | n + 1 => by
    obtain ⟨h1, h2⟩ := allB_ge f k r n
    obtain ⟨h3, h4⟩ := rowB_ge f n (allB f k n r) k
    rw [allB]
    refine ⟨by omega, fun a b ha hb hne => ?_⟩
    by_cases e : a = n
    · subst e; exact h4 b hb hne
    · have := h2 a b (by omega) hb hne; omega
/-- From where the loops start does not matter once a pair has been taken. -/
theorem rowB_same (f : Int → Int → Int) (a : Nat) {r q : (Int × Int) × Int} (h : r.2 = q.2) : ∀ k, (rowB f a k r).2 = (rowB f a k q).2 ∧ (rowB f a k r = rowB f a k q ∨ (rowB f a k r = r ∧ rowB f a k q = q))
  | 0 => ⟨h, .inr ⟨rfl, rfl⟩⟩
  | k + 1 => by
    obtain ⟨h1, h2⟩ := rowB_same f a h k
    rw [rowB, rowB]
    by_cases e : a = k
    · rw [if_pos e, if_pos e]; exact ⟨h1, h2⟩
    · rw [if_neg e, if_neg e, h1]
      by_cases hlt : (rowB f a k q).2 < f a k
      · rw [if_pos hlt, if_pos hlt]; exact ⟨rfl, .inl rfl⟩
      · rw [if_neg hlt, if_neg hlt]; exact ⟨h1, h2⟩
theorem allB_same (f : Int → Int → Int) (k : Nat) {r q : (Int × Int) × Int} (h : r.2 = q.2) : ∀ n, (allB f k n r).2 = (allB f k n q).2 ∧ (allB f k n r = allB f k n q ∨ (allB f k n r = r ∧ allB f k n q = q))
  | 0 => ⟨h, .inr ⟨rfl, rfl⟩⟩
  | n + 1 => by
    obtain ⟨h1, h2⟩ := allB_same f k h n
    rw [allB, allB]
    obtain ⟨h3, h4⟩ := rowB_same f n h1 k
    refine ⟨h3, ?_⟩
    rcases h2 with h2 | ⟨h5, h6⟩
    · left; rw [h2]
    · rcases h4 with h4 | ⟨h7, h8⟩
      · exact .inl h4
      · exact .inr ⟨h7.trans h5, h8.trans h6⟩
theorem bestS_same {c : Chs} (ht : OkT c) (p q : Int × Int) : bestS c p = bestS c q := by
  have hp := ht.np
  obtain ⟨h1, h2⟩ := allB_same (fun a b => vO c (openO c a b)) c.ord.length (r := (p, -1)) (q := (q, -1)) rfl c.ord.length
  rcases h2 with h2 | ⟨h3, _⟩
  · exact h2
  · exfalso
    have h4 := (allB_ge (fun a b => vO c (openO c a b)) c.ord.length (p, -1) c.ord.length).2 0 1 (by omega) (by omega) (by omega)
    rw [h3] at h4
    have h5 := (vO_bd ht _ _ (openO_ok ht (a := 0) (b := 1) (by omega) (by omega) (by omega)).1 rfl).1
    have h6 : vO c (openO c (0 : Nat) (1 : Nat)) ≤ -1 := h4
    omega
def bestOS (c : Chs) : (Int × Int) × Int × Int := if checkO c ≠ 0 then ((0, 0), 0, checkO c) else ((bestS c (0, 0)).1, (bestS c (0, 0)).2, 0)
/-- An order that is fixed: the numbers of its batters. -/
def fixF (n : Int) : List Int → List Int → Int
  | _, [] => 0
  | pre, x :: l => if x < 0 ∨ n ≤ x then 2 else if x ∈ pre then 7 else fixF n (pre ++ [x]) l
def getI (l : List Int) (x : Int) : Int := (l[x.toNat]?).getD 0
def fixC (c : Chs) (l : List Int) : Chs := setC c (l.map (getI c.ord))
def fixedS (c : Chs) (l : List Int) : Int × Int :=
  if checkO c ≠ 0 then (0, checkO c) else if l.length < 2 then (0, 9) else if fixF c.ord.length [] l ≠ 0 then (0, fixF c.ord.length [] l)
  else if checkC (fixC c l) ≠ 0 then (0, checkC (fixC c l)) else (valS (fixC c l) ⟨0, c.need, 0, 1, 2⟩, 0)
theorem fixF_ok {n : Int} : ∀ {l pre : List Int}, fixF n pre l = 0 → (∀ x ∈ l, 0 ≤ x ∧ x < n) ∧ (∀ x ∈ l, x ∉ pre) ∧ ∀ (i j : Nat) (hi : i < l.length) (hj : j < l.length), i ≠ j → l[i] ≠ l[j]
  | [], _, _ => ⟨by simp, by simp, fun i j hi => by simp at hi⟩
  | a :: l, pre, h => by
    rw [fixF] at h
    by_cases h1 : a < 0 ∨ n ≤ a
    · rw [if_pos h1] at h; cases h
    rw [if_neg h1] at h
    by_cases h2 : a ∈ pre
    · rw [if_pos h2] at h; cases h
    rw [if_neg h2] at h
    obtain ⟨k1, k2, k3⟩ := fixF_ok h
    have ha : a ∉ l := fun hm => k2 a hm (by simp)
    refine ⟨fun x hx => ?_, fun x hx => ?_, fun i j hi hj hne => ?_⟩
    · rcases List.mem_cons.1 hx with rfl | hx
      · omega
      · exact k1 x hx
    · rcases List.mem_cons.1 hx with rfl | hx
      · exact h2
      · exact fun hm => k2 x hx (by simp [hm])
    · match i, j with
      | 0, 0 => exact absurd rfl hne
      | 0, j + 1 => exact fun e => ha (by have e' : a = l[j]'(by simpa using hj) := e; rw [e']; exact List.getElem_mem _)
      | i + 1, 0 => exact fun e => ha (by have e' : l[i]'(by simpa using hi) = a := e; rw [← e']; exact List.getElem_mem _)
      | i + 1, j + 1 => exact k3 i j (by simpa using hi) (by simpa using hj) (by omega)
/-- A state of the chase with a fixed order beside one of the task. -/
structure SimO (c : Chs) (l : List Int) (s : Cst) (t : Ost) : Prop where
  ball : t.ball = s.ball
  need : t.need = s.need
  str : 0 ≤ s.str → s.str.toNat < l.length ∧ l[s.str.toNat]? = some t.str
  par : 0 ≤ s.par ∧ s.par.toNat < l.length ∧ l[s.par.toNat]? = some t.par
  wait : ∀ i : Nat, s.nxt ≤ i → ∀ x, l[i]? = some x → bitW t.wait x = true
theorem bestF_le {f : Int → Int} {w : Int} : ∀ {k : Nat} {i : Nat}, i < k → bitW w i = true → f i ≤ bestF f w k
  | 0, i, h, _ => by omega
  | k + 1, i, h, hb => by
    rw [bestF]
    by_cases e : i = k
    · subst e; rw [if_pos hb]; omega
    · have := bestF_le (f := f) (w := w) (k := k) (i := i) (by omega) hb
      split <;> omega
theorem fix_law {c : Chs} (ht : OkT c) {l : List Int} (hl : fixF c.ord.length [] l = 0) (hc' : OkC (fixC c l)) : ∀ (n : Nat) (s : Cst) (t : Ost), OkS (fixC c l) s → OkOs c t → SimO c l s t → 0 ≤ s.str → vacO t = false → leftO c t = n → chF (fixC c l) n s ≤ vO c t
  | 0, s, t, hs, hto, hm, h0, hv, hn => by
    unfold vO; rw [hn, chF, valO, hm.need]; exact Int.le_refl _
  | n + 1, s, t, hs, hto, hm, h0, hv, hn => by
    obtain ⟨l1, l2, l3⟩ := fixF_ok hl
    by_cases h1 : s.need = 0
    · rw [chF, if_pos h1, vO_won (by rw [hm.need]; exact h1), hn]; exact Int.le_refl _
    have hb : t.ball ≠ c.bows.length := fun e => by unfold leftO at hn; omega
    have hbs : s.ball ≠ c.bows.length := by rw [← hm.ball]; exact hb
    rw [chF, if_neg h1, if_neg (by omega), vO_run ht.ok hto (by rw [hm.need]; exact h1) hb hv]
    obtain ⟨_, _, _, _, _, _, _, _, _, _, _, _, _, _, _, hd⟩ := mvO_at ht.ok hto hb hv
    have hok := checkD_ok hd
    have hlen : (fixC c l).ord.length = l.length := by unfold fixC setC; simp
    obtain ⟨g1, g2⟩ := hm.str h0
    have em : mvC (fixC c l) s = mvO c t := by
      have hx := l1 _ (List.mem_of_getElem? g2)
      have e1 : (fixC c l).ord[s.str.toNat]? = some (getI c.ord t.str) := by
        unfold fixC setC
        dsimp only
        rw [List.getElem?_map, g2]; rfl
      have e2 : getI c.ord t.str = c.ord[t.str.toNat]'(by omega) := by unfold getI; rw [List.getElem?_eq_getElem (by omega)]; rfl
      have e3 : c.ord[t.str.toNat]? = some (getI c.ord t.str) := by rw [e2]; exact List.getElem?_eq_getElem _
      unfold mvO mvC cstO
      rw [e1]
      dsimp only
      rw [e3, hm.ball]
      rfl
    rw [em]
    refine sumI_le fun o ho => Int.mul_le_mul_of_nonneg_left ?_ (by have := (hok.each o ho).w1; omega)
    have ho0 := (hok.each o ho).r0
    have hst : stC (fixC c l) s = 1 := by
      unfold stC; rw [if_neg h1, if_neg]
      rintro (h | h)
      · omega
      · exact hbs h
    obtain ⟨k1, k2, k3⟩ := stepC_ok hc' hs hst ho0
    obtain ⟨j1, j2, j3⟩ := stepO_ok hto hb hv ho0
    have jl : leftO c (stepO c t o) = n := by unfold leftO at hn ⊢; rw [j2]; omega
    have esw : swapC (fixC c l) (s.ball + 1) o = swapC c (t.ball + 1) o := by rw [hm.ball]; rfl
    have hnd : (stepO c t o).need = (stepC (fixC c l) s o).need := by rw [j3, k3, hm.need]
    have hbl : (stepO c t o).ball = (stepC (fixC c l) s o).ball := by rw [j2, k2, hm.ball]
    have hpar := hm.par
    have hge := (vO_bd ht n _ j1 jl).1
    by_cases hne0 : (stepC (fixC c l) s o).need = 0
    · have : chF (fixC c l) n (stepC (fixC c l) s o) = pow16 n := by
        cases n with
        | zero => rw [chF, if_pos hne0]; rfl
        | succ m => rw [chF, if_pos hne0]
      rw [this, vO_won (by rw [hnd]; exact hne0), jl]; exact Int.le_refl _
    cases n with
    | zero =>
      rw [chF, if_neg hne0]; exact hge
    | succ m =>
    have hjb : (stepO c t o).ball ≠ c.bows.length := fun e => by unfold leftO at jl; omega
    have hjn : (stepO c t o).need ≠ 0 := by rw [hnd]; exact hne0
    by_cases hw : o.wick = true
    · by_cases hnx : s.nxt = (fixC c l).ord.length
      · have e : (stepC (fixC c l) s o).str = -1 := by unfold stepC; rw [if_pos hw, if_pos hnx]
        rw [chF, if_neg hne0, e, if_pos (by decide)]; exact hge
      · -- the next one comes in
        have hnx2 := hs.nxt
        have hi : s.nxt.toNat < l.length := by omega
        have hx := l1 _ (List.getElem_mem hi)
        obtain ⟨x, hxe⟩ : ∃ x, x = l[s.nxt.toNat] := ⟨_, rfl⟩
        rw [← hxe] at hx
        have hget : l[s.nxt.toNat]? = some x := by rw [hxe]; exact List.getElem?_eq_getElem hi
        have hbx := hm.wait s.nxt.toNat (by omega) x hget
        have hwt : (stepO c t o).wait = t.wait := by unfold stepO; split <;> rfl
        have hvac : vacO (stepO c t o) = true := by
          unfold vacO stepO
          rw [hw]
          split <;> simp
        obtain ⟨q1, q2, q3, q4⟩ := sendO_ok ht j1 hvac (i := x) hx (by rw [hwt]; exact hbx)
        have ql : leftO c (sendO (stepO c t o) x) = m + 1 := by unfold leftO at jl ⊢; rw [q3]; exact jl
        rw [vO_vac ht j1 hjn hjb hvac]
        obtain ⟨xn, hxn⟩ := Int.eq_ofNat_of_zero_le hx.1
        have hle := bestF_le (f := fun i => vO c (sendO (stepO c t o) i)) (w := (stepO c t o).wait) (k := c.ord.length) (i := xn) (by omega) (by rw [hwt, ← hxn]; exact hbx)
        refine Int.le_trans ?_ hle
        show _ ≤ vO c (sendO (stepO c t o) xn)
        rw [← hxn]
        have hst2 : (stepC (fixC c l) s o).nxt = s.nxt + 1 := by unfold stepC; rw [if_pos hw, if_neg hnx]; split <;> rfl
        have hwt2 : (sendO (stepO c t o) x).wait = clrW t.wait x := by rw [← hwt]; unfold sendO; split <;> rfl
        have hsw : ∀ i : Nat, s.nxt + 1 ≤ i → ∀ y, l[i]? = some y → bitW (clrW t.wait x) y = true := fun i hi2 y hy => by
          have hil := (List.getElem?_eq_some_iff.1 hy).1
          have hyy := (List.getElem?_eq_some_iff.1 hy).2
          have hym := l1 y (List.mem_of_getElem? hy)
          have hne : y ≠ x := by rw [hxe, ← hyy]; exact l3 i _ hil hi (by omega)
          have hp := ht.np
          rw [clrW_bit hto.w16 (by omega) (by omega), hm.wait i (by omega) y hy]
          simp [hne]
        refine fix_law ht hl hc' (m + 1) _ _ k1 q1 ⟨by rw [q3, hbl], by rw [q4, hnd], ?_, ?_, ?_⟩ ?_ q2 ql
        · intro hp0
          unfold stepC stepO sendO
          rw [if_pos hw, if_neg hnx, ← esw]
          by_cases hx2 : swapC (fixC c l) (s.ball + 1) o = true
          · rw [if_pos hx2, if_pos hx2]
            dsimp only
            have : ¬ t.par < 0 := by
              unfold vacO at hv
              rw [Bool.or_eq_false_iff, decide_eq_false_iff_not, decide_eq_false_iff_not] at hv
              exact hv.2
            rw [if_neg this]
            exact ⟨hpar.2.1, hpar.2.2⟩
          · rw [if_neg hx2, if_neg hx2, hw]
            dsimp only
            rw [if_pos (by simp)]
            exact ⟨hi, hget⟩
        · unfold stepC stepO sendO
          rw [if_pos hw, if_neg hnx, ← esw]
          by_cases hx2 : swapC (fixC c l) (s.ball + 1) o = true
          · rw [if_pos hx2, if_pos hx2]
            dsimp only
            have : ¬ t.par < 0 := by
              unfold vacO at hv
              rw [Bool.or_eq_false_iff, decide_eq_false_iff_not, decide_eq_false_iff_not] at hv
              exact hv.2
            rw [if_neg this]
            exact ⟨by omega, hi, hget⟩
          · rw [if_neg hx2, if_neg hx2, hw]
            dsimp only
            rw [if_pos (by simp)]
            exact hpar
        · rw [hst2, hwt2]
          exact hsw
        · unfold stepC
          rw [if_pos hw, if_neg hnx]
          split
          · exact hs.par.1
          · dsimp only; omega
    · have hwf : o.wick = false := by simpa using hw
      have hvac : vacO (stepO c t o) = false := by
        unfold vacO at hv ⊢
        unfold stepO
        rw [hwf]
        split
        · rw [Bool.or_comm]; simpa using hv
        · simpa using hv
      have hwt : (stepO c t o).wait = t.wait := by unfold stepO; split <;> rfl
      have hst2 : (stepC (fixC c l) s o).nxt = s.nxt := by unfold stepC; rw [if_neg hw]; split <;> rfl
      refine fix_law ht hl hc' (m + 1) _ _ k1 j1 ⟨hbl, hnd, ?_, ?_, by rw [hst2, hwt]; exact hm.wait⟩ ?_ hvac jl
      · intro hp0
        unfold stepC stepO
        rw [if_neg hw, ← esw, hwf]
        by_cases hx2 : swapC (fixC c l) (s.ball + 1) o = true
        · rw [if_pos hx2, if_pos hx2]
          exact ⟨hpar.2.1, hpar.2.2⟩
        · rw [if_neg hx2, if_neg hx2]
          exact ⟨g1, by simpa using g2⟩
      · unfold stepC stepO
        rw [if_neg hw, ← esw, hwf]
        by_cases hx2 : swapC (fixC c l) (s.ball + 1) o = true
        · rw [if_pos hx2, if_pos hx2]
          exact ⟨h0, g1, by simpa using g2⟩
        · rw [if_neg hx2, if_neg hx2]
          exact hpar
      · unfold stepC
        rw [if_neg hw]
        split
        · exact hs.par.1
        · exact h0
theorem fixed_le {c : Chs} {l : List Int} (h1 : (bestOS c).2.2 = 0) (h2 : (fixedS c l).2 = 0) : (fixedS c l).1 ≤ (bestOS c).2.1 := by
  unfold bestOS at h1 ⊢
  by_cases hc : checkO c ≠ 0
  · rw [if_pos hc] at h1; exact absurd h1 hc
  rw [if_neg hc]
  have hc0 : checkO c = 0 := by omega
  have ht := okT_of hc0
  unfold fixedS at h2 ⊢
  rw [if_neg hc] at h2 ⊢
  by_cases g1 : l.length < 2
  · rw [if_pos g1] at h2; cases h2
  rw [if_neg g1] at h2 ⊢
  by_cases g2 : fixF c.ord.length [] l ≠ 0
  · rw [if_pos g2] at h2; exact absurd h2 g2
  rw [if_neg g2] at h2 ⊢
  by_cases g3 : checkC (fixC c l) ≠ 0
  · rw [if_pos g3] at h2; exact absurd h2 g3
  rw [if_neg g3]
  have hl : fixF c.ord.length [] l = 0 := by omega
  have hc' := checkC_ok (c := fixC c l) (by omega)
  obtain ⟨l1, l2, l3⟩ := fixF_ok hl
  have hn0 : 0 < l.length := by omega
  have hn1 : 1 < l.length := by omega
  have b0 := l1 _ (List.getElem_mem hn0)
  have b1 := l1 _ (List.getElem_mem hn1)
  have hne := l3 0 1 hn0 hn1 (by omega)
  obtain ⟨a, ha⟩ := Int.eq_ofNat_of_zero_le b0.1
  obtain ⟨b, hb⟩ := Int.eq_ofNat_of_zero_le b1.1
  have ha2 : a < c.ord.length := by omega
  have hb2 : b < c.ord.length := by omega
  have hab : a ≠ b := fun e => hne (by rw [ha, hb, e])
  have hle := (allB_ge (fun a b => vO c (openO c a b)) c.ord.length ((0, 0), -1) c.ord.length).2 a b ha2 hb2 hab
  refine Int.le_trans ?_ hle
  show _ ≤ vO c (openO c a b)
  obtain ⟨o1, o2, o3⟩ := openO_ok ht ha2 hb2 hab
  have hlen : (fixC c l).ord.length = l.length := by unfold fixC setC; simp
  have hneed := ht.ok.need
  have hs : OkS (fixC c l) ⟨0, c.need, 0, 1, 2⟩ := ⟨⟨Int.le_refl _, by show (0 : Int) ≤ ((fixC c l).bows.length : Int); omega⟩, ⟨by show 0 ≤ c.need; omega, Int.le_refl _⟩, ⟨Int.le_refl _, by show (2 : Int) ≤ ((fixC c l).ord.length : Int); omega⟩, ⟨by show (-1 : Int) ≤ 0; decide, by show (0 : Int) < 2; decide⟩, ⟨by show (0 : Int) ≤ 1; decide, by show (1 : Int) < 2; decide⟩, by show (0 : Int) ≠ 1; decide, fun h => by cases h⟩
  have hlf : leftC (fixC c l) ⟨0, c.need, 0, 1, 2⟩ = c.bows.length := by unfold leftC fixC setC; simp
  show valS (fixC c l) ⟨0, c.need, 0, 1, 2⟩ ≤ _
  unfold valS
  rw [hlf]
  refine fix_law ht hl hc' c.bows.length _ _ hs o1 ⟨rfl, rfl, fun _ => ⟨hn0, ?_⟩, ⟨by show (0 : Int) ≤ 1; decide, hn1, ?_⟩, fun i hi x hx => ?_⟩ (Int.le_refl _) o2 o3
  · show l[0]? = some (a : Int)
    rw [List.getElem?_eq_getElem hn0, ha]
  · show l[1]? = some (b : Int)
    rw [List.getElem?_eq_getElem hn1, hb]
  · have hil := (List.getElem?_eq_some_iff.1 hx).1
    have hxx := (List.getElem?_eq_some_iff.1 hx).2
    have hi2 : 2 ≤ i := by have : (2 : Int) ≤ (i : Int) := hi; omega
    have bx := l1 x (List.mem_of_getElem? hx)
    obtain ⟨m, rfl⟩ := Int.eq_ofNat_of_zero_le bx.1
    rw [openO_bit ht ha2 hb2 (by omega)]
    have n0 := l3 i 0 hil hn0 (by omega)
    have n1 := l3 i 1 hil hn1 (by omega)
    rw [hxx, ha] at n0
    rw [hxx, hb] at n1
    have e0 : m ≠ a := fun e => n0 (by rw [e])
    have e1 : m ≠ b := fun e => n1 (by rw [e])
    simp [e0, e1]
end Go.Proofs.YtfnfbojaiikigaaGreatDoor

namespace Go.Proofs.YtfnfbojaiikigaaGreatDoor
open Go.RowKit

theorem Blk.put5 {w : World} {g : Nat} {t : TypeId} {a b c d e : Value} (h : Blk w g t #[a, b, c, d, e]) (x0 x1 x2 x3 x4 : Value) :
    Blk (((((w.setCell ⟨g, 0, none⟩ x0).setCell ⟨g, 1, none⟩ x1).setCell ⟨g, 2, none⟩ x2).setCell ⟨g, 3, none⟩ x3).setCell ⟨g, 4, none⟩ x4) g t #[x0, x1, x2, x3, x4] :=
  ((((h.set_ 0 x0).set_ 1 x1).set_ 2 x2).set_ 3 x3).set_ 4 x4
theorem below_set5 {B : Nat} {a w : World} (h : Below B a w) {g : Nat} (hg : B ≤ g) (x0 x1 x2 x3 x4 : Value) :
    Below B a (((((w.setCell ⟨g, 0, none⟩ x0).setCell ⟨g, 1, none⟩ x1).setCell ⟨g, 2, none⟩ x2).setCell ⟨g, 3, none⟩ x3).setCell ⟨g, 4, none⟩ x4) :=
  Below.setCell (Below.setCell (Below.setCell (Below.setCell (Below.setCell h hg x0) hg x1) hg x2) hg x3) hg x4
set_option maxRecDepth 100000 in
set_option maxHeartbeats 4000000 in
theorem ch44_moves (c : Chs) (s : Cst) (bv wv pv ov : Value) (w : World) (h : ChAt w (· < w.heap.size) bv wv pv ov c) (hc : OkC c) (hs : OkS c s) (h1 : stC c s = 1) :
    Calls Tryz.prog 48 #[chV c bv wv pv ov, stV s] w fun e w' => ∃ A n k, e = .returned (.slice A n k) ∧ Below w.heap.size w w' ∧ Sl 3 elOtc w' (fun b => w.heap.size ≤ b ∧ b < w'.heap.size) (.slice A n k) (mvC c s) := by
  unfold chV stV
  obtain ⟨ball, need, str, par, nxt⟩ := s
  obtain ⟨A, ca, rfl, hc1, hc2⟩ := h.mdl.bat.shape
  obtain ⟨A1, ca1, rfl, hc3, hc4⟩ := h.mdl.bow.shape
  obtain ⟨A2, ca2, rfl, hc5, hc6⟩ := h.bow.shape
  obtain ⟨A3, ca3, rfl, hc7, hc8⟩ := h.ord.shape
  have hx := CSB.new w c (.slice A c.mdl.bats.length ca) (.slice A1 c.mdl.bows.length ca1) (.slice A2 c.bows.length ca2) (.slice A3 c.ord.length ca3) ⟨ball, need, str, par, nxt⟩
  have HX := Lib.hid hx
  have HM := Lib.hid h
  obtain ⟨i, j, bt, bw, e1, e2, s0, s1, i0, i1, j0, j1, f1, f2, hsh, hq5⟩ := mvC_at hc hs h1
  have sn := hs.str.2
  have sx := hs.nxt.2
  have sb := hs.ball.1
  dsimp only at e1 e2 s0 s1 sn sx sb
  obtain ⟨a, rfl⟩ : ∃ a : Nat, str = (a : Int) := ⟨str.toNat, by omega⟩
  obtain ⟨e, rfl⟩ : ∃ a : Nat, ball = (a : Int) := ⟨ball.toNat, by omega⟩
  obtain ⟨i, rfl⟩ : ∃ a : Nat, i = (a : Int) := ⟨i.toNat, by omega⟩
  obtain ⟨j, rfl⟩ : ∃ a : Nat, j = (a : Int) := ⟨j.toNat, by omega⟩
  rw [Int.toNat_natCast] at e1 e2 f1 f2
  have la : a < c.ord.length := by omega
  have le : e < c.bows.length := by omega
  have li : i < c.mdl.bats.length := by omega
  have lj : j < c.mdl.bows.length := by omega
  have ga : c.ord[a] = (i : Int) := by rw [List.getElem?_eq_getElem la] at e1; exact Option.some.inj e1
  have ge : c.bows[e] = (j : Int) := by rw [List.getElem?_eq_getElem le] at e2; exact Option.some.inj e2
  have gi : c.mdl.bats[i] = bt := by rw [List.getElem?_eq_getElem li] at f1; exact Option.some.inj f1
  have gj : c.mdl.bows[j] = bw := by rw [List.getElem?_eq_getElem lj] at f2; exact Option.some.inj f2
  obtain ⟨b0, o0, rfl, hb0, z0⟩ := int_at h.ord la
  obtain ⟨b1, o1, rfl, hb1, z1⟩ := int_at h.bow le
  obtain ⟨b2, o2, v, rfl, hb2, hq3, z2, hv, hq1⟩ := bat_at h.mdl.bat li
  obtain ⟨b3, o3, rfl, hb3, hq4, z3, hq2⟩ := bow_at h.mdl.bow lj
  rw [ga] at z0
  rw [ge] at z1
  rw [gi] at hv
  rw [gj] at z3
  have ks := fun W (hW : Below w.heap.size w W) => m_Shift bt.dist v bw.shift W (hv.keep elOtc_good (Same.of_below hW) fun b h => Nat.lt_of_lt_of_le h hW.size)
  rw [hsh] at ks
  obtain ⟨n, hn⟩ : ∃ n, n = bw.shift := ⟨_, rfl⟩
  rw [← hn] at ks z3
  obtain ⟨l, hl⟩ : ∃ l, l = mvC c ⟨(e : Int), need, (a : Int), par, nxt⟩ := ⟨_, rfl⟩
  rw [← hl] at ks ⊢
  have KS := Lib.hid ks
  obtain ⟨W, hW⟩ : ∃ W, W = (w.alloc (.cells (chC c (.slice (some ⟨b2, o2, none⟩) c.mdl.bats.length ca) (.slice (some ⟨b3, o3, none⟩) c.mdl.bows.length ca1) (.slice (some ⟨b1, o1, none⟩) c.bows.length ca2) (.slice (some ⟨b0, o0, none⟩) c.ord.length ca3)) 28)).alloc (.cells #[.int .i64 (e : Int), .int .i64 need, .int .i64 (a : Int), .int .i64 par, .int .i64 nxt] 33) := ⟨_, rfl⟩
  have hx2 : CSB w W w.heap.size c (.slice (some ⟨b2, o2, none⟩) c.mdl.bats.length ca) (.slice (some ⟨b3, o3, none⟩) c.mdl.bows.length ca1) (.slice (some ⟨b1, o1, none⟩) c.bows.length ca2) (.slice (some ⟨b0, o0, none⟩) c.ord.length ca3) ⟨(e : Int), need, (a : Int), par, nxt⟩ := by rw [hW]; exact hx
  have y0 : W.cell? ⟨b0, o0 + a, none⟩ = some (.int .i64 (i : Int)) := (hx2.bel.cell (p := ⟨b0, o0 + a, none⟩) hb0).trans z0
  have y1 : W.cell? ⟨b1, o1 + e, none⟩ = some (.int .i64 (j : Int)) := (hx2.bel.cell (p := ⟨b1, o1 + e, none⟩) hb1).trans z1
  have y2 : W.cell? ⟨b2, o2 + i * 2 + 1, none⟩ = some v := (hx2.bel.cell (p := ⟨b2, o2 + i * 2 + 1, none⟩) hb2).trans z2
  have y3 : W.cell? ⟨b3, o3 + j * 2 + 1, none⟩ = some (.int .i64 n) := (hx2.bel.cell (p := ⟨b3, o3 + j * 2 + 1, none⟩) hb3).trans z3
  have HX2 := Lib.hid hx2
  have Z0 := Lib.hid z0
  have Z1 := Lib.hid z1
  have Z2 := Lib.hid z2
  have Z3 := Lib.hid z3
  have B0 := Lib.hid hb0
  have B1 := Lib.hid hb1
  have B2 := Lib.hid hb2
  have B3 := Lib.hid hb3
  have HW := Lib.hid hW
  have p1 : (0 : Int) ≤ (a : Int) := by omega
  have p2 : (a : Int) < (c.ord.length : Int) := by omega
  have p3 : (0 : Int) ≤ (e : Int) := by omega
  have p4 : (e : Int) < (c.bows.length : Int) := by omega
  have p5 : (0 : Int) ≤ (i : Int) := by omega
  have p6 : (i : Int) < (c.mdl.bats.length : Int) := by omega
  have p7 : (0 : Int) ≤ (j : Int) := by omega
  have p8 : (j : Int) < (c.mdl.bows.length : Int) := by omega
  clear hq1 hq2 hq3 hq4 hq5 ks hn hl hsh hv z0 z1 z2 z3 hb0 hb1 hb2 hb3 ga ge gi gj la le li lj e1 e2 f1 f2 s0 s1 i0 i1 j0 j1 sn sx sb h1 hs hc hx h HM HX hx2 hW y0 y1 y2 y3
  go_enter Tryz.func48, Tryz.ntmps48
  go_wp2
  unfold chC at HW
  rw [← HW.out]
  clear HW
  have y0 : W.cell? ⟨b0, o0 + a, none⟩ = some (.int .i64 (i : Int)) := (HX2.out.bel.cell (p := ⟨b0, o0 + a, none⟩) B0.out).trans Z0.out
  have y1 : W.cell? ⟨b1, o1 + e, none⟩ = some (.int .i64 (j : Int)) := (HX2.out.bel.cell (p := ⟨b1, o1 + e, none⟩) B1.out).trans Z1.out
  have y2 : W.cell? ⟨b2, o2 + i * 2 + 1, none⟩ = some v := (HX2.out.bel.cell (p := ⟨b2, o2 + i * 2 + 1, none⟩) B2.out).trans Z2.out
  have y3 : W.cell? ⟨b3, o3 + j * 2 + 1, none⟩ = some (.int .i64 n) := (HX2.out.bel.cell (p := ⟨b3, o3 + j * 2 + 1, none⟩) B3.out).trans Z3.out
  obtain ⟨x0, x1, x2, x3, x4, x5, x6, t0, t1, t2, t3, t4⟩ := HX2.out.cells
  dsimp only at t0 t1 t2 t3 t4
  have HXD := Lib.hid HX2.out.drew
  go_region_held3 (fun w' => w'.cell? ⟨w.heap.size, 0, none⟩ = some (.slice (some ⟨b2, o2, none⟩) c.mdl.bats.length ca) ∧ w'.cell? ⟨w.heap.size, 1, none⟩ = some (.slice (some ⟨b3, o3, none⟩) c.mdl.bows.length ca1) ∧ w'.cell? ⟨w.heap.size, 2, none⟩ = some (.slice (some ⟨b1, o1, none⟩) c.bows.length ca2) ∧ w'.cell? ⟨w.heap.size, 6, none⟩ = some (.slice (some ⟨b0, o0, none⟩) c.ord.length ca3) ∧ w'.cell? ⟨w.heap.size + 1, 0, none⟩ = some (.int .i64 (e : Int)) ∧ w'.cell? ⟨w.heap.size + 1, 2, none⟩ = some (.int .i64 (a : Int)) ∧ w'.cell? ⟨b0, o0 + a, none⟩ = some (.int .i64 (i : Int)) ∧ w'.cell? ⟨b1, o1 + e, none⟩ = some (.int .i64 (j : Int)) ∧ w'.cell? ⟨b2, o2 + i * 2 + 1, none⟩ = some v ∧ w'.cell? ⟨b3, o3 + j * 2 + 1, none⟩ = some (.int .i64 n)) (first | exact ⟨x0, x1, x2, x6, t0, t2, u0, u1, u2, u3⟩ | exact ⟨x0, x1, x2, x6, t0, t2, y0, y1, y2, y3⟩ | go_keep) ((go_at_call 90; refine (KS.out _ HXD.out.bel).mono ?_; rintro e4 w4 ⟨v4, rfl, hs4, hb4⟩; obtain ⟨A4, c4, rfl, hc41, hc42⟩ := hs4.shape; have HX4 := Lib.hid (HXD.out.below hb4); obtain ⟨x0, x1, x2, x3, x4, x5, x6, t0, t1, t2, t3, t4⟩ := HX4.out.cells; dsimp only at t0 t1 t2 t3 t4; have u0 := (hb4.cell (p := ⟨b0, o0 + a, none⟩) (Nat.lt_of_lt_of_le B0.out HXD.out.bel.size)).trans y0; have u1 := (hb4.cell (p := ⟨b1, o1 + e, none⟩) (Nat.lt_of_lt_of_le B1.out HXD.out.bel.size)).trans y1; have u2 := (hb4.cell (p := ⟨b2, o2 + i * 2 + 1, none⟩) (Nat.lt_of_lt_of_le B2.out HXD.out.bel.size)).trans y2; have u3 := (hb4.cell (p := ⟨b3, o3 + j * 2 + 1, none⟩) (Nat.lt_of_lt_of_le B3.out HXD.out.bel.size)).trans y3; have HS4 := Lib.hid hs4; clear hs4 hb4))
  all_goals go_wp2
  go_ret
  exact ⟨_, _, _, rfl, HX4.out.bel, HS4.out.keep elOtc_good (Same.refl _ _) fun b h => ⟨Nat.le_trans HXD.out.bel.size h.1, h.2⟩⟩
theorem ch44_start_ret {R' : Ending → World → Prop} {a : Act} {w : World} {x0 x1 x2 x3 x4 v : Value} {g : Nat} (h2 : a.tmps[2]? = some (.pointer (some ⟨g, 0, none⟩))) (h3 : a.tmps[3]? = some v) (hb : Blk w g 33 #[x0, x1, x2, x3, x4])
    (hd : a.defers = []) (hR : R' (.returned (.tuple #[.agg #[x0, x1, x2, x3, x4], v])) w) : bodyPost Tryz.prog Tryz.f13 R' .ret a w := by
  have r0 := hb.cell 0
  have r1 := hb.cell 1
  have r2 := hb.cell 2
  have r3 := hb.cell 3
  have r4 := hb.cell 4
  simp only [List.getElem?_toArray, List.getElem?_cons_zero, List.getElem?_cons_succ] at r0 r1 r2 r3 r4
  refine bodyPost_ret (v := .tuple #[.agg #[x0, x1, x2, x3, x4], v]) (by simp [results, Tryz.results13, go_sem, h2, h3, r0, r1, r2, r3, r4]) hd hR
set_option maxRecDepth 100000 in
set_option maxHeartbeats 4000000 in
theorem ch44_Start (c : Chs) (bv wv pv ov : Value) (w : World) (h : ChAt w (· < w.heap.size) bv wv pv ov c) :
    Calls Tryz.prog 13 #[chV c bv wv pv ov] w fun e w' => e = .returned (.tuple #[stV (startC c).1, .int .i64 (startC c).2]) ∧ Below w.heap.size w w' := by
  unfold chV
  obtain ⟨z, hz⟩ : ∃ z, z = startC c := ⟨_, rfl⟩
  rw [← hz]
  unfold startC at hz
  have hx := ChB.new w c bv wv pv ov
  have k1 := fun W (hW : Below w.heap.size w W) => ch44_Check c _ _ _ _ W (h.below hW)
  unfold chV at k1
  obtain ⟨u, hu⟩ : ∃ u, u = checkC c := ⟨_, rfl⟩
  rw [← hu] at k1 hz
  obtain ⟨A, ca, rfl, hc1, hc2⟩ := h.mdl.bat.shape
  obtain ⟨A1, ca1, rfl, hc3, hc4⟩ := h.mdl.bow.shape
  obtain ⟨A2, ca2, rfl, hc5, hc6⟩ := h.bow.shape
  obtain ⟨A3, ca3, rfl, hc7, hc8⟩ := h.ord.shape
  have HXR := Lib.hid (⟨hx.alloc (.cells #[.int .i64 0, .int .i64 0, .int .i64 0, .int .i64 0, .int .i64 0] 33), by have := Blk.new (w.alloc (.cells #[.slice A c.mdl.bats.length ca, .slice A1 c.mdl.bows.length ca1, .slice A2 c.bows.length ca2, .int .i64 c.over, .int .i64 c.done, .int .i64 c.need, .slice A3 c.ord.length ca3] 28)) 33 #[.int .i64 0, .int .i64 0, .int .i64 0, .int .i64 0, .int .i64 0]; rw [World.size_alloc] at this; exact this⟩ : ChB w ((w.alloc (.cells #[.slice A c.mdl.bats.length ca, .slice A1 c.mdl.bows.length ca1, .slice A2 c.bows.length ca2, .int .i64 c.over, .int .i64 c.done, .int .i64 c.need, .slice A3 c.ord.length ca3] 28)).alloc (.cells #[.int .i64 0, .int .i64 0, .int .i64 0, .int .i64 0, .int .i64 0] 33)) w.heap.size c (.slice A c.mdl.bats.length ca) (.slice A1 c.mdl.bows.length ca1) (.slice A2 c.bows.length ca2) (.slice A3 c.ord.length ca3) ∧ Blk ((w.alloc (.cells #[.slice A c.mdl.bats.length ca, .slice A1 c.mdl.bows.length ca1, .slice A2 c.bows.length ca2, .int .i64 c.over, .int .i64 c.done, .int .i64 c.need, .slice A3 c.ord.length ca3] 28)).alloc (.cells #[.int .i64 0, .int .i64 0, .int .i64 0, .int .i64 0, .int .i64 0] 33)) (w.heap.size + 1) 33 #[.int .i64 0, .int .i64 0, .int .i64 0, .int .i64 0, .int .i64 0])
  have K1 := Lib.hid k1
  clear k1 hu h hx
  by_cases h0 : u = 0
  · rw [if_neg (by omega)] at hz
    have HZ := Lib.hid hz
    have eu : (u != 0) = false := by simp [h0]
    clear hz h0
    go_enter Tryz.func13, Tryz.ntmps13
    go_wp2_with (go_at_call 14; refine (K1.out _ HXR.out.1.bel).mono ?_; rintro e w2 ⟨rfl, hb2⟩; have HX2 := Lib.hid (HXR.out.1.below hb2); have HR2 := Lib.hid (HXR.out.2.below hb2 HXR.out.2.lt); obtain ⟨x0, x1, x2, x3, x4, x5, x6⟩ := HX2.out.cells; have y0 := HR2.out.cell 0; have y1 := HR2.out.cell 1; have y2 := HR2.out.cell 2; have y3 := HR2.out.cell 3; have y4 := HR2.out.cell 4; have g0 := HR2.out.frozen 0; have g1 := HR2.out.frozen 1; have g2 := HR2.out.frozen 2; have g3 := HR2.out.frozen 3; have g4 := HR2.out.frozen 4; simp only [List.getElem?_toArray, List.getElem?_cons_zero, List.getElem?_cons_succ] at y0 y1 y2 y3 y4; clear hb2)
    refine ch44_start_ret rfl rfl (HR2.out.put5 _ _ _ _ _) rfl ⟨by rw [HZ.out]; rfl, ?_⟩
    exact below_set5 HX2.out.bel (by omega) _ _ _ _ _
  · rw [if_pos h0] at hz
    have HZ := Lib.hid hz
    have eu : (u != 0) = true := by simp [h0]
    clear hz h0
    go_enter Tryz.func13, Tryz.ntmps13
    go_wp2_with (go_at_call 14; refine (K1.out _ HXR.out.1.bel).mono ?_; rintro e w2 ⟨rfl, hb2⟩; have HX2 := Lib.hid (HXR.out.1.below hb2); have HR2 := Lib.hid (HXR.out.2.below hb2 HXR.out.2.lt); obtain ⟨x0, x1, x2, x3, x4, x5, x6⟩ := HX2.out.cells; have y0 := HR2.out.cell 0; have y1 := HR2.out.cell 1; have y2 := HR2.out.cell 2; have y3 := HR2.out.cell 3; have y4 := HR2.out.cell 4; have g0 := HR2.out.frozen 0; have g1 := HR2.out.frozen 1; have g2 := HR2.out.frozen 2; have g3 := HR2.out.frozen 3; have g4 := HR2.out.frozen 4; simp only [List.getElem?_toArray, List.getElem?_cons_zero, List.getElem?_cons_succ] at y0 y1 y2 y3 y4; clear hb2)
    refine ch44_start_ret rfl rfl (HR2.out.put5 _ _ _ _ _) rfl ⟨by rw [HZ.out]; rfl, ?_⟩
    exact below_set5 HX2.out.bel (by omega) _ _ _ _ _
set_option maxRecDepth 100000 in
set_option maxHeartbeats 4000000 in
theorem r44_moves (c : Chs) (s : Cst) (bv wv pv ov : Value) (w : World) (h : ChAt w (· < w.heap.size) bv wv pv ov c) (hc : OkC c) (hs : OkS c s) (h1 : stC c s = 1) :
    Calls Tryz.prog 137 #[chV c bv wv pv ov, stV s] w fun e w' => ∃ A n k, e = .returned (.slice A n k) ∧ Below w.heap.size w w' ∧ Sl 3 elOtc w' (fun b => w.heap.size ≤ b ∧ b < w'.heap.size) (.slice A n k) (mvC c s) := by
  unfold chV stV
  obtain ⟨ball, need, str, par, nxt⟩ := s
  obtain ⟨A, ca, rfl, hc1, hc2⟩ := h.mdl.bat.shape
  obtain ⟨A1, ca1, rfl, hc3, hc4⟩ := h.mdl.bow.shape
  obtain ⟨A2, ca2, rfl, hc5, hc6⟩ := h.bow.shape
  obtain ⟨A3, ca3, rfl, hc7, hc8⟩ := h.ord.shape
  have hx := CSB.new w c (.slice A c.mdl.bats.length ca) (.slice A1 c.mdl.bows.length ca1) (.slice A2 c.bows.length ca2) (.slice A3 c.ord.length ca3) ⟨ball, need, str, par, nxt⟩
  have HX := Lib.hid hx
  have HM := Lib.hid h
  obtain ⟨i, j, bt, bw, e1, e2, s0, s1, i0, i1, j0, j1, f1, f2, hsh, hq5⟩ := mvC_at hc hs h1
  have sn := hs.str.2
  have sx := hs.nxt.2
  have sb := hs.ball.1
  dsimp only at e1 e2 s0 s1 sn sx sb
  obtain ⟨a, rfl⟩ : ∃ a : Nat, str = (a : Int) := ⟨str.toNat, by omega⟩
  obtain ⟨e, rfl⟩ : ∃ a : Nat, ball = (a : Int) := ⟨ball.toNat, by omega⟩
  obtain ⟨i, rfl⟩ : ∃ a : Nat, i = (a : Int) := ⟨i.toNat, by omega⟩
  obtain ⟨j, rfl⟩ : ∃ a : Nat, j = (a : Int) := ⟨j.toNat, by omega⟩
  rw [Int.toNat_natCast] at e1 e2 f1 f2
  have la : a < c.ord.length := by omega
  have le : e < c.bows.length := by omega
  have li : i < c.mdl.bats.length := by omega
  have lj : j < c.mdl.bows.length := by omega
  have ga : c.ord[a] = (i : Int) := by rw [List.getElem?_eq_getElem la] at e1; exact Option.some.inj e1
  have ge : c.bows[e] = (j : Int) := by rw [List.getElem?_eq_getElem le] at e2; exact Option.some.inj e2
  have gi : c.mdl.bats[i] = bt := by rw [List.getElem?_eq_getElem li] at f1; exact Option.some.inj f1
  have gj : c.mdl.bows[j] = bw := by rw [List.getElem?_eq_getElem lj] at f2; exact Option.some.inj f2
  obtain ⟨b0, o0, rfl, hb0, z0⟩ := int_at h.ord la
  obtain ⟨b1, o1, rfl, hb1, z1⟩ := int_at h.bow le
  obtain ⟨b2, o2, v, rfl, hb2, hq3, z2, hv, hq1⟩ := bat_at h.mdl.bat li
  obtain ⟨b3, o3, rfl, hb3, hq4, z3, hq2⟩ := bow_at h.mdl.bow lj
  rw [ga] at z0
  rw [ge] at z1
  rw [gi] at hv
  rw [gj] at z3
  have ks := fun W (hW : Below w.heap.size w W) => r_Shift bt.dist v bw.shift W (hv.keep elOtc_good (Same.of_below hW) fun b h => Nat.lt_of_lt_of_le h hW.size)
  rw [hsh] at ks
  obtain ⟨n, hn⟩ : ∃ n, n = bw.shift := ⟨_, rfl⟩
  rw [← hn] at ks z3
  obtain ⟨l, hl⟩ : ∃ l, l = mvC c ⟨(e : Int), need, (a : Int), par, nxt⟩ := ⟨_, rfl⟩
  rw [← hl] at ks ⊢
  have KS := Lib.hid ks
  obtain ⟨W, hW⟩ : ∃ W, W = (w.alloc (.cells (chC c (.slice (some ⟨b2, o2, none⟩) c.mdl.bats.length ca) (.slice (some ⟨b3, o3, none⟩) c.mdl.bows.length ca1) (.slice (some ⟨b1, o1, none⟩) c.bows.length ca2) (.slice (some ⟨b0, o0, none⟩) c.ord.length ca3)) 28)).alloc (.cells #[.int .i64 (e : Int), .int .i64 need, .int .i64 (a : Int), .int .i64 par, .int .i64 nxt] 33) := ⟨_, rfl⟩
  have hx2 : CSB w W w.heap.size c (.slice (some ⟨b2, o2, none⟩) c.mdl.bats.length ca) (.slice (some ⟨b3, o3, none⟩) c.mdl.bows.length ca1) (.slice (some ⟨b1, o1, none⟩) c.bows.length ca2) (.slice (some ⟨b0, o0, none⟩) c.ord.length ca3) ⟨(e : Int), need, (a : Int), par, nxt⟩ := by rw [hW]; exact hx
  have y0 : W.cell? ⟨b0, o0 + a, none⟩ = some (.int .i64 (i : Int)) := (hx2.bel.cell (p := ⟨b0, o0 + a, none⟩) hb0).trans z0
  have y1 : W.cell? ⟨b1, o1 + e, none⟩ = some (.int .i64 (j : Int)) := (hx2.bel.cell (p := ⟨b1, o1 + e, none⟩) hb1).trans z1
  have y2 : W.cell? ⟨b2, o2 + i * 2 + 1, none⟩ = some v := (hx2.bel.cell (p := ⟨b2, o2 + i * 2 + 1, none⟩) hb2).trans z2
  have y3 : W.cell? ⟨b3, o3 + j * 2 + 1, none⟩ = some (.int .i64 n) := (hx2.bel.cell (p := ⟨b3, o3 + j * 2 + 1, none⟩) hb3).trans z3
  have HX2 := Lib.hid hx2
  have Z0 := Lib.hid z0
  have Z1 := Lib.hid z1
  have Z2 := Lib.hid z2
  have Z3 := Lib.hid z3
  have B0 := Lib.hid hb0
  have B1 := Lib.hid hb1
  have B2 := Lib.hid hb2
  have B3 := Lib.hid hb3
  have HW := Lib.hid hW
  have p1 : (0 : Int) ≤ (a : Int) := by omega
  have p2 : (a : Int) < (c.ord.length : Int) := by omega
  have p3 : (0 : Int) ≤ (e : Int) := by omega
  have p4 : (e : Int) < (c.bows.length : Int) := by omega
  have p5 : (0 : Int) ≤ (i : Int) := by omega
  have p6 : (i : Int) < (c.mdl.bats.length : Int) := by omega
  have p7 : (0 : Int) ≤ (j : Int) := by omega
  have p8 : (j : Int) < (c.mdl.bows.length : Int) := by omega
  clear hq1 hq2 hq3 hq4 hq5 ks hn hl hsh hv z0 z1 z2 z3 hb0 hb1 hb2 hb3 ga ge gi gj la le li lj e1 e2 f1 f2 s0 s1 i0 i1 j0 j1 sn sx sb h1 hs hc hx h HM HX hx2 hW y0 y1 y2 y3
  go_enter Tryz.func137, Tryz.ntmps137
  go_wp2
  unfold chC at HW
  rw [← HW.out]
  clear HW
  have y0 : W.cell? ⟨b0, o0 + a, none⟩ = some (.int .i64 (i : Int)) := (HX2.out.bel.cell (p := ⟨b0, o0 + a, none⟩) B0.out).trans Z0.out
  have y1 : W.cell? ⟨b1, o1 + e, none⟩ = some (.int .i64 (j : Int)) := (HX2.out.bel.cell (p := ⟨b1, o1 + e, none⟩) B1.out).trans Z1.out
  have y2 : W.cell? ⟨b2, o2 + i * 2 + 1, none⟩ = some v := (HX2.out.bel.cell (p := ⟨b2, o2 + i * 2 + 1, none⟩) B2.out).trans Z2.out
  have y3 : W.cell? ⟨b3, o3 + j * 2 + 1, none⟩ = some (.int .i64 n) := (HX2.out.bel.cell (p := ⟨b3, o3 + j * 2 + 1, none⟩) B3.out).trans Z3.out
  obtain ⟨x0, x1, x2, x3, x4, x5, x6, t0, t1, t2, t3, t4⟩ := HX2.out.cells
  dsimp only at t0 t1 t2 t3 t4
  have HXD := Lib.hid HX2.out.drew
  go_region_held3 (fun w' => w'.cell? ⟨w.heap.size, 0, none⟩ = some (.slice (some ⟨b2, o2, none⟩) c.mdl.bats.length ca) ∧ w'.cell? ⟨w.heap.size, 1, none⟩ = some (.slice (some ⟨b3, o3, none⟩) c.mdl.bows.length ca1) ∧ w'.cell? ⟨w.heap.size, 2, none⟩ = some (.slice (some ⟨b1, o1, none⟩) c.bows.length ca2) ∧ w'.cell? ⟨w.heap.size, 6, none⟩ = some (.slice (some ⟨b0, o0, none⟩) c.ord.length ca3) ∧ w'.cell? ⟨w.heap.size + 1, 0, none⟩ = some (.int .i64 (e : Int)) ∧ w'.cell? ⟨w.heap.size + 1, 2, none⟩ = some (.int .i64 (a : Int)) ∧ w'.cell? ⟨b0, o0 + a, none⟩ = some (.int .i64 (i : Int)) ∧ w'.cell? ⟨b1, o1 + e, none⟩ = some (.int .i64 (j : Int)) ∧ w'.cell? ⟨b2, o2 + i * 2 + 1, none⟩ = some v ∧ w'.cell? ⟨b3, o3 + j * 2 + 1, none⟩ = some (.int .i64 n)) (first | exact ⟨x0, x1, x2, x6, t0, t2, u0, u1, u2, u3⟩ | exact ⟨x0, x1, x2, x6, t0, t2, y0, y1, y2, y3⟩ | go_keep) ((go_at_call 157; refine (KS.out _ HXD.out.bel).mono ?_; rintro e4 w4 ⟨v4, rfl, hs4, hb4⟩; obtain ⟨A4, c4, rfl, hc41, hc42⟩ := hs4.shape; have HX4 := Lib.hid (HXD.out.below hb4); obtain ⟨x0, x1, x2, x3, x4, x5, x6, t0, t1, t2, t3, t4⟩ := HX4.out.cells; dsimp only at t0 t1 t2 t3 t4; have u0 := (hb4.cell (p := ⟨b0, o0 + a, none⟩) (Nat.lt_of_lt_of_le B0.out HXD.out.bel.size)).trans y0; have u1 := (hb4.cell (p := ⟨b1, o1 + e, none⟩) (Nat.lt_of_lt_of_le B1.out HXD.out.bel.size)).trans y1; have u2 := (hb4.cell (p := ⟨b2, o2 + i * 2 + 1, none⟩) (Nat.lt_of_lt_of_le B2.out HXD.out.bel.size)).trans y2; have u3 := (hb4.cell (p := ⟨b3, o3 + j * 2 + 1, none⟩) (Nat.lt_of_lt_of_le B3.out HXD.out.bel.size)).trans y3; have HS4 := Lib.hid hs4; clear hs4 hb4))
  all_goals go_wp2
  go_ret
  exact ⟨_, _, _, rfl, HX4.out.bel, HS4.out.keep elOtc_good (Same.refl _ _) fun b h => ⟨Nat.le_trans HXD.out.bel.size h.1, h.2⟩⟩
theorem r44_start_ret {R' : Ending → World → Prop} {a : Act} {w : World} {x0 x1 x2 x3 x4 v : Value} {g : Nat} (h2 : a.tmps[2]? = some (.pointer (some ⟨g, 0, none⟩))) (h3 : a.tmps[3]? = some v) (hb : Blk w g 33 #[x0, x1, x2, x3, x4])
    (hd : a.defers = []) (hR : R' (.returned (.tuple #[.agg #[x0, x1, x2, x3, x4], v])) w) : bodyPost Tryz.prog Tryz.f74 R' .ret a w := by
  have r0 := hb.cell 0
  have r1 := hb.cell 1
  have r2 := hb.cell 2
  have r3 := hb.cell 3
  have r4 := hb.cell 4
  simp only [List.getElem?_toArray, List.getElem?_cons_zero, List.getElem?_cons_succ] at r0 r1 r2 r3 r4
  refine bodyPost_ret (v := .tuple #[.agg #[x0, x1, x2, x3, x4], v]) (by simp [results, Tryz.results74, go_sem, h2, h3, r0, r1, r2, r3, r4]) hd hR
set_option maxRecDepth 100000 in
set_option maxHeartbeats 4000000 in
theorem r44_Start (c : Chs) (bv wv pv ov : Value) (w : World) (h : ChAt w (· < w.heap.size) bv wv pv ov c) :
    Calls Tryz.prog 74 #[chV c bv wv pv ov] w fun e w' => e = .returned (.tuple #[stV (startC c).1, .int .i64 (startC c).2]) ∧ Below w.heap.size w w' := by
  unfold chV
  obtain ⟨z, hz⟩ : ∃ z, z = startC c := ⟨_, rfl⟩
  rw [← hz]
  unfold startC at hz
  have hx := ChB.new w c bv wv pv ov
  have k1 := fun W (hW : Below w.heap.size w W) => r44_Check c _ _ _ _ W (h.below hW)
  unfold chV at k1
  obtain ⟨u, hu⟩ : ∃ u, u = checkC c := ⟨_, rfl⟩
  rw [← hu] at k1 hz
  obtain ⟨A, ca, rfl, hc1, hc2⟩ := h.mdl.bat.shape
  obtain ⟨A1, ca1, rfl, hc3, hc4⟩ := h.mdl.bow.shape
  obtain ⟨A2, ca2, rfl, hc5, hc6⟩ := h.bow.shape
  obtain ⟨A3, ca3, rfl, hc7, hc8⟩ := h.ord.shape
  have HXR := Lib.hid (⟨hx.alloc (.cells #[.int .i64 0, .int .i64 0, .int .i64 0, .int .i64 0, .int .i64 0] 33), by have := Blk.new (w.alloc (.cells #[.slice A c.mdl.bats.length ca, .slice A1 c.mdl.bows.length ca1, .slice A2 c.bows.length ca2, .int .i64 c.over, .int .i64 c.done, .int .i64 c.need, .slice A3 c.ord.length ca3] 28)) 33 #[.int .i64 0, .int .i64 0, .int .i64 0, .int .i64 0, .int .i64 0]; rw [World.size_alloc] at this; exact this⟩ : ChB w ((w.alloc (.cells #[.slice A c.mdl.bats.length ca, .slice A1 c.mdl.bows.length ca1, .slice A2 c.bows.length ca2, .int .i64 c.over, .int .i64 c.done, .int .i64 c.need, .slice A3 c.ord.length ca3] 28)).alloc (.cells #[.int .i64 0, .int .i64 0, .int .i64 0, .int .i64 0, .int .i64 0] 33)) w.heap.size c (.slice A c.mdl.bats.length ca) (.slice A1 c.mdl.bows.length ca1) (.slice A2 c.bows.length ca2) (.slice A3 c.ord.length ca3) ∧ Blk ((w.alloc (.cells #[.slice A c.mdl.bats.length ca, .slice A1 c.mdl.bows.length ca1, .slice A2 c.bows.length ca2, .int .i64 c.over, .int .i64 c.done, .int .i64 c.need, .slice A3 c.ord.length ca3] 28)).alloc (.cells #[.int .i64 0, .int .i64 0, .int .i64 0, .int .i64 0, .int .i64 0] 33)) (w.heap.size + 1) 33 #[.int .i64 0, .int .i64 0, .int .i64 0, .int .i64 0, .int .i64 0])
  have K1 := Lib.hid k1
  clear k1 hu h hx
  by_cases h0 : u = 0
  · rw [if_neg (by omega)] at hz
    have HZ := Lib.hid hz
    have eu : (u != 0) = false := by simp [h0]
    clear hz h0
    go_enter Tryz.func74, Tryz.ntmps74
    go_wp2_with (go_at_call 54; refine (K1.out _ HXR.out.1.bel).mono ?_; rintro e w2 ⟨rfl, hb2⟩; have HX2 := Lib.hid (HXR.out.1.below hb2); have HR2 := Lib.hid (HXR.out.2.below hb2 HXR.out.2.lt); obtain ⟨x0, x1, x2, x3, x4, x5, x6⟩ := HX2.out.cells; have y0 := HR2.out.cell 0; have y1 := HR2.out.cell 1; have y2 := HR2.out.cell 2; have y3 := HR2.out.cell 3; have y4 := HR2.out.cell 4; have g0 := HR2.out.frozen 0; have g1 := HR2.out.frozen 1; have g2 := HR2.out.frozen 2; have g3 := HR2.out.frozen 3; have g4 := HR2.out.frozen 4; simp only [List.getElem?_toArray, List.getElem?_cons_zero, List.getElem?_cons_succ] at y0 y1 y2 y3 y4; clear hb2)
    refine r44_start_ret rfl rfl (HR2.out.put5 _ _ _ _ _) rfl ⟨by rw [HZ.out]; rfl, ?_⟩
    exact below_set5 HX2.out.bel (by omega) _ _ _ _ _
  · rw [if_pos h0] at hz
    have HZ := Lib.hid hz
    have eu : (u != 0) = true := by simp [h0]
    clear hz h0
    go_enter Tryz.func74, Tryz.ntmps74
    go_wp2_with (go_at_call 54; refine (K1.out _ HXR.out.1.bel).mono ?_; rintro e w2 ⟨rfl, hb2⟩; have HX2 := Lib.hid (HXR.out.1.below hb2); have HR2 := Lib.hid (HXR.out.2.below hb2 HXR.out.2.lt); obtain ⟨x0, x1, x2, x3, x4, x5, x6⟩ := HX2.out.cells; have y0 := HR2.out.cell 0; have y1 := HR2.out.cell 1; have y2 := HR2.out.cell 2; have y3 := HR2.out.cell 3; have y4 := HR2.out.cell 4; have g0 := HR2.out.frozen 0; have g1 := HR2.out.frozen 1; have g2 := HR2.out.frozen 2; have g3 := HR2.out.frozen 3; have g4 := HR2.out.frozen 4; simp only [List.getElem?_toArray, List.getElem?_cons_zero, List.getElem?_cons_succ] at y0 y1 y2 y3 y4; clear hb2)
    refine r44_start_ret rfl rfl (HR2.out.put5 _ _ _ _ _) rfl ⟨by rw [HZ.out]; rfl, ?_⟩
    exact below_set5 HX2.out.bel (by omega) _ _ _ _ _
end Go.Proofs.YtfnfbojaiikigaaGreatDoor

namespace Go.Proofs.YtfnfbojaiikigaaGreatDoor
open Go.RowKit

theorem Blk.drewNB {w : World} {g : Nat} {t : TypeId} {cs : Array Value} (h : Blk w g t cs) (n : Nat) : Blk (w.drewN n) g t cs := h
theorem blk_r (w : World) (o1 o2 o3 : Obj) : Blk ((((w.alloc o1).alloc o2).alloc o3).alloc (.cells #[.int .i64 0, .int .i64 0, .int .i64 0, .int .i64 0, .int .i64 0] 33)) (w.heap.size + 1 + 1 + 1) 33 #[.int .i64 0, .int .i64 0, .int .i64 0, .int .i64 0, .int .i64 0] := by
  have h := Blk.new (((w.alloc o1).alloc o2).alloc o3) 33 #[.int .i64 0, .int .i64 0, .int .i64 0, .int .i64 0, .int .i64 0]
  rw [World.size_alloc, World.size_alloc, World.size_alloc] at h
  exact h
theorem blk_rv (w : World) (o1 o2 o3 : Obj) (x0 x1 x2 x3 x4 : Value) : Blk ((((w.alloc o1).alloc o2).alloc o3).alloc (.cells #[x0, x1, x2, x3, x4] 33)) (w.heap.size + 1 + 1 + 1) 33 #[x0, x1, x2, x3, x4] := by
  have h := Blk.new (((w.alloc o1).alloc o2).alloc o3) 33 #[x0, x1, x2, x3, x4]
  rw [World.size_alloc, World.size_alloc, World.size_alloc] at h
  exact h
theorem ne31 (n : Nat) : n + 1 + 1 + 1 ≠ n + 1 := by omega
theorem le3 (n : Nat) : n ≤ n + 1 + 1 + 1 := by omega
theorem le1 (n : Nat) : n ≤ n + 1 := by omega
theorem blk_far1 {W : World} {n : Nat} {t : TypeId} {cs : Array Value} (h : Blk W (n + 1 + 1 + 1) t cs) (i : Nat) (u : Value) : Blk (W.setCell ⟨n + 1, i, none⟩ u) (n + 1 + 1 + 1) t cs := h.far (ne31 n) u
theorem below_far1 {W a : World} {n : Nat} (h : Below n a W) (i : Nat) (u : Value) : Below n a (W.setCell ⟨n + 1, i, none⟩ u) := Below.setCell h (le1 n) u
theorem below_r (w : World) (o1 o2 o3 o4 : Obj) : Below w.heap.size w ((((w.alloc o1).alloc o2).alloc o3).alloc o4) :=
  Below.alloc (Below.alloc (Below.alloc (Below.alloc (Below.refl _ _) (Nat.le_refl _) o1) (by simp) o2) (by simp; omega) o3) (by simp; omega) o4
theorem ch44_step_ret {R' : Ending → World → Prop} {a : Act} {w : World} {x0 x1 x2 x3 x4 : Value} {g : Nat} (h2 : a.tmps[6]? = some (.pointer (some ⟨g, 0, none⟩))) (hb : Blk w g 33 #[x0, x1, x2, x3, x4])
    (hd : a.defers = []) (hR : R' (.returned (.agg #[x0, x1, x2, x3, x4])) w) : bodyPost Tryz.prog Tryz.f51 R' .ret a w := by
  have r0 := hb.cell 0
  have r1 := hb.cell 1
  have r2 := hb.cell 2
  have r3 := hb.cell 3
  have r4 := hb.cell 4
  simp only [List.getElem?_toArray, List.getElem?_cons_zero, List.getElem?_cons_succ] at r0 r1 r2 r3 r4
  refine bodyPost_ret (v := .agg #[x0, x1, x2, x3, x4]) (by simp [results, Tryz.results51, go_sem, h2, r0, r1, r2, r3, r4]) hd hR
set_option maxRecDepth 100000 in
set_option maxHeartbeats 4000000 in
theorem ch44_step (c : Chs) (s : Cst) (o : Otc) (A A1 A2 A3 : Option Addr) (ca ca1 ca2 ca3 : Nat) (w : World) (hc : OkC c) (hs : OkS c s) (h1 : stC c s = 1) (hr : 0 ≤ o.runs ∧ o.runs ≤ 7) :
    Calls Tryz.prog 51 #[.agg #[.slice A c.mdl.bats.length ca, .slice A1 c.mdl.bows.length ca1, .slice A2 c.bows.length ca2, .int .i64 c.over, .int .i64 c.done, .int .i64 c.need, .slice A3 c.ord.length ca3], stV s, .agg #[.int .i64 o.runs, .bool o.wick, .int .i64 o.wt]] w fun e w' => e = .returned (stV (stepC c s o)) ∧ Below w.heap.size w w' := by
  obtain ⟨z, hz⟩ : ∃ z, z = stepC c s o := ⟨_, rfl⟩
  rw [← hz]
  unfold stepC at hz
  obtain ⟨ball, need, str, par, nxt⟩ := s
  obtain ⟨pr, pw, pt⟩ := o
  unfold stV
  dsimp only at hr hz ⊢
  have b1 := hs.ball
  have b2 := hs.need
  have b3 := hs.nxt
  have b4 := hs.str
  have b5 := hs.par
  have b6 := hc.nb
  have b7 := hc.need
  have b8 := hc.no
  have b9 := hc.over
  have b10 := hc.done
  have hst := (left_run hs h1).2.1
  dsimp only at b1 b2 b3 b4 b5 hst
  obtain ⟨m, hm⟩ : ∃ m, max (need - pr) 0 = m := ⟨_, rfl⟩
  have hm2 : max 0 (need - pr) = m := by rw [← hm]; omega
  have hm3 : 0 ≤ m ∧ m ≤ 84 := by omega
  rw [hm] at hz
  have hsw : swapC c (ball + 1) ⟨pr, pw, pt⟩ = (decide (pr % 2 = 1) != decide ((c.done + (ball + 1)) % c.over = 0)) := rfl
  have e1 : (pr % 2 == 1) = decide (pr % 2 = 1) := by by_cases h : pr % 2 = 1 <;> simp [h]
  have e2 : ((c.done + (ball + 1)) % c.over == 0) = decide ((c.done + (ball + 1)) % c.over = 0) := by by_cases h : (c.done + (ball + 1)) % c.over = 0 <;> simp [h]
  rw [hsw] at hz
  obtain ⟨x1, hx1⟩ : ∃ x, x = decide (pr % 2 = 1) := ⟨_, rfl⟩
  obtain ⟨x2, hx2⟩ : ∃ x, x = decide ((c.done + (ball + 1)) % c.over = 0) := ⟨_, rfl⟩
  rw [← hx1] at e1 hz
  rw [← hx2] at e2 hz
  obtain ⟨over, hov⟩ : ∃ x, x = c.over := ⟨_, rfl⟩
  obtain ⟨done, hdo⟩ : ∃ x, x = c.done := ⟨_, rfl⟩
  rw [← hov, ← hdo] at e2 ⊢
  rw [← hov] at b9
  rw [← hdo, ← hov] at b10
  obtain ⟨c1, c2⟩ := b1
  obtain ⟨c3, c4⟩ := b2
  obtain ⟨c5, c6⟩ := b3
  obtain ⟨c7, c8⟩ := b4
  obtain ⟨c9, c10⟩ := b5
  obtain ⟨c11, c12⟩ := b6
  obtain ⟨c13, c14⟩ := b7
  obtain ⟨c15, c16⟩ := b8
  obtain ⟨c17, c18⟩ := b9
  obtain ⟨c19, c20⟩ := b10
  obtain ⟨c21, c22⟩ := hr
  obtain ⟨c23, c24⟩ := hm3
  have d0 : (str == -1) = false := beq_eq_false_iff_ne.2 (by omega)
  clear hx1 hx2 hov hdo hsw hs hc h1
  cases pw
  · rw [if_neg (by simp)] at hz
    cases x1 <;> cases x2 <;> simp only [bne_self_eq_false, if_true, if_false, Bool.false_eq_true, Bool.bne_false, Bool.bne_true, Bool.not_false, Bool.not_true] at hz
    all_goals
      have HZ := Lib.hid hz
      clear hz
      go_enter Tryz.func51, Tryz.ntmps51
      go_wp2
      go_quiet (fail)
      go_wp2
      apply ch44_step_ret (g := w.heap.size + 1 + 1 + 1) (h2 := rfl) (hd := rfl)
      case hb =>
        first
          | with_reducible exact blk_rv _ _ _ _ _ _ _ _ _
          | (with_reducible apply Blk.put5
             repeat (first | with_reducible refine Blk.drewNB ?_ _ | with_reducible refine blk_far1 ?_ _ _)
             with_reducible exact blk_r _ _ _ _)
      case hR =>
        refine ⟨by rw [HZ.out], ?_⟩
        first
          | with_reducible exact below_r _ _ _ _ _
          | (with_reducible refine below_set5 ?_ (le3 _) _ _ _ _ _
             repeat (first | with_reducible refine Below.drewN_ ?_ _ | with_reducible refine below_far1 ?_ _ _)
             with_reducible exact below_r _ _ _ _ _)
  · rw [if_pos rfl] at hz
    by_cases hn : nxt = (c.ord.length : Int)
    · rw [if_pos hn] at hz
      have en : (nxt == (c.ord.length : Int)) = true := beq_iff_eq.2 hn
      have en2 : ¬ nxt < (c.ord.length : Int) := by omega
      have HZ := Lib.hid hz
      clear hz hn
      cases x1 <;> cases x2
      all_goals
        go_enter Tryz.func51, Tryz.ntmps51
        go_wp2
        apply ch44_step_ret (g := w.heap.size + 1 + 1 + 1) (h2 := rfl) (hd := rfl)
        case hb =>
          first
            | with_reducible exact blk_rv _ _ _ _ _ _ _ _ _
            | (with_reducible apply Blk.put5
               repeat (first | with_reducible refine Blk.drewNB ?_ _ | with_reducible refine blk_far1 ?_ _ _)
               with_reducible exact blk_r _ _ _ _)
        case hR =>
          refine ⟨by rw [HZ.out], ?_⟩
          first
            | with_reducible exact below_r _ _ _ _ _
            | (with_reducible refine below_set5 ?_ (le3 _) _ _ _ _ _
               repeat (first | with_reducible refine Below.drewN_ ?_ _ | with_reducible refine below_far1 ?_ _ _)
               with_reducible exact below_r _ _ _ _ _)
    · rw [if_neg hn] at hz
      have en : (nxt == (c.ord.length : Int)) = false := beq_eq_false_iff_ne.2 hn
      have en2 : nxt < (c.ord.length : Int) := by omega
      cases x1 <;> cases x2 <;> simp only [bne_self_eq_false, if_true, if_false, Bool.false_eq_true, Bool.bne_false, Bool.bne_true, Bool.not_false, Bool.not_true] at hz
      all_goals
        have HZ := Lib.hid hz
        clear hz hn
        go_enter Tryz.func51, Tryz.ntmps51
        go_wp2
        go_quiet (fail)
        go_wp2
        apply ch44_step_ret (g := w.heap.size + 1 + 1 + 1) (h2 := rfl) (hd := rfl)
        case hb =>
          first
            | with_reducible exact blk_rv _ _ _ _ _ _ _ _ _
            | (with_reducible apply Blk.put5
               repeat (first | with_reducible refine Blk.drewNB ?_ _ | with_reducible refine blk_far1 ?_ _ _)
               with_reducible exact blk_r _ _ _ _)
        case hR =>
          refine ⟨by rw [HZ.out], ?_⟩
          first
            | with_reducible exact below_r _ _ _ _ _
            | (with_reducible refine below_set5 ?_ (le3 _) _ _ _ _ _
               repeat (first | with_reducible refine Below.drewN_ ?_ _ | with_reducible refine below_far1 ?_ _ _)
               with_reducible exact below_r _ _ _ _ _)

theorem r44_after_ret {R' : Ending → World → Prop} {a : Act} {w : World} {x0 x1 x2 x3 x4 : Value} {g : Nat} (h2 : a.tmps[6]? = some (.pointer (some ⟨g, 0, none⟩))) (hb : Blk w g 33 #[x0, x1, x2, x3, x4])
    (hd : a.defers = []) (hR : R' (.returned (.agg #[x0, x1, x2, x3, x4])) w) : bodyPost Tryz.prog Tryz.f138 R' .ret a w := by
  have r0 := hb.cell 0
  have r1 := hb.cell 1
  have r2 := hb.cell 2
  have r3 := hb.cell 3
  have r4 := hb.cell 4
  simp only [List.getElem?_toArray, List.getElem?_cons_zero, List.getElem?_cons_succ] at r0 r1 r2 r3 r4
  refine bodyPost_ret (v := .agg #[x0, x1, x2, x3, x4]) (by simp [results, Tryz.results138, go_sem, h2, r0, r1, r2, r3, r4]) hd hR
set_option maxRecDepth 100000 in
set_option maxHeartbeats 4000000 in
theorem r44_after (c : Chs) (s : Cst) (o : Otc) (A A1 A2 A3 : Option Addr) (ca ca1 ca2 ca3 : Nat) (w : World) (hc : OkC c) (hs : OkS c s) (h1 : stC c s = 1) (hr : 0 ≤ o.runs ∧ o.runs ≤ 7) :
    Calls Tryz.prog 138 #[.agg #[.slice A c.mdl.bats.length ca, .slice A1 c.mdl.bows.length ca1, .slice A2 c.bows.length ca2, .int .i64 c.over, .int .i64 c.done, .int .i64 c.need, .slice A3 c.ord.length ca3], stV s, .agg #[.int .i64 o.runs, .bool o.wick, .int .i64 o.wt]] w fun e w' => e = .returned (stV (stepC c s o)) ∧ Below w.heap.size w w' := by
  obtain ⟨z, hz⟩ : ∃ z, z = stepC c s o := ⟨_, rfl⟩
  rw [← hz]
  unfold stepC at hz
  obtain ⟨ball, need, str, par, nxt⟩ := s
  obtain ⟨pr, pw, pt⟩ := o
  unfold stV
  dsimp only at hr hz ⊢
  have b1 := hs.ball
  have b2 := hs.need
  have b3 := hs.nxt
  have b4 := hs.str
  have b5 := hs.par
  have b6 := hc.nb
  have b7 := hc.need
  have b8 := hc.no
  have b9 := hc.over
  have b10 := hc.done
  have hst := (left_run hs h1).2.1
  dsimp only at b1 b2 b3 b4 b5 hst
  obtain ⟨m, hm⟩ : ∃ m, max (need - pr) 0 = m := ⟨_, rfl⟩
  have hm2 : max 0 (need - pr) = m := by rw [← hm]; omega
  have hm3 : 0 ≤ m ∧ m ≤ 84 := by omega
  rw [hm] at hz
  have hsw : swapC c (ball + 1) ⟨pr, pw, pt⟩ = (decide (pr % 2 = 1) != decide ((c.done + (ball + 1)) % c.over = 0)) := rfl
  have e1 : (pr % 2 == 1) = decide (pr % 2 = 1) := by by_cases h : pr % 2 = 1 <;> simp [h]
  have e2 : ((c.done + (ball + 1)) % c.over == 0) = decide ((c.done + (ball + 1)) % c.over = 0) := by by_cases h : (c.done + (ball + 1)) % c.over = 0 <;> simp [h]
  rw [hsw] at hz
  obtain ⟨x1, hx1⟩ : ∃ x, x = decide (pr % 2 = 1) := ⟨_, rfl⟩
  obtain ⟨x2, hx2⟩ : ∃ x, x = decide ((c.done + (ball + 1)) % c.over = 0) := ⟨_, rfl⟩
  rw [← hx1] at e1 hz
  rw [← hx2] at e2 hz
  obtain ⟨over, hov⟩ : ∃ x, x = c.over := ⟨_, rfl⟩
  obtain ⟨done, hdo⟩ : ∃ x, x = c.done := ⟨_, rfl⟩
  rw [← hov, ← hdo] at e2 ⊢
  rw [← hov] at b9
  rw [← hdo, ← hov] at b10
  obtain ⟨c1, c2⟩ := b1
  obtain ⟨c3, c4⟩ := b2
  obtain ⟨c5, c6⟩ := b3
  obtain ⟨c7, c8⟩ := b4
  obtain ⟨c9, c10⟩ := b5
  obtain ⟨c11, c12⟩ := b6
  obtain ⟨c13, c14⟩ := b7
  obtain ⟨c15, c16⟩ := b8
  obtain ⟨c17, c18⟩ := b9
  obtain ⟨c19, c20⟩ := b10
  obtain ⟨c21, c22⟩ := hr
  obtain ⟨c23, c24⟩ := hm3
  have d0 : (str == -1) = false := beq_eq_false_iff_ne.2 (by omega)
  clear hx1 hx2 hov hdo hsw hs hc h1
  cases pw
  · rw [if_neg (by simp)] at hz
    cases x1 <;> cases x2 <;> simp only [bne_self_eq_false, if_true, if_false, Bool.false_eq_true, Bool.bne_false, Bool.bne_true, Bool.not_false, Bool.not_true] at hz
    all_goals
      have HZ := Lib.hid hz
      clear hz
      go_enter Tryz.func138, Tryz.ntmps138
      go_wp2
      apply r44_after_ret (g := w.heap.size + 1 + 1 + 1) (h2 := rfl) (hd := rfl)
      case hb =>
        first
          | with_reducible exact blk_rv _ _ _ _ _ _ _ _ _
          | (with_reducible apply Blk.put5
             repeat (first | with_reducible refine Blk.drewNB ?_ _ | with_reducible refine blk_far1 ?_ _ _)
             with_reducible exact blk_r _ _ _ _)
      case hR =>
        refine ⟨by rw [HZ.out], ?_⟩
        first
          | with_reducible exact below_r _ _ _ _ _
          | (with_reducible refine below_set5 ?_ (le3 _) _ _ _ _ _
             repeat (first | with_reducible refine Below.drewN_ ?_ _ | with_reducible refine below_far1 ?_ _ _)
             with_reducible exact below_r _ _ _ _ _)
  · rw [if_pos rfl] at hz
    by_cases hn : nxt = (c.ord.length : Int)
    · rw [if_pos hn] at hz
      have en : (nxt == (c.ord.length : Int)) = true := beq_iff_eq.2 hn
      have en2 : ¬ nxt < (c.ord.length : Int) := by omega
      have HZ := Lib.hid hz
      clear hz hn
      cases x1 <;> cases x2
      all_goals
        go_enter Tryz.func138, Tryz.ntmps138
        go_wp2
        apply r44_after_ret (g := w.heap.size + 1 + 1 + 1) (h2 := rfl) (hd := rfl)
        case hb =>
          first
            | with_reducible exact blk_rv _ _ _ _ _ _ _ _ _
            | (with_reducible apply Blk.put5
               repeat (first | with_reducible refine Blk.drewNB ?_ _ | with_reducible refine blk_far1 ?_ _ _)
               with_reducible exact blk_r _ _ _ _)
        case hR =>
          refine ⟨by rw [HZ.out], ?_⟩
          first
            | with_reducible exact below_r _ _ _ _ _
            | (with_reducible refine below_set5 ?_ (le3 _) _ _ _ _ _
               repeat (first | with_reducible refine Below.drewN_ ?_ _ | with_reducible refine below_far1 ?_ _ _)
               with_reducible exact below_r _ _ _ _ _)
    · rw [if_neg hn] at hz
      have en : (nxt == (c.ord.length : Int)) = false := beq_eq_false_iff_ne.2 hn
      have en2 : nxt < (c.ord.length : Int) := by omega
      cases x1 <;> cases x2 <;> simp only [bne_self_eq_false, if_true, if_false, Bool.false_eq_true, Bool.bne_false, Bool.bne_true, Bool.not_false, Bool.not_true] at hz
      all_goals
        have HZ := Lib.hid hz
        clear hz hn
        go_enter Tryz.func138, Tryz.ntmps138
        go_wp2
        apply r44_after_ret (g := w.heap.size + 1 + 1 + 1) (h2 := rfl) (hd := rfl)
        case hb =>
          first
            | with_reducible exact blk_rv _ _ _ _ _ _ _ _ _
            | (with_reducible apply Blk.put5
               repeat (first | with_reducible refine Blk.drewNB ?_ _ | with_reducible refine blk_far1 ?_ _ _)
               with_reducible exact blk_r _ _ _ _)
        case hR =>
          refine ⟨by rw [HZ.out], ?_⟩
          first
            | with_reducible exact below_r _ _ _ _ _
            | (with_reducible refine below_set5 ?_ (le3 _) _ _ _ _ _
               repeat (first | with_reducible refine Below.drewN_ ?_ _ | with_reducible refine below_far1 ?_ _ _)
               with_reducible exact below_r _ _ _ _ _)

end Go.Proofs.YtfnfbojaiikigaaGreatDoor

namespace Go.Proofs.YtfnfbojaiikigaaGreatDoor
open Go.RowKit

set_option maxRecDepth 100000 in
set_option maxHeartbeats 4000000 in
theorem ch44_power (c : Chs) (s : Cst) (bv wv pv ov : Value) (w : World) (h : ChAt w (· < w.heap.size) bv wv pv ov c) (hc : OkC c) (hs : OkS c s) :
    Calls Tryz.prog 89 #[chV c bv wv pv ov, stV s] w fun e w' => e = .returned (.int .i64 (pow16 (leftC c s))) ∧ Below w.heap.size w w' := by
  unfold chV stV
  obtain ⟨ball, need, str, par, nxt⟩ := s
  obtain ⟨A, ca, rfl, hc1, hc2⟩ := h.mdl.bat.shape
  obtain ⟨A1, ca1, rfl, hc3, hc4⟩ := h.mdl.bow.shape
  obtain ⟨A2, ca2, rfl, hc5, hc6⟩ := h.bow.shape
  obtain ⟨A3, ca3, rfl, hc7, hc8⟩ := h.ord.shape
  have hx := CSB.new w c (.slice A c.mdl.bats.length ca) (.slice A1 c.mdl.bows.length ca1) (.slice A2 c.bows.length ca2) (.slice A3 c.ord.length ca3) ⟨ball, need, str, par, nxt⟩
  have HX := Lib.hid hx
  have HM := Lib.hid h
  obtain ⟨n, hn⟩ : ∃ n, n = leftC c ⟨ball, need, str, par, nxt⟩ := ⟨_, rfl⟩
  have hn12 := left_le hc hs
  rw [← hn] at hn12
  have hb := hs.ball
  dsimp only at hb
  have hbn : (c.bows.length : Int) - ball = (n : Int) := by rw [hn]; unfold leftC; dsimp only; omega
  rw [← hn]
  obtain ⟨z, hz⟩ : ∃ z, z = pow16 n := ⟨_, rfl⟩
  rw [← hz]
  have hnb := hc.nb
  obtain ⟨hb1, hb2⟩ := hb
  obtain ⟨hnb1, hnb2⟩ := hnb
  clear hs hc hn hx h
  have hcase : n = 0 ∨ n = 1 ∨ n = 2 ∨ n = 3 ∨ n = 4 ∨ n = 5 ∨ n = 6 ∨ n = 7 ∨ n = 8 ∨ n = 9 ∨ n = 10 ∨ n = 11 ∨ n = 12 := by omega
  clear hn12
  rcases hcase with rfl | rfl | rfl | rfl | rfl | rfl | rfl | rfl | rfl | rfl | rfl | rfl | rfl
  all_goals
    have HZ := Lib.hid hz
    have hq := hbn
    simp only [Int.natCast_zero, Int.natCast_one, Int.cast_ofNat_Int] at hq
    clear hz hbn
    go_enter Tryz.func89, Tryz.ntmps89
    go_wp2
    go_ret
    exact ⟨ret_i (by rw [HZ.out]; first | rfl | decide), HX.out.bel⟩
set_option maxRecDepth 100000 in
set_option maxHeartbeats 4000000 in
theorem r44_ended (c : Chs) (s : Cst) (bv wv pv ov : Value) (w : World) (h : ChAt w (· < w.heap.size) bv wv pv ov c) (hc : OkC c) (hs : OkS c s) :
    Calls Tryz.prog 136 #[chV c bv wv pv ov, stV s] w fun e w' => e = .returned (.int .i64 (if stC c s = 2 then pow16 (leftC c s) else 0)) ∧ Below w.heap.size w w' := by
  unfold chV stV
  obtain ⟨ball, need, str, par, nxt⟩ := s
  obtain ⟨A, ca, rfl, hc1, hc2⟩ := h.mdl.bat.shape
  obtain ⟨A1, ca1, rfl, hc3, hc4⟩ := h.mdl.bow.shape
  obtain ⟨A2, ca2, rfl, hc5, hc6⟩ := h.bow.shape
  obtain ⟨A3, ca3, rfl, hc7, hc8⟩ := h.ord.shape
  have hx := CSB.new w c (.slice A c.mdl.bats.length ca) (.slice A1 c.mdl.bows.length ca1) (.slice A2 c.bows.length ca2) (.slice A3 c.ord.length ca3) ⟨ball, need, str, par, nxt⟩
  have HX := Lib.hid hx
  have HM := Lib.hid h
  obtain ⟨n, hn⟩ : ∃ n, n = leftC c ⟨ball, need, str, par, nxt⟩ := ⟨_, rfl⟩
  have hn12 := left_le hc hs
  rw [← hn] at hn12
  have hb := hs.ball
  dsimp only at hb
  have hbn : (c.bows.length : Int) - ball = (n : Int) := by rw [hn]; unfold leftC; dsimp only; omega
  rw [← hn]
  have k1 := fun W (hW : Below w.heap.size w W) => r44_status c ⟨ball, need, str, par, nxt⟩ _ _ _ _ W (HM.out.below hW) hs
  unfold chV stV at k1
  dsimp only at k1
  have k2 := fun W => ref_Unit (n : Int) W
  have hu : unitS (n : Int) = (pow16 n, 0) := by unfold unitS; rw [if_neg (by omega), Int.toNat_natCast, pow16_unit]
  rw [hu] at k2
  rw [← hbn] at k2
  obtain ⟨v, hv⟩ : ∃ v, v = stC c ⟨ball, need, str, par, nxt⟩ := ⟨_, rfl⟩
  rw [← hv] at k1 ⊢
  have K1 := Lib.hid k1
  have K2 := Lib.hid k2
  have hnb := hc.nb
  obtain ⟨hb1, hb2⟩ := hb
  obtain ⟨hnb1, hnb2⟩ := hnb
  have tok0 : True := trivial
  clear k1 k2 hs hc hn hx h hu hv hbn hn12
  by_cases h2 : v = 2
  · rw [if_pos h2]
    have e2 : (v == 2) = true := beq_iff_eq.2 h2
    clear h2
    go_enter Tryz.func136, Tryz.ntmps136
    go_wp2_with (first
      | (clear tok0; go_at_call 135; refine (K1.out _ HX.out.bel).mono ?_; rintro e w2 ⟨rfl, hb2'⟩; have HX2 := Lib.hid (HX.out.below hb2'); obtain ⟨x0, x1, x2, x3, x4, x5, x6, y0, y1, y2, y3, y4⟩ := HX2.out.cells; dsimp only at y0 y1 y2 y3 y4; clear hb2'; have tok1 : True := trivial)
      | (clear tok1; go_at_call 107; refine (K2.out _).mono ?_; rintro e w3 ⟨rfl, rfl⟩; have tok2 : True := trivial))
    go_ret
    exact ⟨rfl, HX2.out.bel⟩
  · rw [if_neg h2]
    have e2 : (v == 2) = false := beq_eq_false_iff_ne.2 h2
    clear h2
    go_enter Tryz.func136, Tryz.ntmps136
    go_wp2_with (clear tok0; go_at_call 135; refine (K1.out _ HX.out.bel).mono ?_; rintro e w2 ⟨rfl, hb2'⟩; have HX2 := Lib.hid (HX.out.below hb2'); obtain ⟨x0, x1, x2, x3, x4, x5, x6, y0, y1, y2, y3, y4⟩ := HX2.out.cells; dsimp only at y0 y1 y2 y3 y4; clear hb2'; have tok1 : True := trivial)
    go_ret
    exact ⟨rfl, HX2.out.bel⟩
end Go.Proofs.YtfnfbojaiikigaaGreatDoor

namespace Go.Proofs.YtfnfbojaiikigaaGreatDoor
open Go.RowKit Go.Maps

/-- A chase and a state boxed, a map of values beside them. -/
structure Sol (w W : World) (b N : Nat) (c : Chs) (bv wv pv ov : Value) (s : Cst) : Prop where
  only : Only b w W
  box : Blk W w.heap.size 28 #[bv, wv, pv, .int .i64 c.over, .int .i64 c.done, .int .i64 c.need, ov]
  st : Blk W (w.heap.size + 1) 33 #[.int .i64 s.ball, .int .i64 s.need, .int .i64 s.str, .int .i64 s.par, .int .i64 s.nxt]
  blt : b < w.heap.size
  vals : ∃ D, Vals W b N D ∧ Known c D
section
variable {w W W' : World} {b N N' : Nat} {c : Chs} {bv wv pv ov : Value} {s : Cst}
theorem vals_below {D : DataW Unit} (h : Vals W b N D) (hb : Below W.heap.size W W') : Vals W' b N D := h.kept (Only.of_below (g := b + 1) hb) (by simp)
theorem Sol.below (h : Sol w W b N c bv wv pv ov s) (hb : Below W.heap.size W W') : Sol w W' b N c bv wv pv ov s :=
  ⟨h.only.trans (Only.of_below hb), h.box.below hb h.box.lt, h.st.below hb h.st.lt, h.blt, let ⟨D, h1, h2⟩ := h.vals; ⟨D, vals_below h1 hb, h2⟩⟩
theorem Sol.alloc (h : Sol w W b N c bv wv pv ov s) (o : Obj) : Sol w (W.alloc o) b N c bv wv pv ov s := h.below (Below.alloc (Below.refl _ _) (Nat.le_refl _) o)
theorem Sol.drew (h : Sol w W b N c bv wv pv ov s) : Sol w W.drew b N c bv wv pv ov s := h.below (Below.drew (Below.refl _ _))
theorem Sol.into (h : Sol w W b N c bv wv pv ov s) (ho : Only b W W') (hv : ∃ D, Vals W' b N' D ∧ Known c D) : Sol w W' b N' c bv wv pv ov s :=
  ⟨h.only.trans ho, h.box.grown ho (by intro e; injection e with e; have := h.blt; omega), h.st.grown ho (by intro e; injection e with e; have := h.blt; omega), h.blt, hv⟩
theorem Sol.cells (h : Sol w W b N c bv wv pv ov s) : W.cell? ⟨w.heap.size, 0, none⟩ = some bv ∧ W.cell? ⟨w.heap.size, 1, none⟩ = some wv ∧ W.cell? ⟨w.heap.size, 2, none⟩ = some pv ∧ W.cell? ⟨w.heap.size, 3, none⟩ = some (.int .i64 c.over) ∧ W.cell? ⟨w.heap.size, 4, none⟩ = some (.int .i64 c.done) ∧ W.cell? ⟨w.heap.size, 5, none⟩ = some (.int .i64 c.need) ∧ W.cell? ⟨w.heap.size, 6, none⟩ = some ov ∧
    W.cell? ⟨w.heap.size + 1, 0, none⟩ = some (.int .i64 s.ball) ∧ W.cell? ⟨w.heap.size + 1, 1, none⟩ = some (.int .i64 s.need) ∧ W.cell? ⟨w.heap.size + 1, 2, none⟩ = some (.int .i64 s.str) ∧ W.cell? ⟨w.heap.size + 1, 3, none⟩ = some (.int .i64 s.par) ∧ W.cell? ⟨w.heap.size + 1, 4, none⟩ = some (.int .i64 s.nxt) :=
  ⟨h.box.cell 0, h.box.cell 1, h.box.cell 2, h.box.cell 3, h.box.cell 4, h.box.cell 5, h.box.cell 6, h.st.cell 0, h.st.cell 1, h.st.cell 2, h.st.cell 3, h.st.cell 4⟩
theorem Sol.new {D : DataW Unit} (h1 : Vals w b N D) (h2 : Known c D) : Sol w ((w.alloc (.cells #[bv, wv, pv, .int .i64 c.over, .int .i64 c.done, .int .i64 c.need, ov] 28)).alloc (.cells #[.int .i64 s.ball, .int .i64 s.need, .int .i64 s.str, .int .i64 s.par, .int .i64 s.nxt] 33)) b N c bv wv pv ov s :=
  let hx := CSB.new w c bv wv pv ov s
  ⟨Only.of_below hx.bel, hx.box, hx.st, h1.lt, D, vals_below h1 hx.bel, h2⟩
end
/-- A list that lies in blocks other than b. -/
theorem sl_only {W W' : World} {b : Nat} {v : Value} {l : List Otc} (h : Sl 3 elOtc W (fun x => x < W.heap.size ∧ x ≠ b) v l) (ho : Only b W W') : Sl 3 elOtc W' (fun x => x < W'.heap.size ∧ x ≠ b) v l :=
  h.keep elOtc_good (ho.same fun x hx => hx) fun x hx => ⟨Nat.lt_of_lt_of_le hx.1 ho.size, hx.2⟩
/-- What a function that values states does. -/
def SolveAt (f : FuncId) (c : Chs) (n : Nat) : Prop := ∀ (s : Cst), leftC c s = n → OkS c s → ∀ (bv wv pv ov : Value) (F : Nat → Prop) (b N : Nat) (D : DataW Unit) (w : World), ChAt w F bv wv pv ov c → (∀ x, F x → x < w.heap.size ∧ x ≠ b) → Vals w b N D → Known c D → N + cntV n ≤ 2000000000000000000 →
  Calls Tryz.prog f #[chV c bv wv pv ov, stV s, .map (some b)] w fun e w' => e = .returned (.int .i64 (valS c s)) ∧ Only b w w' ∧ ∃ D', Vals w' b (N + cntV n) D' ∧ Known c D'
theorem prod_bd {x y : Int} {n : Nat} (hn : n ≤ 11) (hx : 1 ≤ x ∧ x ≤ 16) (hy : 0 ≤ y ∧ y ≤ pow16 n) : 0 ≤ x * y ∧ x * y ≤ 281474976710656 := by
  have h1 : pow16 n ≤ 17592186044416 := by
    have h2 := (pow16_le (n := n + 1) (by omega)).2
    rw [pow16] at h2; omega
  refine ⟨Int.mul_nonneg (by omega) hy.1, ?_⟩
  have := Int.mul_le_mul hx.2 (Int.le_trans hy.2 h1) hy.1 (by omega)
  omega
set_option maxRecDepth 100000 in
set_option maxHeartbeats 8000000 in
theorem ch44_solve_at (c : Chs) (hc : OkC c) (n : Nat) (ih : ∀ k, n = k + 1 → SolveAt 46 c k) : SolveAt 46 c n := by
  intro s hl hs bv wv pv ov F b N D w h hF hown hkn hN
  have hkey := key_of (hs.smol hc)
  have hn12 := left_le hc hs
  rw [hl] at hn12
  obtain ⟨z, hz⟩ : ∃ z, z = valS c s := ⟨_, rfl⟩
  have hbd := valS_bd hc hs
  rw [hl] at hbd
  have hp16 := pow16_le hn12
  have hz0 : 0 ≤ z ∧ z ≤ 281474976710656 := by rw [hz]; omega
  have hit : Maps.has D (keyS s) = true → D.atKey (keyS s) (.lit (.int .i64 0)) = .lit (.int .i64 z) := fun hh => by rw [hz]; exact hkn s hs hh
  have hput : ∀ (D2 : DataW Unit), Known c D2 → IsMap D2 → Known c (D2.put (keyS s) (.lit (.int .i64 z))) := fun D2 h1 h2 => by rw [hz]; exact h1.put h2 hc hs
  have hsol : Sol w _ b N c bv wv pv ov s := Sol.new hown hkn
  have kst := fun W (hW : Only b w W) => ch44_status c s bv wv pv ov W ((h.keep (hW.same hF) fun x hx => Nat.lt_of_lt_of_le (hF x hx).1 hW.size)) hs
  have kmv := fun (h1 : stC c s = 1) W (hW : Only b w W) => ch44_moves c s bv wv pv ov W ((h.keep (hW.same hF) fun x hx => Nat.lt_of_lt_of_le (hF x hx).1 hW.size)) hc hs h1
  have ken := fun W (hW : Only b w W) => ch44_power c s bv wv pv ov W ((h.keep (hW.same hF) fun x hx => Nat.lt_of_lt_of_le (hF x hx).1 hW.size)) hc hs
  have hend : stC c s ≠ 1 → (if stC c s = 2 then pow16 (leftC c s) else 0) = z := fun h1 => by
    have := stC_bd c s
    rw [hz]
    by_cases h2 : stC c s = 2
    · rw [if_pos h2, valS_won h2]
    · rw [if_neg h2, valS_lost hs (by omega)]
  have HA := Lib.hid h
  have HF := Lib.hid hF
  have HKN := Lib.hid hkn
  rw [← hz]
  clear hbd hp16
  obtain ⟨A, ca, rfl, hc1, hc2⟩ := h.mdl.bat.shape
  obtain ⟨A1, ca1, rfl, hc3, hc4⟩ := h.mdl.bow.shape
  obtain ⟨A2, ca2, rfl, hc5, hc6⟩ := h.bow.shape
  obtain ⟨A3, ca3, rfl, hc7, hc8⟩ := h.ord.shape
  unfold chV stV at kst kmv ken ⊢
  unfold stV at hkey
  have HSOL := Lib.hid hsol
  have HKEY := Lib.hid hkey
  have HV2 := Lib.hid (vals_below hown (CSB.new w c (.slice A c.mdl.bats.length ca) (.slice A1 c.mdl.bows.length ca1) (.slice A2 c.bows.length ca2) (.slice A3 c.ord.length ca3) s).bel)
  have HPUT := Lib.hid hput
  clear hsol hkey h hF hown hput
  obtain ⟨y0, y1, y2, y3, y4, y5, y6, t0, t1, t2, t3, t4⟩ := HSOL.out.cells
  clear y0 y1 y2 y3 y4 y5 y6 t0 t1 t2 t3 t4
  cases hh : Maps.has D (keyS s)
  case true =>
    have HIT := Lib.hid (hit hh)
    clear hit ih kst kmv ken hend hz hl hs hc hkn
    go_enter Tryz.func46, Tryz.ntmps46
    go_wp2_with (at_lookup; refine wpList_lookup_own_ok_int _ rfl _ _ 84 rfl 33 2 .i64 law44 Tryz.underlying84 Tryz.underlying2 (zero_i64 _) b N D rfl HV2.out _ _ rfl HKEY.out ?_; intro cc hat hwc; have HC := Lib.hid (show cc = z from by have := hat.symm.trans HIT.out; injection this with this; injection this); clear hat hwc)
    go_ret
    exact ⟨ret_i HC.out, HSOL.out.only, D, HV2.out.mono (by omega), HKN.out⟩
  case false =>
    clear hit
    obtain ⟨st, hst⟩ : ∃ x, x = stC c s := ⟨_, rfl⟩
    have hst3 := stC_bd c s
    rw [← hst] at kst kmv hend hst3
    by_cases h1 : st = 1
    case neg =>
      have HSt := Lib.hid hst
      have KST := Lib.hid kst
      have hcn : 1 ≤ cntV n := by cases n <;> rw [cntV] <;> omega
      have tok0 : True := trivial
      by_cases h2 : st = 2
      · have he := hend h1
        rw [if_pos h2] at he
        rw [he] at ken
        have KEN := Lib.hid ken
        have e2 : (st == 2) = true := beq_iff_eq.2 h2
        clear kst kmv ken hend hst hst3 h1 h2 he ih hl hs hc hkn hz hn12
        go_enter Tryz.func46, Tryz.ntmps46
        go_wp2_with (first
          | (at_lookup; refine wpList_lookup_own_ok_int _ rfl _ _ 84 rfl 33 2 .i64 law44 Tryz.underlying84 Tryz.underlying2 (zero_i64 _) b N D rfl HV2.out _ _ rfl HKEY.out ?_; intro cc hat hwc; clear hat hwc)
          | (clear tok0; go_at_call 47; refine (KST.out _ HSOL.out.only).mono ?_; rintro e w2 ⟨rfl, hb2⟩; have HS2 := Lib.hid (HSOL.out.below hb2); obtain ⟨y0, y1, y2, y3, y4, y5, y6, t0, t1, t2, t3, t4⟩ := HS2.out.cells; clear hb2; have tok1 : True := trivial)
          | (clear tok1; go_at_call 89; refine (KEN.out _ HS2.out.only).mono ?_; rintro e w3 ⟨rfl, hb3⟩; have HS3 := Lib.hid (HS2.out.below hb3); clear y0 y1 y2 y3 y4 y5 y6 t0 t1 t2 t3 t4; obtain ⟨y0, y1, y2, y3, y4, y5, y6, t0, t1, t2, t3, t4⟩ := HS3.out.cells; obtain ⟨D2, hv9, hk9⟩ := HS3.out.vals; have HV9 := Lib.hid hv9; have HK9 := Lib.hid hk9; clear hb3 hv9 hk9; have tok2 : True := trivial)
          | (at_mapUpdate; refine wpList_mapUpdate_own _ rfl _ _ _ 84 rfl 33 2 law44 Tryz.underlying84 _ b N D2 rfl HV9.out (by unfold maxLen; omega) _ _ _ rfl rfl HKEY.out _ [] (plainElem_int Tryz.underlying2 (WalkArith.wf_i64 (by omega))) ?_; intro w9 hown9 hgrow9; have HG9 := Lib.hid hgrow9; have HO9 := Lib.hid hown9; clear hgrow9 hown9))
        go_ret
        exact ⟨rfl, HS3.out.only.trans HG9.out, _, HO9.out.mono (by omega), HPUT.out _ HK9.out HV9.out.isMap⟩
      · have he := hend h1
        rw [if_neg h2] at he
        subst he
        have e2 : (st == 2) = false := beq_eq_false_iff_ne.2 h2
        have e1 : (st == 1) = false := beq_eq_false_iff_ne.2 h1
        clear kst kmv ken hend hst hst3 h1 h2 ih hl hs hc hkn hz hn12
        go_enter Tryz.func46, Tryz.ntmps46
        go_wp2_with (first
          | (at_lookup; refine wpList_lookup_own_ok_int _ rfl _ _ 84 rfl 33 2 .i64 law44 Tryz.underlying84 Tryz.underlying2 (zero_i64 _) b N D rfl HV2.out _ _ rfl HKEY.out ?_; intro cc hat hwc; clear hat hwc)
          | (clear tok0; go_at_call 47; refine (KST.out _ HSOL.out.only).mono ?_; rintro e w3 ⟨rfl, hb2⟩; have HS3 := Lib.hid (HSOL.out.below hb2); obtain ⟨y0, y1, y2, y3, y4, y5, y6, t0, t1, t2, t3, t4⟩ := HS3.out.cells; obtain ⟨D2, hv9, hk9⟩ := HS3.out.vals; have HV9 := Lib.hid hv9; have HK9 := Lib.hid hk9; clear hb2 hv9 hk9; have tok1 : True := trivial)
          | (at_mapUpdate; refine wpList_mapUpdate_own _ rfl _ _ _ 84 rfl 33 2 law44 Tryz.underlying84 _ b N D2 rfl HV9.out (by unfold maxLen; omega) _ _ _ rfl rfl HKEY.out _ [] (plainElem_int Tryz.underlying2 (WalkArith.wf_i64 (by omega))) ?_; intro w9 hown9 hgrow9; have HG9 := Lib.hid hgrow9; have HO9 := Lib.hid hown9; clear hgrow9 hown9))
        go_ret
        exact ⟨rfl, HS3.out.only.trans HG9.out, _, HO9.out.mono (by omega), HPUT.out _ HK9.out HV9.out.isMap⟩
    case pos =>
      have h1' : stC c s = 1 := by rw [← hst]; exact h1
      obtain ⟨hneed, hstr, k0, hk0, hk1⟩ := left_run hs h1'
      obtain rfl : n = k0 + 1 := by omega
      have hih := ih k0 rfl
      obtain ⟨l, hle⟩ : ∃ l, mvC c s = l := ⟨_, rfl⟩
      obtain ⟨_, _, _, _, _, _, _, _, _, _, _, _, _, _, _, hd⟩ := mvC_at hc hs h1'
      rw [hle] at hd
      have hok := checkD_ok hd
      have hlen : l.length ≤ 16 := hok.len.2
      have hoe : ∀ (k : Nat) (hk : k < l.length), OkO l[k] := fun k hk => hok.each _ (List.getElem_mem hk)
      have kstep := fun k (hk : k < l.length) W => ch44_step c s l[k] A A1 A2 A3 ca ca1 ca2 ca3 W hc hs h1' ⟨(hoe k hk).r0, (hoe k hk).r7⟩
      have hok2 : ∀ (k : Nat) (hk : k < l.length), leftC c (stepC c s l[k]) = k0 ∧ OkS c (stepC c s l[k]) := fun k hk => ⟨by have := left_step hc hs h1' (o := l[k]) (hoe k hk).r0; omega, (stepC_ok hc hs h1' (hoe k hk).r0).1⟩
      have krec := fun k (hk : k < l.length) N' D' W => hih (stepC c s l[k]) (hok2 k hk).1 (hok2 k hk).2 (.slice A c.mdl.bats.length ca) (.slice A1 c.mdl.bows.length ca1) (.slice A2 c.bows.length ca2) (.slice A3 c.ord.length ca3) F b N' D' W
      have hprod : ∀ (k : Nat) (hk : k < l.length), 0 ≤ l[k].wt * valS c (stepC c s l[k]) ∧ l[k].wt * valS c (stepC c s l[k]) ≤ 281474976710656 := fun k hk => prod_bd (n := k0) (by omega) ⟨(hoe k hk).w1, (hoe k hk).w16⟩ (by have := valS_bd hc (hok2 k hk).2; rw [(hok2 k hk).1] at this; exact this)
      have hsum : ∀ (k : Nat) (hk : k < l.length) (sm : Int), sm = sumI ((l.take k).map fun o => o.wt * valS c (stepC c s o)) → sm + l[k].wt * valS c (stepC c s l[k]) = sumI ((l.take (k + 1)).map fun o => o.wt * valS c (stepC c s o)) := fun k hk sm h => by
        rw [h, sum_take (fun o : Otc => o.wt * valS c (stepC c s o)) hk]
      have hfin : sumI (l.map fun o => o.wt * valS c (stepC c s o)) = z := by rw [hz, valS_run hc hs h1', hle]
      obtain ⟨q, hq⟩ : ∃ q, q = cntV k0 := ⟨_, rfl⟩
      have hcnt : cntV (k0 + 1) = 1 + 16 * q := by rw [cntV, hq]
      rw [hcnt] at hN ⊢
      unfold chV stV at krec
      unfold stV at kstep
      rw [← hq] at krec
      have kmv1 := kmv h1
      rw [hle] at kmv1
      rw [h1] at kst
      have KST := Lib.hid kst
      have KMV := Lib.hid kmv1
      have KSTEP := Lib.hid kstep
      have KREC := Lib.hid krec
      have HPR := Lib.hid hprod
      have HSUM := Lib.hid hsum
      have HFIN := Lib.hid hfin
      have tok0 : True := trivial
      clear kst kmv kmv1 ken hend hst hst3 h1 h1' hneed hstr hk0 hk1 hih hle hd hok hoe kstep hok2 krec hprod hsum hfin hq hcnt ih hl hs hc hkn hz hn12
      go_enter Tryz.func46, Tryz.ntmps46
      go_wp2_with (first
        | (at_lookup; refine wpList_lookup_own_ok_int _ rfl _ _ 84 rfl 33 2 .i64 law44 Tryz.underlying84 Tryz.underlying2 (zero_i64 _) b N D rfl HV2.out _ _ rfl HKEY.out ?_; intro cc hat hwc; clear hat hwc)
        | (clear tok0; go_at_call 47; refine (KST.out _ HSOL.out.only).mono ?_; rintro e w2 ⟨rfl, hb2⟩; have HS2 := Lib.hid (HSOL.out.below hb2); obtain ⟨y0, y1, y2, y3, y4, y5, y6, t0, t1, t2, t3, t4⟩ := HS2.out.cells; clear hb2; have tok1 : True := trivial)
        | (clear tok1; go_at_call 48; refine (KMV.out _ HS2.out.only).mono ?_; rintro e w3 ⟨A4, n4, k4, rfl, hb3, hs3⟩; obtain ⟨Az, kz, hze, hz1, hz2⟩ := hs3.shape; have hn4 : n4 = l.length := (by injection hze); subst hn4; have HS3 := Lib.hid (HS2.out.below hb3); have HL3 := Lib.hid (hs3.keep (G := fun x => x < w3.heap.size ∧ x ≠ b) elOtc_good (Same.refl _ _) fun x hx => ⟨hx.2, by have := HS2.out.blt; have := HS2.out.only.size; omega⟩); clear y0 y1 y2 y3 y4 y5 y6 t0 t1 t2 t3 t4; obtain ⟨y0, y1, y2, y3, y4, y5, y6, t0, t1, t2, t3, t4⟩ := HS3.out.cells; clear hb3 hs3 hze hz1 hz2; have tok2 : True := trivial))
      go_loopw [9, 34] (fun v i wr => ∃ (k : Nat) (sm : Int), k ≤ l.length ∧ i = .int .i64 k ∧ v = .int .i64 sm ∧ 0 ≤ sm ∧ sm ≤ 281474976710656 * k ∧ Hid (Sol w wr b (N + k * q) c (.slice A c.mdl.bats.length ca) (.slice A1 c.mdl.bows.length ca1) (.slice A2 c.bows.length ca2) (.slice A3 c.ord.length ca3) s) ∧ Hid (Sl 3 elOtc wr (fun x => x < wr.heap.size ∧ x ≠ b) (.slice A4 l.length k4) l) ∧ Hid (sm = sumI ((l.take k).map fun o => o.wt * valS c (stepC c s o)))) (fun _ i _ => l.length - (intOf i).toNat)
      case atStart => exact ⟨0, 0, Nat.zero_le _, rfl, rfl, by omega, by omega, Lib.hid (by rw [Nat.zero_mul]; exact HS3.out), HL3, Lib.hid rfl⟩
      case round =>
        clear HS2 HS3 HL3 y0 y1 y2 y3 y4 y5 y6 t0 t1 t2 t3 t4
        obtain ⟨k, sm, hk, rfl, rfl, hs0, hs1, HS, HL, hss⟩ := hrel
        by_cases hlt : k < l.length
        · obtain ⟨b0, o, rfl, hbl, g0, g1, g2⟩ := otc_at HL.out hlt
          have hp := HPR.out k hlt
          have hst := HSUM.out k hlt sm hss.out
          have kS := KSTEP.out k hlt
          have kR := KREC.out k hlt
          obtain ⟨s', hs'⟩ : ∃ x, x = stepC c s l[k] := ⟨_, rfl⟩
          rw [← hs'] at hp hst
          simp only [← hs'] at kS kR
          obtain ⟨vv, hvv⟩ : ∃ x, x = valS c s' := ⟨_, rfl⟩
          rw [← hvv] at hp hst
          simp only [← hvv] at kR
          obtain ⟨⟨pr, pw, pt⟩, hp'⟩ : ∃ p, p = l[k] := ⟨_, rfl⟩
          rw [← hp'] at g0 g1 g2 hp hst
          simp only [← hp'] at kS
          dsimp only at g0 g1 g2 hp hst kS
          obtain ⟨hp0, hp1⟩ := hp
          have hkq : k * q + q ≤ 16 * q := by have := Nat.mul_le_mul_right q (show k + 1 ≤ 16 by omega); rw [Nat.add_mul, Nat.one_mul] at this; exact this
          have HST := Lib.hid hst
          have KS := Lib.hid kS
          have KR := Lib.hid kR
          have HKQ := Lib.hid hkq
          clear hst kS kR hs' hvv hp' hss hkq
          go_wp2
          have HSA := Lib.hid (HS.out.alloc (.cells #[.int .i64 pr, .bool pw, .int .i64 pt] 46)).drew
          have HLA := Lib.hid (sl_only HL.out (Only.of_below (g := b) (Below.drew (Below.alloc (Below.refl wr.heap.size wr) (Nat.le_refl _) (.cells #[.int .i64 pr, .bool pw, .int .i64 pt] 46)))))
          have HCA := Lib.hid (Blk.new wr 46 #[.int .i64 pr, .bool pw, .int .i64 pt]).drew
          obtain ⟨y0, y1, y2, y3, y4, y5, y6, t0, t1, t2, t3, t4⟩ := HSA.out.cells
          have u0 := HCA.out.cell 0
          have u1 := HCA.out.cell 1
          have u2 := HCA.out.cell 2
          have tok2 : True := trivial
          have hwb : b < wr.heap.size := by have := HS.out.blt; have := HS.out.only.size; omega
          go_region_held3 (fun w' => w'.cell? ⟨w.heap.size, 0, none⟩ = some (.slice A c.mdl.bats.length ca) ∧ w'.cell? ⟨w.heap.size, 1, none⟩ = some (.slice A1 c.mdl.bows.length ca1) ∧ w'.cell? ⟨w.heap.size, 2, none⟩ = some (.slice A2 c.bows.length ca2) ∧ w'.cell? ⟨w.heap.size, 3, none⟩ = some (.int .i64 c.over) ∧ w'.cell? ⟨w.heap.size, 4, none⟩ = some (.int .i64 c.done) ∧ w'.cell? ⟨w.heap.size, 5, none⟩ = some (.int .i64 c.need) ∧ w'.cell? ⟨w.heap.size, 6, none⟩ = some (.slice A3 c.ord.length ca3) ∧ w'.cell? ⟨w.heap.size + 1, 0, none⟩ = some (.int .i64 s.ball) ∧ w'.cell? ⟨w.heap.size + 1, 1, none⟩ = some (.int .i64 s.need) ∧ w'.cell? ⟨w.heap.size + 1, 2, none⟩ = some (.int .i64 s.str) ∧ w'.cell? ⟨w.heap.size + 1, 3, none⟩ = some (.int .i64 s.par) ∧ w'.cell? ⟨w.heap.size + 1, 4, none⟩ = some (.int .i64 s.nxt) ∧ w'.cell? ⟨wr.heap.size, 0, none⟩ = some (.int .i64 pr) ∧ w'.cell? ⟨wr.heap.size, 1, none⟩ = some (.bool pw) ∧ w'.cell? ⟨wr.heap.size, 2, none⟩ = some (.int .i64 pt)) (first | exact ⟨y0, y1, y2, y3, y4, y5, y6, t0, t1, t2, t3, t4, u0, u1, u2⟩ | go_keep) (first
            | (clear tok2; go_at_call 51; refine (KS.out _).mono ?_; rintro e w5 ⟨rfl, hb5⟩; have HS5 := Lib.hid (HSA.out.below hb5); have HL5 := Lib.hid (sl_only HLA.out (Only.of_below hb5)); have HC5 := Lib.hid (HCA.out.below hb5 HCA.out.lt); obtain ⟨y0, y1, y2, y3, y4, y5, y6, t0, t1, t2, t3, t4⟩ := HS5.out.cells; have u0 := HC5.out.cell 0; have u1 := HC5.out.cell 1; have u2 := HC5.out.cell 2; clear hb5; have tok3 : True := trivial)
            | (clear tok3; go_at_call 46; obtain ⟨D5, hv5, hk5⟩ := HS5.out.vals; refine (KR.out _ D5 _ (HA.out.keep (HS5.out.only.same HF.out) fun _ h => h) (fun x hx => ⟨Nat.lt_of_lt_of_le (HF.out x hx).1 HS5.out.only.size, (HF.out x hx).2⟩) hv5 hk5 (by have := HKQ.out; omega)).mono ?_; rintro e w6 ⟨rfl, ho6, hv6⟩; have HS6 := Lib.hid (show Sol w w6 b (N + (k + 1) * q) c (.slice A c.mdl.bats.length ca) (.slice A1 c.mdl.bows.length ca1) (.slice A2 c.bows.length ca2) (.slice A3 c.ord.length ca3) s from HS5.out.into ho6 (by obtain ⟨D7, h1, h2⟩ := hv6; exact ⟨D7, h1.mono (by rw [Nat.add_mul]; omega), h2⟩)); have HL6 := Lib.hid (sl_only HL5.out ho6); have HC6 := Lib.hid (HC5.out.grown ho6 (by intro e; injection e with e; omega)); obtain ⟨y0, y1, y2, y3, y4, y5, y6, t0, t1, t2, t3, t4⟩ := HS6.out.cells; have u0 := HC6.out.cell 0; have u1 := HC6.out.cell 1; have u2 := HC6.out.cell 2; clear ho6 hv6 hv5 hk5; have tok4 : True := trivial))
          all_goals go_wp2
          go_roundw
          case rel => exact ⟨k + 1, sm + pt * vv, by omega, by go_num, by rw [IntWalk.i64_in (pt * vv) (by omega), IntWalk.i64_in (sm + pt * vv) (by omega)], by omega, by push_cast; omega, HS6, HL6, HST⟩
          case measure => simp [intOf]; omega
        · obtain rfl : k = l.length := by omega
          have hs2 := hss.out
          rw [List.take_of_length_le (Nat.le_refl _), HFIN.out] at hs2
          subst hs2
          obtain ⟨D2, hv9, hk9⟩ := HS.out.vals
          have HV9 := Lib.hid hv9
          have HK9 := Lib.hid hk9
          obtain ⟨y0, y1, y2, y3, y4, y5, y6, t0, t1, t2, t3, t4⟩ := HS.out.cells
          have hlq : l.length * q ≤ 16 * q := Nat.mul_le_mul_right q hlen
          obtain ⟨NN, hNN⟩ : ∃ NN, NN = N + l.length * q := ⟨_, rfl⟩
          rw [← hNN] at HV9
          have hN9 : NN + 1 ≤ N + (1 + 16 * q) := by omega
          have hN8 : NN < 2000000000000000000 := by omega
          clear hv9 hk9 hss hlq hNN
          go_wp2_with (at_mapUpdate; refine wpList_mapUpdate_own _ rfl _ _ _ 84 rfl 33 2 law44 Tryz.underlying84 _ b NN D2 rfl HV9.out (by unfold maxLen; omega) _ _ _ rfl rfl HKEY.out _ [] (plainElem_int Tryz.underlying2 (WalkArith.wf_i64 (by omega))) ?_; intro w9 hown9 hgrow9; have HG9 := Lib.hid hgrow9; have HO9 := Lib.hid hown9; clear hgrow9 hown9)
          go_ret
          exact ⟨rfl, HS.out.only.trans HG9.out, _, HO9.out.mono (by omega), HPUT.out _ HK9.out HV9.out.isMap⟩
theorem ch44_solve (c : Chs) (hc : OkC c) : ∀ n, SolveAt 46 c n
  | 0 => ch44_solve_at c hc 0 (fun k h => by omega)
  | n + 1 => ch44_solve_at c hc (n + 1) fun k h => by
      obtain rfl : n = k := by omega
      exact ch44_solve c hc n
end Go.Proofs.YtfnfbojaiikigaaGreatDoor

namespace Go.Proofs.YtfnfbojaiikigaaGreatDoor
open Go.RowKit Go.Maps

set_option maxRecDepth 100000 in
set_option maxHeartbeats 8000000 in
theorem r44_fill_at (c : Chs) (hc : OkC c) (n : Nat) (ih : ∀ k, n = k + 1 → SolveAt 109 c k) : SolveAt 109 c n := by
  intro s hl hs bv wv pv ov F b N D w h hF hown hkn hN
  have hkey := key_of (hs.smol hc)
  have hn12 := left_le hc hs
  rw [hl] at hn12
  obtain ⟨z, hz⟩ : ∃ z, z = valS c s := ⟨_, rfl⟩
  have hbd := valS_bd hc hs
  rw [hl] at hbd
  have hp16 := pow16_le hn12
  have hz0 : 0 ≤ z ∧ z ≤ 281474976710656 := by rw [hz]; omega
  have hit : Maps.has D (keyS s) = true → D.atKey (keyS s) (.lit (.int .i64 0)) = .lit (.int .i64 z) := fun hh => by rw [hz]; exact hkn s hs hh
  have hput : ∀ (D2 : DataW Unit), Known c D2 → IsMap D2 → Known c (D2.put (keyS s) (.lit (.int .i64 z))) := fun D2 h1 h2 => by rw [hz]; exact h1.put h2 hc hs
  have hsol : Sol w _ b N c bv wv pv ov s := Sol.new hown hkn
  have kst := fun W (hW : Only b w W) => r44_status c s bv wv pv ov W ((h.keep (hW.same hF) fun x hx => Nat.lt_of_lt_of_le (hF x hx).1 hW.size)) hs
  have kmv := fun (h1 : stC c s = 1) W (hW : Only b w W) => r44_moves c s bv wv pv ov W ((h.keep (hW.same hF) fun x hx => Nat.lt_of_lt_of_le (hF x hx).1 hW.size)) hc hs h1
  have ken := fun W (hW : Only b w W) => r44_ended c s bv wv pv ov W ((h.keep (hW.same hF) fun x hx => Nat.lt_of_lt_of_le (hF x hx).1 hW.size)) hc hs
  have hend : stC c s ≠ 1 → (if stC c s = 2 then pow16 (leftC c s) else 0) = z := fun h1 => by
    have := stC_bd c s
    rw [hz]
    by_cases h2 : stC c s = 2
    · rw [if_pos h2, valS_won h2]
    · rw [if_neg h2, valS_lost hs (by omega)]
  have HA := Lib.hid h
  have HF := Lib.hid hF
  have HKN := Lib.hid hkn
  rw [← hz]
  clear hbd hp16
  obtain ⟨A, ca, rfl, hc1, hc2⟩ := h.mdl.bat.shape
  obtain ⟨A1, ca1, rfl, hc3, hc4⟩ := h.mdl.bow.shape
  obtain ⟨A2, ca2, rfl, hc5, hc6⟩ := h.bow.shape
  obtain ⟨A3, ca3, rfl, hc7, hc8⟩ := h.ord.shape
  unfold chV stV at kst kmv ken ⊢
  unfold stV at hkey
  have HSOL := Lib.hid hsol
  have HKEY := Lib.hid hkey
  have HV2 := Lib.hid (vals_below hown (CSB.new w c (.slice A c.mdl.bats.length ca) (.slice A1 c.mdl.bows.length ca1) (.slice A2 c.bows.length ca2) (.slice A3 c.ord.length ca3) s).bel)
  have HPUT := Lib.hid hput
  clear hsol hkey h hF hown hput
  obtain ⟨y0, y1, y2, y3, y4, y5, y6, t0, t1, t2, t3, t4⟩ := HSOL.out.cells
  clear y0 y1 y2 y3 y4 y5 y6 t0 t1 t2 t3 t4
  cases hh : Maps.has D (keyS s)
  case true =>
    have HIT := Lib.hid (hit hh)
    clear hit ih kst kmv ken hend hz hl hs hc hkn
    go_enter Tryz.func109, Tryz.ntmps109
    go_wp2_with (at_lookup; refine wpList_lookup_own_ok_int _ rfl _ _ 84 rfl 33 2 .i64 law44 Tryz.underlying84 Tryz.underlying2 (zero_i64 _) b N D rfl HV2.out _ _ rfl HKEY.out ?_; intro cc hat hwc; have HC := Lib.hid (show cc = z from by have := hat.symm.trans HIT.out; injection this with this; injection this); clear hat hwc)
    go_ret
    exact ⟨ret_i HC.out, HSOL.out.only, D, HV2.out.mono (by omega), HKN.out⟩
  case false =>
    clear hit
    obtain ⟨st, hst⟩ : ∃ x, x = stC c s := ⟨_, rfl⟩
    have hst3 := stC_bd c s
    rw [← hst] at kst kmv hend hst3
    by_cases h1 : st = 1
    case neg =>
      have KST := Lib.hid kst
      have hcn : 1 ≤ cntV n := by cases n <;> rw [cntV] <;> omega
      have tok0 : True := trivial
      have he := hend h1
      rw [← hst, he] at ken
      have KEN := Lib.hid ken
      have e1 : (st == 1) = false := beq_eq_false_iff_ne.2 h1
      clear kst kmv ken hend hst hst3 h1 he ih hl hs hc hkn hz hn12
      go_enter Tryz.func109, Tryz.ntmps109
      go_wp2_with (first
        | (at_lookup; refine wpList_lookup_own_ok_int _ rfl _ _ 84 rfl 33 2 .i64 law44 Tryz.underlying84 Tryz.underlying2 (zero_i64 _) b N D rfl HV2.out _ _ rfl HKEY.out ?_; intro cc hat hwc; clear hat hwc)
        | (clear tok0; go_at_call 135; refine (KST.out _ HSOL.out.only).mono ?_; rintro e w2 ⟨rfl, hb2⟩; have HS2 := Lib.hid (HSOL.out.below hb2); obtain ⟨y0, y1, y2, y3, y4, y5, y6, t0, t1, t2, t3, t4⟩ := HS2.out.cells; clear hb2; have tok1 : True := trivial)
        | (clear tok1; go_at_call 136; refine (KEN.out _ HS2.out.only).mono ?_; rintro e w3 ⟨rfl, hb3⟩; have HS3 := Lib.hid (HS2.out.below hb3); clear y0 y1 y2 y3 y4 y5 y6 t0 t1 t2 t3 t4; obtain ⟨y0, y1, y2, y3, y4, y5, y6, t0, t1, t2, t3, t4⟩ := HS3.out.cells; obtain ⟨D2, hv9, hk9⟩ := HS3.out.vals; have HV9 := Lib.hid hv9; have HK9 := Lib.hid hk9; clear hb3 hv9 hk9; have tok2 : True := trivial)
        | (at_mapUpdate; refine wpList_mapUpdate_own _ rfl _ _ _ 84 rfl 33 2 law44 Tryz.underlying84 _ b N D2 rfl HV9.out (by unfold maxLen; omega) _ _ _ rfl rfl HKEY.out _ [] (plainElem_int Tryz.underlying2 (WalkArith.wf_i64 (by omega))) ?_; intro w9 hown9 hgrow9; have HG9 := Lib.hid hgrow9; have HO9 := Lib.hid hown9; clear hgrow9 hown9))
      go_ret
      exact ⟨rfl, HS3.out.only.trans HG9.out, _, HO9.out.mono (by omega), HPUT.out _ HK9.out HV9.out.isMap⟩
    case pos =>
      have h1' : stC c s = 1 := by rw [← hst]; exact h1
      obtain ⟨hneed, hstr, k0, hk0, hk1⟩ := left_run hs h1'
      obtain rfl : n = k0 + 1 := by omega
      have hih := ih k0 rfl
      obtain ⟨l, hle⟩ : ∃ l, mvC c s = l := ⟨_, rfl⟩
      obtain ⟨_, _, _, _, _, _, _, _, _, _, _, _, _, _, _, hd⟩ := mvC_at hc hs h1'
      rw [hle] at hd
      have hok := checkD_ok hd
      have hlen : l.length ≤ 16 := hok.len.2
      have hoe : ∀ (k : Nat) (hk : k < l.length), OkO l[k] := fun k hk => hok.each _ (List.getElem_mem hk)
      have kstep := fun k (hk : k < l.length) W => r44_after c s l[k] A A1 A2 A3 ca ca1 ca2 ca3 W hc hs h1' ⟨(hoe k hk).r0, (hoe k hk).r7⟩
      have hok2 : ∀ (k : Nat) (hk : k < l.length), leftC c (stepC c s l[k]) = k0 ∧ OkS c (stepC c s l[k]) := fun k hk => ⟨by have := left_step hc hs h1' (o := l[k]) (hoe k hk).r0; omega, (stepC_ok hc hs h1' (hoe k hk).r0).1⟩
      have krec := fun k (hk : k < l.length) N' D' W => hih (stepC c s l[k]) (hok2 k hk).1 (hok2 k hk).2 (.slice A c.mdl.bats.length ca) (.slice A1 c.mdl.bows.length ca1) (.slice A2 c.bows.length ca2) (.slice A3 c.ord.length ca3) F b N' D' W
      have hprod : ∀ (k : Nat) (hk : k < l.length), 0 ≤ l[k].wt * valS c (stepC c s l[k]) ∧ l[k].wt * valS c (stepC c s l[k]) ≤ 281474976710656 := fun k hk => prod_bd (n := k0) (by omega) ⟨(hoe k hk).w1, (hoe k hk).w16⟩ (by have := valS_bd hc (hok2 k hk).2; rw [(hok2 k hk).1] at this; exact this)
      have hsum : ∀ (k : Nat) (hk : k < l.length) (sm : Int), sm = sumI ((l.take k).map fun o => o.wt * valS c (stepC c s o)) → sm + l[k].wt * valS c (stepC c s l[k]) = sumI ((l.take (k + 1)).map fun o => o.wt * valS c (stepC c s o)) := fun k hk sm h => by
        rw [h, sum_take (fun o : Otc => o.wt * valS c (stepC c s o)) hk]
      have hfin : sumI (l.map fun o => o.wt * valS c (stepC c s o)) = z := by rw [hz, valS_run hc hs h1', hle]
      obtain ⟨q, hq⟩ : ∃ q, q = cntV k0 := ⟨_, rfl⟩
      have hcnt : cntV (k0 + 1) = 1 + 16 * q := by rw [cntV, hq]
      rw [hcnt] at hN ⊢
      unfold chV stV at krec
      unfold stV at kstep
      rw [← hq] at krec
      have kmv1 := kmv h1
      rw [hle] at kmv1
      rw [h1] at kst
      have KST := Lib.hid kst
      have KMV := Lib.hid kmv1
      have KSTEP := Lib.hid kstep
      have KREC := Lib.hid krec
      have HPR := Lib.hid hprod
      have HSUM := Lib.hid hsum
      have HFIN := Lib.hid hfin
      have tok0 : True := trivial
      clear kst kmv kmv1 ken hend hst hst3 h1 h1' hneed hstr hk0 hk1 hih hle hd hok hoe kstep hok2 krec hprod hsum hfin hq hcnt ih hl hs hc hkn hz hn12
      go_enter Tryz.func109, Tryz.ntmps109
      go_wp2_with (first
        | (at_lookup; refine wpList_lookup_own_ok_int _ rfl _ _ 84 rfl 33 2 .i64 law44 Tryz.underlying84 Tryz.underlying2 (zero_i64 _) b N D rfl HV2.out _ _ rfl HKEY.out ?_; intro cc hat hwc; clear hat hwc)
        | (clear tok0; go_at_call 135; refine (KST.out _ HSOL.out.only).mono ?_; rintro e w2 ⟨rfl, hb2⟩; have HS2 := Lib.hid (HSOL.out.below hb2); obtain ⟨y0, y1, y2, y3, y4, y5, y6, t0, t1, t2, t3, t4⟩ := HS2.out.cells; clear hb2; have tok1 : True := trivial)
        | (clear tok1; go_at_call 137; refine (KMV.out _ HS2.out.only).mono ?_; rintro e w3 ⟨A4, n4, k4, rfl, hb3, hs3⟩; obtain ⟨Az, kz, hze, hz1, hz2⟩ := hs3.shape; have hn4 : n4 = l.length := (by injection hze); subst hn4; have HS3 := Lib.hid (HS2.out.below hb3); have HL3 := Lib.hid (hs3.keep (G := fun x => x < w3.heap.size ∧ x ≠ b) elOtc_good (Same.refl _ _) fun x hx => ⟨hx.2, by have := HS2.out.blt; have := HS2.out.only.size; omega⟩); clear y0 y1 y2 y3 y4 y5 y6 t0 t1 t2 t3 t4; obtain ⟨y0, y1, y2, y3, y4, y5, y6, t0, t1, t2, t3, t4⟩ := HS3.out.cells; clear hb3 hs3 hze hz1 hz2; have tok2 : True := trivial))
      go_loopw [9, 31] (fun v i wr => ∃ (k : Nat) (sm : Int), k ≤ l.length ∧ i = .int .i64 k ∧ v = .int .i64 sm ∧ 0 ≤ sm ∧ sm ≤ 281474976710656 * k ∧ Hid (Sol w wr b (N + k * q) c (.slice A c.mdl.bats.length ca) (.slice A1 c.mdl.bows.length ca1) (.slice A2 c.bows.length ca2) (.slice A3 c.ord.length ca3) s) ∧ Hid (Sl 3 elOtc wr (fun x => x < wr.heap.size ∧ x ≠ b) (.slice A4 l.length k4) l) ∧ Hid (sm = sumI ((l.take k).map fun o => o.wt * valS c (stepC c s o)))) (fun _ i _ => l.length - (intOf i).toNat)
      case atStart => exact ⟨0, 0, Nat.zero_le _, rfl, rfl, by omega, by omega, Lib.hid (by rw [Nat.zero_mul]; exact HS3.out), HL3, Lib.hid rfl⟩
      case round =>
        clear HS2 HS3 HL3 y0 y1 y2 y3 y4 y5 y6 t0 t1 t2 t3 t4
        obtain ⟨k, sm, hk, rfl, rfl, hs0, hs1, HS, HL, hss⟩ := hrel
        by_cases hlt : k < l.length
        · obtain ⟨b0, o, rfl, hbl, g0, g1, g2⟩ := otc_at HL.out hlt
          have hp := HPR.out k hlt
          have hst := HSUM.out k hlt sm hss.out
          have kS := KSTEP.out k hlt
          have kR := KREC.out k hlt
          obtain ⟨s', hs'⟩ : ∃ x, x = stepC c s l[k] := ⟨_, rfl⟩
          rw [← hs'] at hp hst
          simp only [← hs'] at kS kR
          obtain ⟨vv, hvv⟩ : ∃ x, x = valS c s' := ⟨_, rfl⟩
          rw [← hvv] at hp hst
          simp only [← hvv] at kR
          obtain ⟨⟨pr, pw, pt⟩, hp'⟩ : ∃ p, p = l[k] := ⟨_, rfl⟩
          rw [← hp'] at g0 g1 g2 hp hst
          simp only [← hp'] at kS
          dsimp only at g0 g1 g2 hp hst kS
          obtain ⟨hp0, hp1⟩ := hp
          have hkq : k * q + q ≤ 16 * q := by have := Nat.mul_le_mul_right q (show k + 1 ≤ 16 by omega); rw [Nat.add_mul, Nat.one_mul] at this; exact this
          have HST := Lib.hid hst
          have KS := Lib.hid kS
          have KR := Lib.hid kR
          have HKQ := Lib.hid hkq
          clear hst kS kR hs' hvv hp' hss hkq
          go_wp2
          have HSA := Lib.hid (HS.out.alloc (.cells #[.int .i64 pr, .bool pw, .int .i64 pt] 46)).drew
          have HLA := Lib.hid (sl_only HL.out (Only.of_below (g := b) (Below.drew (Below.alloc (Below.refl wr.heap.size wr) (Nat.le_refl _) (.cells #[.int .i64 pr, .bool pw, .int .i64 pt] 46)))))
          have HCA := Lib.hid (Blk.new wr 46 #[.int .i64 pr, .bool pw, .int .i64 pt]).drew
          obtain ⟨y0, y1, y2, y3, y4, y5, y6, t0, t1, t2, t3, t4⟩ := HSA.out.cells
          have u0 := HCA.out.cell 0
          have u1 := HCA.out.cell 1
          have u2 := HCA.out.cell 2
          have tok2 : True := trivial
          have hwb : b < wr.heap.size := by have := HS.out.blt; have := HS.out.only.size; omega
          go_region_held3 (fun w' => w'.cell? ⟨w.heap.size, 0, none⟩ = some (.slice A c.mdl.bats.length ca) ∧ w'.cell? ⟨w.heap.size, 1, none⟩ = some (.slice A1 c.mdl.bows.length ca1) ∧ w'.cell? ⟨w.heap.size, 2, none⟩ = some (.slice A2 c.bows.length ca2) ∧ w'.cell? ⟨w.heap.size, 3, none⟩ = some (.int .i64 c.over) ∧ w'.cell? ⟨w.heap.size, 4, none⟩ = some (.int .i64 c.done) ∧ w'.cell? ⟨w.heap.size, 5, none⟩ = some (.int .i64 c.need) ∧ w'.cell? ⟨w.heap.size, 6, none⟩ = some (.slice A3 c.ord.length ca3) ∧ w'.cell? ⟨w.heap.size + 1, 0, none⟩ = some (.int .i64 s.ball) ∧ w'.cell? ⟨w.heap.size + 1, 1, none⟩ = some (.int .i64 s.need) ∧ w'.cell? ⟨w.heap.size + 1, 2, none⟩ = some (.int .i64 s.str) ∧ w'.cell? ⟨w.heap.size + 1, 3, none⟩ = some (.int .i64 s.par) ∧ w'.cell? ⟨w.heap.size + 1, 4, none⟩ = some (.int .i64 s.nxt) ∧ w'.cell? ⟨wr.heap.size, 0, none⟩ = some (.int .i64 pr) ∧ w'.cell? ⟨wr.heap.size, 1, none⟩ = some (.bool pw) ∧ w'.cell? ⟨wr.heap.size, 2, none⟩ = some (.int .i64 pt)) (first | exact ⟨y0, y1, y2, y3, y4, y5, y6, t0, t1, t2, t3, t4, u0, u1, u2⟩ | go_keep) (first
            | (clear tok2; go_at_call 138; refine (KS.out _).mono ?_; rintro e w5 ⟨rfl, hb5⟩; have HS5 := Lib.hid (HSA.out.below hb5); have HL5 := Lib.hid (sl_only HLA.out (Only.of_below hb5)); have HC5 := Lib.hid (HCA.out.below hb5 HCA.out.lt); obtain ⟨y0, y1, y2, y3, y4, y5, y6, t0, t1, t2, t3, t4⟩ := HS5.out.cells; have u0 := HC5.out.cell 0; have u1 := HC5.out.cell 1; have u2 := HC5.out.cell 2; clear hb5; have tok3 : True := trivial)
            | (clear tok3; go_at_call 109; obtain ⟨D5, hv5, hk5⟩ := HS5.out.vals; refine (KR.out _ D5 _ (HA.out.keep (HS5.out.only.same HF.out) fun _ h => h) (fun x hx => ⟨Nat.lt_of_lt_of_le (HF.out x hx).1 HS5.out.only.size, (HF.out x hx).2⟩) hv5 hk5 (by have := HKQ.out; omega)).mono ?_; rintro e w6 ⟨rfl, ho6, hv6⟩; have HS6 := Lib.hid (show Sol w w6 b (N + (k + 1) * q) c (.slice A c.mdl.bats.length ca) (.slice A1 c.mdl.bows.length ca1) (.slice A2 c.bows.length ca2) (.slice A3 c.ord.length ca3) s from HS5.out.into ho6 (by obtain ⟨D7, h1, h2⟩ := hv6; exact ⟨D7, h1.mono (by rw [Nat.add_mul]; omega), h2⟩)); have HL6 := Lib.hid (sl_only HL5.out ho6); have HC6 := Lib.hid (HC5.out.grown ho6 (by intro e; injection e with e; omega)); obtain ⟨y0, y1, y2, y3, y4, y5, y6, t0, t1, t2, t3, t4⟩ := HS6.out.cells; have u0 := HC6.out.cell 0; have u1 := HC6.out.cell 1; have u2 := HC6.out.cell 2; clear ho6 hv6 hv5 hk5; have tok4 : True := trivial))
          all_goals go_wp2
          go_roundw
          case rel => exact ⟨k + 1, sm + pt * vv, by omega, by go_num, by rw [IntWalk.i64_in (pt * vv) (by omega), IntWalk.i64_in (sm + pt * vv) (by omega)], by omega, by push_cast; omega, HS6, HL6, HST⟩
          case measure => simp [intOf]; omega
        · obtain rfl : k = l.length := by omega
          have hs2 := hss.out
          rw [List.take_of_length_le (Nat.le_refl _), HFIN.out] at hs2
          subst hs2
          obtain ⟨D2, hv9, hk9⟩ := HS.out.vals
          have HV9 := Lib.hid hv9
          have HK9 := Lib.hid hk9
          obtain ⟨y0, y1, y2, y3, y4, y5, y6, t0, t1, t2, t3, t4⟩ := HS.out.cells
          have hlq : l.length * q ≤ 16 * q := Nat.mul_le_mul_right q hlen
          obtain ⟨NN, hNN⟩ : ∃ NN, NN = N + l.length * q := ⟨_, rfl⟩
          rw [← hNN] at HV9
          have hN9 : NN + 1 ≤ N + (1 + 16 * q) := by omega
          have hN8 : NN < 2000000000000000000 := by omega
          clear hv9 hk9 hss hlq hNN
          go_wp2_with (at_mapUpdate; refine wpList_mapUpdate_own _ rfl _ _ _ 84 rfl 33 2 law44 Tryz.underlying84 _ b NN D2 rfl HV9.out (by unfold maxLen; omega) _ _ _ rfl rfl HKEY.out _ [] (plainElem_int Tryz.underlying2 (WalkArith.wf_i64 (by omega))) ?_; intro w9 hown9 hgrow9; have HG9 := Lib.hid hgrow9; have HO9 := Lib.hid hown9; clear hgrow9 hown9)
          go_ret
          exact ⟨rfl, HS.out.only.trans HG9.out, _, HO9.out.mono (by omega), HPUT.out _ HK9.out HV9.out.isMap⟩
theorem r44_fill (c : Chs) (hc : OkC c) : ∀ n, SolveAt 109 c n
  | 0 => r44_fill_at c hc 0 (fun k h => by omega)
  | n + 1 => r44_fill_at c hc (n + 1) fun k h => by
      obtain rfl : n = k := by omega
      exact r44_fill c hc n
end Go.Proofs.YtfnfbojaiikigaaGreatDoor

namespace Go.Proofs.YtfnfbojaiikigaaGreatDoor
open Go.RowKit Go.Maps

set_option maxRecDepth 100000 in
set_option maxHeartbeats 4000000 in
theorem ch44_Value (c : Chs) (s : Cst) (bv wv pv ov : Value) (w : World) (h : ChAt w (· < w.heap.size) bv wv pv ov c) :
    Calls Tryz.prog 16 #[chV c bv wv pv ov, stV s] w fun e w' => e = .returned (.tuple #[.int .i64 (valueC c s).1, .int .i64 (valueC c s).2]) ∧ Below w.heap.size w w' := by
  unfold chV stV
  obtain ⟨ball, need, str, par, nxt⟩ := s
  obtain ⟨A, ca, rfl, hc1, hc2⟩ := h.mdl.bat.shape
  obtain ⟨A1, ca1, rfl, hc3, hc4⟩ := h.mdl.bow.shape
  obtain ⟨A2, ca2, rfl, hc5, hc6⟩ := h.bow.shape
  obtain ⟨A3, ca3, rfl, hc7, hc8⟩ := h.ord.shape
  have hx := CSB.new w c (.slice A c.mdl.bats.length ca) (.slice A1 c.mdl.bows.length ca1) (.slice A2 c.bows.length ca2) (.slice A3 c.ord.length ca3) ⟨ball, need, str, par, nxt⟩
  have HX := Lib.hid hx
  have HM := Lib.hid h
  obtain ⟨z, hz⟩ : ∃ z, z = valueC c ⟨ball, need, str, par, nxt⟩ := ⟨_, rfl⟩
  rw [← hz]
  unfold valueC at hz
  have k1 := fun W (hW : Below w.heap.size w W) => ch44_CheckState c ⟨ball, need, str, par, nxt⟩ _ _ _ _ W (HM.out.below hW)
  have hok := fun h => (chst_ok (c := c) (s := ⟨ball, need, str, par, nxt⟩) h).2
  have k2 := fun (hc : OkC c) (hs : OkS c ⟨ball, need, str, par, nxt⟩) W (hW : Below w.heap.size w W) => (ch44_solve c hc _ ⟨ball, need, str, par, nxt⟩ rfl hs (.slice A c.mdl.bats.length ca) (.slice A1 c.mdl.bows.length ca1) (.slice A2 c.bows.length ca2) (.slice A3 c.ord.length ca3) (· < w.heap.size) W.heap.size 0 (.map []) (W.alloc (.map #[] 0)) (h.keep (Same.of_below (hW.alloc hW.size _)) fun b hb => hb) (fun x hx => ⟨by have := hW.size; simp; omega, by have := hW.size; omega⟩) (World.ownsMap_made W _ _ _) (Known.none c) (by rw [Nat.zero_add]; exact Nat.le_trans (cntV_le _ (left_le hc hs)) (by decide))).mono (R' := fun e w' => e = .returned (.int .i64 (valS c ⟨ball, need, str, par, nxt⟩)) ∧ Below w.heap.size w w') fun e w' h => ⟨h.1, (hW.alloc hW.size _).trans (h.2.1.below hW.size (by have := hW.size; simp; omega))⟩
  unfold chV stV at k1 k2
  dsimp only at k1 k2
  obtain ⟨u, hu⟩ : ∃ u, u = chstC c ⟨ball, need, str, par, nxt⟩ := ⟨_, rfl⟩
  obtain ⟨v, hv⟩ : ∃ v, v = valS c ⟨ball, need, str, par, nxt⟩ := ⟨_, rfl⟩
  rw [← hu] at k1 hz hok
  rw [← hv] at k2 hz
  have K1 := Lib.hid k1
  have tok0 : True := trivial
  have hmm := @run_makeMap Tryz.prog
  clear k1 hu hv h hx
  by_cases h0 : u = 0
  · rw [if_neg (by omega)] at hz
    have HZ := Lib.hid hz
    have K2 := Lib.hid (k2 (hok h0).1 (hok h0).2)
    have eu : (u != 0) = false := by simp [h0]
    clear hz h0 hok k2
    go_enter Tryz.func16, Tryz.ntmps16
    go_wp2_with (first
      | (clear tok0; go_at_call 45; refine (K1.out _ HX.out.bel).mono ?_; rintro e w2 ⟨rfl, hb2⟩; have HX2 := Lib.hid (HX.out.below hb2); obtain ⟨x0, x1, x2, x3, x4, x5, x6, y0, y1, y2, y3, y4⟩ := HX2.out.cells; dsimp only at y0 y1 y2 y3 y4; clear hb2; have tok1 : True := trivial)
      | (clear tok1; go_at_call 46; refine (K2.out _ HX2.out.bel).mono ?_; rintro e w3 ⟨rfl, hb3⟩; have HB3 := Lib.hid hb3; clear hb3; have tok2 : True := trivial))
    go_ret2
    exact ⟨by rw [HZ.out] <;> rfl, HB3.out⟩
  · rw [if_pos h0] at hz
    have HZ := Lib.hid hz
    have eu : (u != 0) = true := by simp [h0]
    clear hz h0 hok k2
    go_enter Tryz.func16, Tryz.ntmps16
    go_wp2_with (clear tok0; go_at_call 45; refine (K1.out _ HX.out.bel).mono ?_; rintro e w2 ⟨rfl, hb2⟩; have HX2 := Lib.hid (HX.out.below hb2); obtain ⟨x0, x1, x2, x3, x4, x5, x6, y0, y1, y2, y3, y4⟩ := HX2.out.cells; dsimp only at y0 y1 y2 y3 y4; clear hb2; have tok1 : True := trivial)
    go_ret2
    exact ⟨by rw [HZ.out] <;> rfl, HX2.out.bel⟩
set_option maxRecDepth 100000 in
set_option maxHeartbeats 4000000 in
theorem r44_Value (c : Chs) (s : Cst) (bv wv pv ov : Value) (w : World) (h : ChAt w (· < w.heap.size) bv wv pv ov c) :
    Calls Tryz.prog 75 #[chV c bv wv pv ov, stV s] w fun e w' => e = .returned (.tuple #[.int .i64 (valueC c s).1, .int .i64 (valueC c s).2]) ∧ Below w.heap.size w w' := by
  unfold chV stV
  obtain ⟨ball, need, str, par, nxt⟩ := s
  obtain ⟨A, ca, rfl, hc1, hc2⟩ := h.mdl.bat.shape
  obtain ⟨A1, ca1, rfl, hc3, hc4⟩ := h.mdl.bow.shape
  obtain ⟨A2, ca2, rfl, hc5, hc6⟩ := h.bow.shape
  obtain ⟨A3, ca3, rfl, hc7, hc8⟩ := h.ord.shape
  have hx := CSB.new w c (.slice A c.mdl.bats.length ca) (.slice A1 c.mdl.bows.length ca1) (.slice A2 c.bows.length ca2) (.slice A3 c.ord.length ca3) ⟨ball, need, str, par, nxt⟩
  have HX := Lib.hid hx
  have HM := Lib.hid h
  obtain ⟨z, hz⟩ : ∃ z, z = valueC c ⟨ball, need, str, par, nxt⟩ := ⟨_, rfl⟩
  rw [← hz]
  unfold valueC at hz
  have k1 := fun W (hW : Below w.heap.size w W) => r44_CheckState c ⟨ball, need, str, par, nxt⟩ _ _ _ _ W (HM.out.below hW)
  have hok := fun h => (chst_ok (c := c) (s := ⟨ball, need, str, par, nxt⟩) h).2
  have k2 := fun (hc : OkC c) (hs : OkS c ⟨ball, need, str, par, nxt⟩) W (hW : Below w.heap.size w W) => (r44_fill c hc _ ⟨ball, need, str, par, nxt⟩ rfl hs (.slice A c.mdl.bats.length ca) (.slice A1 c.mdl.bows.length ca1) (.slice A2 c.bows.length ca2) (.slice A3 c.ord.length ca3) (· < w.heap.size) W.heap.size 0 (.map []) (W.alloc (.map #[] 0)) (h.keep (Same.of_below (hW.alloc hW.size _)) fun b hb => hb) (fun x hx => ⟨by have := hW.size; simp; omega, by have := hW.size; omega⟩) (World.ownsMap_made W _ _ _) (Known.none c) (by rw [Nat.zero_add]; exact Nat.le_trans (cntV_le _ (left_le hc hs)) (by decide))).mono (R' := fun e w' => e = .returned (.int .i64 (valS c ⟨ball, need, str, par, nxt⟩)) ∧ Below w.heap.size w w') fun e w' h => ⟨h.1, (hW.alloc hW.size _).trans (h.2.1.below hW.size (by have := hW.size; simp; omega))⟩
  unfold chV stV at k1 k2
  dsimp only at k1 k2
  obtain ⟨u, hu⟩ : ∃ u, u = chstC c ⟨ball, need, str, par, nxt⟩ := ⟨_, rfl⟩
  obtain ⟨v, hv⟩ : ∃ v, v = valS c ⟨ball, need, str, par, nxt⟩ := ⟨_, rfl⟩
  rw [← hu] at k1 hz hok
  rw [← hv] at k2 hz
  have K1 := Lib.hid k1
  have tok0 : True := trivial
  have hmm := @run_makeMap Tryz.prog
  clear k1 hu hv h hx
  by_cases h0 : u = 0
  · rw [if_neg (by omega)] at hz
    have HZ := Lib.hid hz
    have K2 := Lib.hid (k2 (hok h0).1 (hok h0).2)
    have eu : (u != 0) = false := by simp [h0]
    clear hz h0 hok k2
    go_enter Tryz.func75, Tryz.ntmps75
    go_wp2_with (first
      | (clear tok0; go_at_call 108; refine (K1.out _ HX.out.bel).mono ?_; rintro e w2 ⟨rfl, hb2⟩; have HX2 := Lib.hid (HX.out.below hb2); obtain ⟨x0, x1, x2, x3, x4, x5, x6, y0, y1, y2, y3, y4⟩ := HX2.out.cells; dsimp only at y0 y1 y2 y3 y4; clear hb2; have tok1 : True := trivial)
      | (clear tok1; go_at_call 109; refine (K2.out _ HX2.out.bel).mono ?_; rintro e w3 ⟨rfl, hb3⟩; have HB3 := Lib.hid hb3; clear hb3; have tok2 : True := trivial))
    go_ret2
    exact ⟨by rw [HZ.out] <;> rfl, HB3.out⟩
  · rw [if_pos h0] at hz
    have HZ := Lib.hid hz
    have eu : (u != 0) = true := by simp [h0]
    clear hz h0 hok k2
    go_enter Tryz.func75, Tryz.ntmps75
    go_wp2_with (clear tok0; go_at_call 108; refine (K1.out _ HX.out.bel).mono ?_; rintro e w2 ⟨rfl, hb2⟩; have HX2 := Lib.hid (HX.out.below hb2); obtain ⟨x0, x1, x2, x3, x4, x5, x6, y0, y1, y2, y3, y4⟩ := HX2.out.cells; dsimp only at y0 y1 y2 y3 y4; clear hb2; have tok1 : True := trivial)
    go_ret2
    exact ⟨by rw [HZ.out] <;> rfl, HX2.out.bel⟩
theorem small44_drop {l : List Bat} {k : Nat} (hk : k < l.length) : (l.drop k).all (fun b => decide (b.dist.length ≤ 100)) = (decide (l[k].dist.length ≤ 100) && (l.drop (k + 1)).all (fun b => decide (b.dist.length ≤ 100))) := by
  rw [drop_get hk, List.all_cons]
end Go.Proofs.YtfnfbojaiikigaaGreatDoor

namespace Go.Proofs.YtfnfbojaiikigaaGreatDoor
open Go.RowKit

theorem itoa_dig3 (n : Nat) (h : n < 10) : Lib.itoa (n : Int) = [UInt8.ofNat (48 + n)] := by
  unfold Lib.itoa
  rw [if_neg (by omega), Int.toNat_natCast, Lib.decDigits, dif_pos h]
theorem otcW_dig3 (r t : Nat) (b : Bool) (hr : r < 10) (ht : t < 10) : otcW ⟨(r : Int), b, (t : Int)⟩ = UInt8.ofNat (48 + r) :: ((if b = true then [87] else []) ++ [58, UInt8.ofNat (48 + t)]) := by
  unfold otcW
  simp only
  rw [itoa_dig3 r hr, itoa_dig3 t ht]
  simp
theorem dec_two (n : Nat) (h : 10 ≤ n) (h2 : n < 100) : Lib.itoa (n : Int) = [UInt8.ofNat (48 + n / 10), UInt8.ofNat (48 + n % 10)] := by
  unfold Lib.itoa
  rw [if_neg (by omega), Int.toNat_natCast, Lib.decDigits, dif_neg (by omega), Lib.decDigits, dif_pos (by omega)]
  rfl
theorem otcW_dig2 (r t : Nat) (b : Bool) (hr : r < 10) (h : 10 ≤ t) (ht : t < 100) : otcW ⟨(r : Int), b, (t : Int)⟩ = UInt8.ofNat (48 + r) :: ((if b = true then [87] else []) ++ [58, UInt8.ofNat (48 + t / 10), UInt8.ofNat (48 + t % 10)]) := by
  unfold otcW
  simp only
  rw [itoa_dig3 r hr, dec_two t h ht]
  simp
def exmM1d : List Otc := [⟨0, false, 8⟩, ⟨1, false, 4⟩, ⟨4, false, 4⟩]
end Go.Proofs.YtfnfbojaiikigaaGreatDoor

namespace Go.Proofs.YtfnfbojaiikigaaGreatDoor
open Go.RowKit

theorem bows_lit (W : World) (x : List UInt8) (n : Int) (hx : x.length ≤ maxLen) :
    Sl 2 elBow (W.alloc (.cells #[.string (S x), .int .i64 n] 90)) (· < (W.alloc (.cells #[.string (S x), .int .i64 n] 90)).heap.size) (.slice (some ⟨W.heap.size, 0, none⟩) 1 1) [⟨x, n⟩] := by
  have hk := Blk.new W 90 #[.string (S x), .int .i64 n]
  refine ⟨_, 1, rfl, Nat.le_refl _, by decide, fun h0 => ⟨W.heap.size, 0, rfl, by simp, fun i a hi => ?_⟩⟩
  have hlt := (List.getElem?_eq_some_iff.1 hi).1
  obtain rfl : i = 0 := by simp at hlt; omega
  simp at hi; subst hi
  refine ⟨[.string (S x), .int .i64 n], rfl, fun j u hu => ?_, rfl, hx⟩
  have hj : j = 0 ∨ j = 1 := by have := (List.getElem?_eq_some_iff.1 hu).1; simp at this; omega
  rcases hj with rfl | rfl
  · simp at hu; subst hu; exact hk.cell 0
  · simp at hu; subst hu; exact hk.cell 1
theorem ints_one (W : World) (a : Int) (e : TypeId) : Sl 1 elInt (W.alloc (.cells #[.int .i64 a] e)) (· < (W.alloc (.cells #[.int .i64 a] e)).heap.size) (.slice (some ⟨W.heap.size, 0, none⟩) 1 1) [a] := by
  have hk := Blk.new W e #[.int .i64 a]
  refine ⟨_, 1, rfl, Nat.le_refl _, by decide, fun h0 => ⟨W.heap.size, 0, rfl, by simp, fun i b hi => ?_⟩⟩
  have hlt := (List.getElem?_eq_some_iff.1 hi).1
  obtain rfl : i = 0 := by simp at hlt; omega
  simp at hi; subst hi
  refine ⟨[.int .i64 a], rfl, fun j u hu => ?_, rfl⟩
  obtain rfl : j = 0 := by have := (List.getElem?_eq_some_iff.1 hu).1; simp at this; omega
  simp at hu; subst hu; exact hk.cell 0
def chM : Mdl := ⟨[⟨[65], exmM1d⟩, ⟨[66], exmM1d⟩], [⟨[67], 0⟩]⟩
def ch1 : Chs := ⟨chM, [0], 6, 0, 2, [0, 1]⟩
/-- The first chase laid, in a world that has gone on. -/
structure AwI (w1 W : World) : Prop where
  bel : Below w1.heap.size w1 W
  ch : ChAt W (· < w1.heap.size + 1 + 1 + 1 + 1 + 1) (.slice (some ⟨w1.heap.size, 0, none⟩) 2 2) (.slice (some ⟨w1.heap.size + 1, 0, none⟩) 1 1) (.slice (some ⟨w1.heap.size + 1 + 1 + 1, 0, none⟩) 1 1) (.slice (some ⟨w1.heap.size + 1 + 1 + 1 + 1, 0, none⟩) 2 2) ch1
  blk : Blk W (w1.heap.size + 1 + 1 + 1 + 1 + 1) 28 #[.slice (some ⟨w1.heap.size, 0, none⟩) 2 2, .slice (some ⟨w1.heap.size + 1, 0, none⟩) 1 1, .slice (some ⟨w1.heap.size + 1 + 1 + 1, 0, none⟩) 1 1, .int .i64 6, .int .i64 0, .int .i64 2, .slice (some ⟨w1.heap.size + 1 + 1 + 1 + 1, 0, none⟩) 2 2]
theorem AwI.below {w1 W W' : World} (h : AwI w1 W) (hb : Below W.heap.size W W') : AwI w1 W' :=
  ⟨h.bel.trans (hb.mono h.bel.size), h.ch.keep (Same.below hb fun b hb => Nat.lt_trans hb h.blk.lt) fun b hb => hb, h.blk.below hb h.blk.lt⟩
theorem AwI.in {w1 W : World} (h : AwI w1 W) : ChAt W (· < W.heap.size) (.slice (some ⟨w1.heap.size, 0, none⟩) 2 2) (.slice (some ⟨w1.heap.size + 1, 0, none⟩) 1 1) (.slice (some ⟨w1.heap.size + 1 + 1 + 1, 0, none⟩) 1 1) (.slice (some ⟨w1.heap.size + 1 + 1 + 1 + 1, 0, none⟩) 2 2) ch1 := h.ch.keep (Same.refl _ _) fun b hb => Nat.lt_trans hb h.blk.lt
theorem AwI.cells {w1 W : World} (h : AwI w1 W) (k : Nat) (u : Value) (hk : #[Value.slice (some ⟨w1.heap.size, 0, none⟩) 2 2, .slice (some ⟨w1.heap.size + 1, 0, none⟩) 1 1, .slice (some ⟨w1.heap.size + 1 + 1 + 1, 0, none⟩) 1 1, .int .i64 6, .int .i64 0, .int .i64 2, .slice (some ⟨w1.heap.size + 1 + 1 + 1 + 1, 0, none⟩) 2 2][k]? = some u) : W.cell? ⟨w1.heap.size + 1 + 1 + 1 + 1 + 1, k, none⟩ = some u := (h.blk.cell k).trans hk
theorem Sl.up {α : Type} {size : Nat} {R : World → (Nat → Prop) → List Value → α → Prop} (hR : Good R) {W W' : World} {n m : Nat} {v : Value} {l : List α} (h : Sl size R W (· < W.heap.size) v l) (hb : Below W.heap.size W W') (hn : W.heap.size ≤ m) : Sl size R W' (· < m) v l :=
  h.keep hR (Same.of_below hb) fun b hb => Nat.lt_of_lt_of_le hb hn
end Go.Proofs.YtfnfbojaiikigaaGreatDoor

namespace Go.Proofs.YtfnfbojaiikigaaGreatDoor
open Go.RowKit

set_option maxRecDepth 100000 in
set_option maxHeartbeats 1000000 in
theorem r45_waits (s : Ost) (i : Int) (w : World) (hw : 0 ≤ s.wait ∧ s.wait < 65536) (hi : 0 ≤ i ∧ i < 16) :
    Calls Tryz.prog 63 #[osV s, .int .i64 i] w fun e w' => e = .returned (.bool (bitW s.wait i)) ∧ Below w.heap.size w w' := by
  obtain ⟨a, b, c, d, wt⟩ := s
  obtain ⟨hi1, hi2⟩ := hi
  obtain ⟨hw1, hw2⟩ := hw
  unfold osV
  dsimp only at hw1 hw2 ⊢
  go_enter Tryz.func63, Tryz.ntmps63
  go_wp2
  go_ret
  exact ⟨rfl, Below.alloc (Below.refl _ _) (Nat.le_refl _) _⟩
set_option maxRecDepth 100000 in
set_option maxHeartbeats 1000000 in
theorem or_vacant (s : Ost) (w : World) : Calls Tryz.prog 60 #[osV s] w fun e w' => e = .returned (.bool (vacO s)) ∧ Below w.heap.size w w' := by
  obtain ⟨a, b, c, d, wt⟩ := s
  obtain ⟨z, hz⟩ : ∃ z, z = vacO ⟨a, b, c, d, wt⟩ := ⟨_, rfl⟩
  rw [← hz]
  unfold vacO at hz
  unfold osV
  dsimp only at hz ⊢
  by_cases h1 : c < 0
  · have HZ := Lib.hid (show z = true by rw [hz]; simp [h1])
    clear hz
    go_enter Tryz.func60, Tryz.ntmps60
    go_wp2
    go_ret
    exact ⟨ret_b HZ.out.symm, Below.alloc (Below.refl _ _) (Nat.le_refl _) _⟩
  by_cases h2 : d < 0
  · have HZ := Lib.hid (show z = true by rw [hz]; simp [h2])
    clear hz
    go_enter Tryz.func60, Tryz.ntmps60
    go_wp2
    go_ret
    exact ⟨ret_b HZ.out.symm, Below.alloc (Below.refl _ _) (Nat.le_refl _) _⟩
  · have HZ := Lib.hid (show z = false by rw [hz]; simp; omega)
    clear hz
    go_enter Tryz.func60, Tryz.ntmps60
    go_wp2
    go_ret
    exact ⟨ret_b HZ.out.symm, Below.alloc (Below.refl _ _) (Nat.le_refl _) _⟩
set_option maxRecDepth 100000 in
set_option maxHeartbeats 1000000 in
theorem or_ended (c : Chs) (s : Ost) (bv wv pv ov : Value) (w : World) (h : ChAt w (· < w.heap.size) bv wv pv ov c) : Calls Tryz.prog 61 #[chV c bv wv pv ov, osV s] w fun e w' => e = .returned (.bool (endO c s)) ∧ Below w.heap.size w w' := by
  unfold chV osV
  obtain ⟨ball, need, str, par, wait⟩ := s
  obtain ⟨A, ca, rfl, hc1, hc2⟩ := h.mdl.bat.shape
  obtain ⟨A1, ca1, rfl, hc3, hc4⟩ := h.mdl.bow.shape
  obtain ⟨A2, ca2, rfl, hc5, hc6⟩ := h.bow.shape
  obtain ⟨A3, ca3, rfl, hc7, hc8⟩ := h.ord.shape
  have HX := Lib.hid (OSB.new w c (.slice A c.mdl.bats.length ca) (.slice A1 c.mdl.bows.length ca1) (.slice A2 c.bows.length ca2) (.slice A3 c.ord.length ca3) ⟨ball, need, str, par, wait⟩)
  obtain ⟨z, hz⟩ : ∃ z, z = endO c ⟨ball, need, str, par, wait⟩ := ⟨_, rfl⟩
  rw [← hz]
  unfold endO at hz
  dsimp only at hz ⊢
  by_cases h1 : need = 0
  · have HZ := Lib.hid (show z = true by rw [hz]; simp [h1])
    have e1 : (need == 0) = true := beq_iff_eq.2 h1
    clear hz h h1
    go_enter Tryz.func61, Tryz.ntmps61
    go_wp2
    go_ret
    exact ⟨ret_b HZ.out.symm, HX.out.bel⟩
  have e1 : (need == 0) = false := beq_eq_false_iff_ne.2 h1
  by_cases h2 : ball = c.bows.length
  · have HZ := Lib.hid (show z = true by rw [hz]; simp [h2])
    have e2 : (ball == (c.bows.length : Int)) = true := beq_iff_eq.2 h2
    clear hz h h1 h2
    go_enter Tryz.func61, Tryz.ntmps61
    go_wp2
    go_ret
    exact ⟨ret_b HZ.out.symm, HX.out.bel⟩
  · have HZ := Lib.hid (show z = false by rw [hz]; simp [h1, h2])
    have e2 : (ball == (c.bows.length : Int)) = false := beq_eq_false_iff_ne.2 h2
    clear hz h h1 h2
    go_enter Tryz.func61, Tryz.ntmps61
    go_wp2
    go_ret
    exact ⟨ret_b HZ.out.symm, HX.out.bel⟩
end Go.Proofs.YtfnfbojaiikigaaGreatDoor
