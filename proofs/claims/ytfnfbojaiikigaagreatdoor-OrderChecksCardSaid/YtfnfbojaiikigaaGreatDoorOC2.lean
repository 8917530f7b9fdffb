/- Several texts of this family in one: P81 P82 Y5 Y6 Y9 Y7 Y8 Y10 J10 Y11 Z2. -/
import Derived.Test.YtfnfbojaiikigaaGreatDoorYM1
import Derived.Test.YtfnfbojaiikigaaGreatDoorH3
import Derived.Test.YtfnfbojaiikigaaGreatDoorH11
import Derived.Laws.ShiftsVarLaws
set_option linter.unusedSimpArgs false
set_option linter.unusedVariables false
namespace Go.Proofs.YtfnfbojaiikigaaGreatDoor

end Go.Proofs.YtfnfbojaiikigaaGreatDoor

namespace Go.Proofs.YtfnfbojaiikigaaGreatDoor

/-- All of the first k but two. -/
def allW (k : Int) : Int := IntKind.u16.wrap (IntKind.u16.wrap (2 ^ k.toNat) - 1)
def oneW (a : Int) : Int := IntKind.u16.wrap (2 ^ a.toNat)
def lessW (k a b : Int) : Int := bits .andNot .u16 (allW k) (bits .or .u16 (oneW a) (oneW b))
theorem oneW_nat (i : Nat) (hi : i < 16) : oneW (i : Int) = ((2 ^ i : Nat) : Int) := by
  have hp : 2 ^ i < 65536 := Nat.pow_lt_pow_right (by decide) hi (n := 16)
  unfold oneW
  rw [Int.toNat_natCast, IntKind.wrap_u16]
  have : ((2 : Int) ^ i) = ((2 ^ i : Nat) : Int) := by push_cast; rfl
  rw [this]
  generalize 2 ^ i = q at hp
  omega
theorem allW_nat (k : Nat) (hk : k < 16) : allW (k : Int) = ((2 ^ k - 1 : Nat) : Int) := by
  have hp : 2 ^ k < 65536 := Nat.pow_lt_pow_right (by decide) hk (n := 16)
  have h0 : 0 < 2 ^ k := Nat.two_pow_pos k
  have h1 := oneW_nat k hk
  unfold oneW at h1
  unfold allW
  rw [h1, IntKind.wrap_u16]
  generalize 2 ^ k = q at hp h0
  omega
theorem or_lt (a b : Nat) (ha : a < 16) (hb : b < 16) : 2 ^ a ||| 2 ^ b < 65536 :=
  Nat.or_lt_two_pow (n := 16) (Nat.pow_lt_pow_right (by decide) ha) (Nat.pow_lt_pow_right (by decide) hb)
theorem lessW_nat (k a b : Nat) (hk : k < 16) (ha : a < 16) (hb : b < 16) : lessW k a b = (((2 ^ k - 1) &&& (65535 - (2 ^ a ||| 2 ^ b)) : Nat) : Int) := by
  have hp : 2 ^ k < 65536 := Nat.pow_lt_pow_right (by decide) hk (n := 16)
  have pa : 2 ^ a < 65536 := Nat.pow_lt_pow_right (by decide) ha (n := 16)
  have pb : 2 ^ b < 65536 := Nat.pow_lt_pow_right (by decide) hb (n := 16)
  unfold lessW
  rw [allW_nat k hk, oneW_nat a ha, oneW_nat b hb, u16_or_nat _ _ pa pb, u16_andNot_nat _ _ (by omega) (or_lt a b ha hb)]
theorem less_test (k a b j : Nat) (hk : k < 16) (ha : a < 16) (hb : b < 16) : ((2 ^ k - 1) &&& (65535 - (2 ^ a ||| 2 ^ b))).testBit j = (decide (j < k) && decide (j ≠ a) && decide (j ≠ b)) := by
  have ho := or_lt a b ha hb
  rw [Nat.testBit_and, Nat.testBit_two_pow_sub_one, show 65535 - (2 ^ a ||| 2 ^ b) = 2 ^ 16 - ((2 ^ a ||| 2 ^ b) + 1) by omega, Nat.testBit_two_pow_sub_succ (by omega), Nat.testBit_or, Nat.testBit_two_pow, Nat.testBit_two_pow]
  by_cases h1 : j < k
  · have h2 : j < 16 := by omega
    have e1 : decide (a = j) = decide (j = a) := decide_eq_decide.2 ⟨fun h => h.symm, fun h => h.symm⟩
    have e2 : decide (b = j) = decide (j = b) := decide_eq_decide.2 ⟨fun h => h.symm, fun h => h.symm⟩
    rw [e1, e2]
    simp [h1, h2]
  · simp [h1]
def openO (c : Chs) (a b : Int) : Ost := ⟨0, c.need, a, b, lessW c.ord.length a b⟩
theorem openO_bit {c : Chs} (ht : OkT c) {a b j : Nat} (ha : a < c.ord.length) (hb : b < c.ord.length) (hj : j < c.ord.length) : bitW (openO c a b).wait j = (decide (j ≠ a) && decide (j ≠ b)) := by
  have hp := ht.np
  show bitW (lessW _ _ _) _ = _
  rw [lessW_nat _ a b (by omega) (by omega) (by omega), bitW_nat _ j _ (by omega), less_test _ a b j (by omega) (by omega) (by omega)]
  · simp [hj]
  · have := Nat.and_le_left (n := 2 ^ c.ord.length - 1) (m := 65535 - (2 ^ a ||| 2 ^ b))
    have hq : 2 ^ c.ord.length < 65536 := Nat.pow_lt_pow_right (by decide) (show c.ord.length < 16 by omega) (n := 16)
    omega
theorem openO_ok {c : Chs} (ht : OkT c) {a b : Nat} (ha : a < c.ord.length) (hb : b < c.ord.length) (hne : a ≠ b) : OkOs c (openO c a b) ∧ vacO (openO c a b) = false ∧ leftO c (openO c a b) = c.bows.length := by
  have hp := ht.np
  have hneed := ht.ok.need
  have hq : 2 ^ c.ord.length < 65536 := Nat.pow_lt_pow_right (by decide) (show c.ord.length < 16 by omega) (n := 16)
  have hq0 : 0 < 2 ^ c.ord.length := Nat.two_pow_pos _
  have hle := Nat.and_le_left (n := 2 ^ c.ord.length - 1) (m := 65535 - (2 ^ a ||| 2 ^ b))
  have e := lessW_nat c.ord.length a b (by omega) (by omega) (by omega)
  refine ⟨⟨⟨Int.le_refl _, by show (0 : Int) ≤ _; omega⟩, ⟨by show 0 ≤ c.need; omega, Int.le_refl _⟩, ⟨by show -1 ≤ (a : Int); omega, by show (a : Int) < _; omega⟩, ⟨by show -1 ≤ (b : Int); omega, by show (b : Int) < _; omega⟩, ?_, ?_, by show (a : Int) ≠ (b : Int); omega, fun _ => ?_, fun _ => ?_⟩, ?_, ?_⟩
  · show 0 ≤ lessW _ _ _ ∧ lessW _ _ _ < 65536
    rw [e]; omega
  · show shrW (lessW _ _ _) _ = 0
    rw [e, shrW_nat _ _ (by omega), Nat.div_eq_of_lt (by omega)]; rfl
  · have := openO_bit ht ha hb ha
    rw [show (openO c a b).str = (a : Int) from rfl, this]; simp
  · have := openO_bit ht ha hb hb
    rw [show (openO c a b).par = (b : Int) from rfl, this]; simp
  · unfold vacO openO; simp
  · unfold leftO openO; simp
/-- The best pair: two loops. -/
def rowB (f : Int → Int → Int) (a : Nat) : Nat → (Int × Int) × Int → (Int × Int) × Int
  | 0, r => r
  | b + 1, r => if a = b then rowB f a b r else if (rowB f a b r).2 < f a b then (((a : Int), (b : Int)), f a b) else rowB f a b r
def allB (f : Int → Int → Int) (k : Nat) : Nat → (Int × Int) × Int → (Int × Int) × Int
  | 0, r => r
  | a + 1, r => rowB f a k (allB f k a r)
def bestS (c : Chs) (p : Int × Int) : (Int × Int) × Int := allB (fun a b => vO c (openO c a b)) c.ord.length c.ord.length (p, -1)
theorem rowB_ge (f : Int → Int → Int) (a : Nat) (r : (Int × Int) × Int) : ∀ k, r.2 ≤ (rowB f a k r).2 ∧ ∀ b, b < k → a ≠ b → f a b ≤ (rowB f a k r).2
  | 0 => ⟨Int.le_refl _, fun b h => by omega⟩
  | k + 1 => by
    obtain ⟨h1, h2⟩ := rowB_ge f a r k
    rw [rowB]
    by_cases e : a = k
    · rw [if_pos e]
      exact ⟨h1, fun b hb hne => h2 b (by omega) hne⟩
    · rw [if_neg e]
      by_cases hlt : (rowB f a k r).2 < f a k
      · rw [if_pos hlt]
        refine ⟨by show r.2 ≤ f a k; omega, fun b hb hne => ?_⟩
        show f a b ≤ f a k
        by_cases e2 : b = k
        · subst e2; exact Int.le_refl _
        · have := h2 b (by omega) hne; omega
      · rw [if_neg hlt]
        refine ⟨h1, fun b hb hne => ?_⟩
        by_cases e2 : b = k
        · subst e2; omega
        · exact h2 b (by omega) hne
theorem allB_ge (f : Int → Int → Int) (k : Nat) (r : (Int × Int) × Int) : ∀ n, r.2 ≤ (allB f k n r).2 ∧ ∀ a b, a < n → b < k → a ≠ b → f a b ≤ (allB f k n r).2
  | 0 => ⟨Int.le_refl _, fun a b h => by omega⟩
  | n + 1 => by
    obtain ⟨h1, h2⟩ := allB_ge f k r n
    obtain ⟨h3, h4⟩ := rowB_ge f n (allB f k n r) k
    rw [allB]
    refine ⟨by omega, fun a b ha hb hne => ?_⟩
    by_cases e : a = n
    · subst e; exact h4 b hb hne
    · have := h2 a b (by omega) hb hne; omega
/-- From where the loops start does not matter once a pair has been taken. -/
theorem rowB_same (f : Int → Int → Int) (a : Nat) {r q : (Int × Int) × Int} (h : r.2 = q.2) : ∀ k, (rowB f a k r).2 = (rowB f a k q).2 ∧ (rowB f a k r = rowB f a k q ∨ (rowB f a k r = r ∧ rowB f a k q = q))
  | 0 => ⟨h, .inr ⟨rfl, rfl⟩⟩
  | k + 1 => by
    obtain ⟨h1, h2⟩ := rowB_same f a h k
    rw [rowB, rowB]
    by_cases e : a = k
    · rw [if_pos e, if_pos e]; exact ⟨h1, h2⟩
    · rw [if_neg e, if_neg e, h1]
      by_cases hlt : (rowB f a k q).2 < f a k
      · rw [if_pos hlt, if_pos hlt]; exact ⟨rfl, .inl rfl⟩
      · rw [if_neg hlt, if_neg hlt]; exact ⟨h1, h2⟩
theorem allB_same (f : Int → Int → Int) (k : Nat) {r q : (Int × Int) × Int} (h : r.2 = q.2) : ∀ n, (allB f k n r).2 = (allB f k n q).2 ∧ (allB f k n r = allB f k n q ∨ (allB f k n r = r ∧ allB f k n q = q))
  | 0 => ⟨h, .inr ⟨rfl, rfl⟩⟩
  | n + 1 => by
    obtain ⟨h1, h2⟩ := allB_same f k h n
    rw [allB, allB]
    obtain ⟨h3, h4⟩ := rowB_same f n h1 k
    refine ⟨h3, ?_⟩
    rcases h2 with h2 | ⟨h5, h6⟩
    · left; rw [h2]
    · rcases h4 with h4 | ⟨h7, h8⟩
      · exact .inl h4
      · exact .inr ⟨h7.trans h5, h8.trans h6⟩
theorem bestS_same {c : Chs} (ht : OkT c) (p q : Int × Int) : bestS c p = bestS c q := by
  have hp := ht.np
  obtain ⟨h1, h2⟩ := allB_same (fun a b => vO c (openO c a b)) c.ord.length (r := (p, -1)) (q := (q, -1)) rfl c.ord.length
  rcases h2 with h2 | ⟨h3, _⟩
  · exact h2
  · exfalso
    have h4 := (allB_ge (fun a b => vO c (openO c a b)) c.ord.length (p, -1) c.ord.length).2 0 1 (by omega) (by omega) (by omega)
    rw [h3] at h4
    have h5 := (vO_bd ht _ _ (openO_ok ht (a := 0) (b := 1) (by omega) (by omega) (by omega)).1 rfl).1
    have h6 : vO c (openO c (0 : Nat) (1 : Nat)) ≤ -1 := h4
    omega
def bestOS (c : Chs) : (Int × Int) × Int × Int := if checkO c ≠ 0 then ((0, 0), 0, checkO c) else ((bestS c (0, 0)).1, (bestS c (0, 0)).2, 0)
/-- A state of the chase with a fixed order beside one of the task. -/
structure SimO (c : Chs) (l : List Int) (s : Cst) (t : Ost) : Prop where
  ball : t.ball = s.ball
  need : t.need = s.need
  str : 0 ≤ s.str → s.str.toNat < l.length ∧ l[s.str.toNat]? = some t.str
  par : 0 ≤ s.par ∧ s.par.toNat < l.length ∧ l[s.par.toNat]? = some t.par
  wait : ∀ i : Nat, s.nxt ≤ i → ∀ x, l[i]? = some x → bitW t.wait x = true
end Go.Proofs.YtfnfbojaiikigaaGreatDoor

namespace Go.Proofs.YtfnfbojaiikigaaGreatDoor
open Go.RowKit

theorem Blk.put5 {w : World} {g : Nat} {t : TypeId} {a b c d e : Value} (h : Blk w g t #[a, b, c, d, e]) (x0 x1 x2 x3 x4 : Value) :
    Blk (((((w.setCell ⟨g, 0, none⟩ x0).setCell ⟨g, 1, none⟩ x1).setCell ⟨g, 2, none⟩ x2).setCell ⟨g, 3, none⟩ x3).setCell ⟨g, 4, none⟩ x4) g t #[x0, x1, x2, x3, x4] :=
  ((((h.set_ 0 x0).set_ 1 x1).set_ 2 x2).set_ 3 x3).set_ 4 x4
theorem below_set5 {B : Nat} {a w : World} (h : Below B a w) {g : Nat} (hg : B ≤ g) (x0 x1 x2 x3 x4 : Value) :
    Below B a (((((w.setCell ⟨g, 0, none⟩ x0).setCell ⟨g, 1, none⟩ x1).setCell ⟨g, 2, none⟩ x2).setCell ⟨g, 3, none⟩ x3).setCell ⟨g, 4, none⟩ x4) :=
  Below.setCell (Below.setCell (Below.setCell (Below.setCell (Below.setCell h hg x0) hg x1) hg x2) hg x3) hg x4
end Go.Proofs.YtfnfbojaiikigaaGreatDoor

namespace Go.Proofs.YtfnfbojaiikigaaGreatDoor
open Go.RowKit

theorem Blk.drewNB {w : World} {g : Nat} {t : TypeId} {cs : Array Value} (h : Blk w g t cs) (n : Nat) : Blk (w.drewN n) g t cs := h
theorem ne31 (n : Nat) : n + 1 + 1 + 1 ≠ n + 1 := by omega
theorem le3 (n : Nat) : n ≤ n + 1 + 1 + 1 := by omega
theorem le1 (n : Nat) : n ≤ n + 1 := by omega
theorem blk_far1 {W : World} {n : Nat} {t : TypeId} {cs : Array Value} (h : Blk W (n + 1 + 1 + 1) t cs) (i : Nat) (u : Value) : Blk (W.setCell ⟨n + 1, i, none⟩ u) (n + 1 + 1 + 1) t cs := h.far (ne31 n) u
theorem below_far1 {W a : World} {n : Nat} (h : Below n a W) (i : Nat) (u : Value) : Below n a (W.setCell ⟨n + 1, i, none⟩ u) := Below.setCell h (le1 n) u
theorem below_r (w : World) (o1 o2 o3 o4 : Obj) : Below w.heap.size w ((((w.alloc o1).alloc o2).alloc o3).alloc o4) :=
  Below.alloc (Below.alloc (Below.alloc (Below.alloc (Below.refl _ _) (Nat.le_refl _) o1) (by simp) o2) (by simp; omega) o3) (by simp; omega) o4
end Go.Proofs.YtfnfbojaiikigaaGreatDoor

namespace Go.Proofs.YtfnfbojaiikigaaGreatDoor
open Go.RowKit

end Go.Proofs.YtfnfbojaiikigaaGreatDoor

namespace Go.Proofs.YtfnfbojaiikigaaGreatDoor
open Go.RowKit Go.Maps

/-- A chase and a state boxed, a map of values beside them. -/
structure Sol (w W : World) (b N : Nat) (c : Chs) (bv wv pv ov : Value) (s : Cst) : Prop where
  only : Only b w W
  box : Blk W w.heap.size 28 #[bv, wv, pv, .int .i64 c.over, .int .i64 c.done, .int .i64 c.need, ov]
  st : Blk W (w.heap.size + 1) 33 #[.int .i64 s.ball, .int .i64 s.need, .int .i64 s.str, .int .i64 s.par, .int .i64 s.nxt]
  blt : b < w.heap.size
  vals : ∃ D, Vals W b N D ∧ Known c D
section
variable {w W W' : World} {b N N' : Nat} {c : Chs} {bv wv pv ov : Value} {s : Cst}
theorem vals_below {D : DataW Unit} (h : Vals W b N D) (hb : Below W.heap.size W W') : Vals W' b N D := h.kept (Only.of_below (g := b + 1) hb) (by simp)
theorem Sol.below (h : Sol w W b N c bv wv pv ov s) (hb : Below W.heap.size W W') : Sol w W' b N c bv wv pv ov s :=
  ⟨h.only.trans (Only.of_below hb), h.box.below hb h.box.lt, h.st.below hb h.st.lt, h.blt, let ⟨D, h1, h2⟩ := h.vals; ⟨D, vals_below h1 hb, h2⟩⟩
theorem Sol.alloc (h : Sol w W b N c bv wv pv ov s) (o : Obj) : Sol w (W.alloc o) b N c bv wv pv ov s := h.below (Below.alloc (Below.refl _ _) (Nat.le_refl _) o)
theorem Sol.drew (h : Sol w W b N c bv wv pv ov s) : Sol w W.drew b N c bv wv pv ov s := h.below (Below.drew (Below.refl _ _))
theorem Sol.into (h : Sol w W b N c bv wv pv ov s) (ho : Only b W W') (hv : ∃ D, Vals W' b N' D ∧ Known c D) : Sol w W' b N' c bv wv pv ov s :=
  ⟨h.only.trans ho, h.box.grown ho (by intro e; injection e with e; have := h.blt; omega), h.st.grown ho (by intro e; injection e with e; have := h.blt; omega), h.blt, hv⟩
theorem Sol.cells (h : Sol w W b N c bv wv pv ov s) : W.cell? ⟨w.heap.size, 0, none⟩ = some bv ∧ W.cell? ⟨w.heap.size, 1, none⟩ = some wv ∧ W.cell? ⟨w.heap.size, 2, none⟩ = some pv ∧ W.cell? ⟨w.heap.size, 3, none⟩ = some (.int .i64 c.over) ∧ W.cell? ⟨w.heap.size, 4, none⟩ = some (.int .i64 c.done) ∧ W.cell? ⟨w.heap.size, 5, none⟩ = some (.int .i64 c.need) ∧ W.cell? ⟨w.heap.size, 6, none⟩ = some ov ∧
    W.cell? ⟨w.heap.size + 1, 0, none⟩ = some (.int .i64 s.ball) ∧ W.cell? ⟨w.heap.size + 1, 1, none⟩ = some (.int .i64 s.need) ∧ W.cell? ⟨w.heap.size + 1, 2, none⟩ = some (.int .i64 s.str) ∧ W.cell? ⟨w.heap.size + 1, 3, none⟩ = some (.int .i64 s.par) ∧ W.cell? ⟨w.heap.size + 1, 4, none⟩ = some (.int .i64 s.nxt) :=
  ⟨h.box.cell 0, h.box.cell 1, h.box.cell 2, h.box.cell 3, h.box.cell 4, h.box.cell 5, h.box.cell 6, h.st.cell 0, h.st.cell 1, h.st.cell 2, h.st.cell 3, h.st.cell 4⟩
theorem Sol.new {D : DataW Unit} (h1 : Vals w b N D) (h2 : Known c D) : Sol w ((w.alloc (.cells #[bv, wv, pv, .int .i64 c.over, .int .i64 c.done, .int .i64 c.need, ov] 28)).alloc (.cells #[.int .i64 s.ball, .int .i64 s.need, .int .i64 s.str, .int .i64 s.par, .int .i64 s.nxt] 33)) b N c bv wv pv ov s :=
  let hx := CSB.new w c bv wv pv ov s
  ⟨Only.of_below hx.bel, hx.box, hx.st, h1.lt, D, vals_below h1 hx.bel, h2⟩
end
/-- A list that lies in blocks other than b. -/
theorem sl_only {W W' : World} {b : Nat} {v : Value} {l : List Otc} (h : Sl 3 elOtc W (fun x => x < W.heap.size ∧ x ≠ b) v l) (ho : Only b W W') : Sl 3 elOtc W' (fun x => x < W'.heap.size ∧ x ≠ b) v l :=
  h.keep elOtc_good (ho.same fun x hx => hx) fun x hx => ⟨Nat.lt_of_lt_of_le hx.1 ho.size, hx.2⟩
theorem prod_bd {x y : Int} {n : Nat} (hn : n ≤ 11) (hx : 1 ≤ x ∧ x ≤ 16) (hy : 0 ≤ y ∧ y ≤ pow16 n) : 0 ≤ x * y ∧ x * y ≤ 281474976710656 := by
  have h1 : pow16 n ≤ 17592186044416 := by
    have h2 := (pow16_le (n := n + 1) (by omega)).2
    rw [pow16] at h2; omega
  refine ⟨Int.mul_nonneg (by omega) hy.1, ?_⟩
  have := Int.mul_le_mul hx.2 (Int.le_trans hy.2 h1) hy.1 (by omega)
  omega
end Go.Proofs.YtfnfbojaiikigaaGreatDoor

namespace Go.Proofs.YtfnfbojaiikigaaGreatDoor
open Go.RowKit Go.Maps

end Go.Proofs.YtfnfbojaiikigaaGreatDoor

namespace Go.Proofs.YtfnfbojaiikigaaGreatDoor
open Go.RowKit Go.Maps

theorem small44_drop {l : List Bat} {k : Nat} (hk : k < l.length) : (l.drop k).all (fun b => decide (b.dist.length ≤ 100)) = (decide (l[k].dist.length ≤ 100) && (l.drop (k + 1)).all (fun b => decide (b.dist.length ≤ 100))) := by
  rw [drop_get hk, List.all_cons]
end Go.Proofs.YtfnfbojaiikigaaGreatDoor

namespace Go.Proofs.YtfnfbojaiikigaaGreatDoor
open Go.RowKit

theorem itoa_dig3 (n : Nat) (h : n < 10) : Lib.itoa (n : Int) = [UInt8.ofNat (48 + n)] := by
  unfold Lib.itoa
  rw [if_neg (by omega), Int.toNat_natCast, Lib.decDigits, dif_pos h]
theorem otcW_dig3 (r t : Nat) (b : Bool) (hr : r < 10) (ht : t < 10) : otcW ⟨(r : Int), b, (t : Int)⟩ = UInt8.ofNat (48 + r) :: ((if b = true then [87] else []) ++ [58, UInt8.ofNat (48 + t)]) := by
  unfold otcW
  simp only
  rw [itoa_dig3 r hr, itoa_dig3 t ht]
  simp
theorem dec_two (n : Nat) (h : 10 ≤ n) (h2 : n < 100) : Lib.itoa (n : Int) = [UInt8.ofNat (48 + n / 10), UInt8.ofNat (48 + n % 10)] := by
  unfold Lib.itoa
  rw [if_neg (by omega), Int.toNat_natCast, Lib.decDigits, dif_neg (by omega), Lib.decDigits, dif_pos (by omega)]
  rfl
theorem otcW_dig2 (r t : Nat) (b : Bool) (hr : r < 10) (h : 10 ≤ t) (ht : t < 100) : otcW ⟨(r : Int), b, (t : Int)⟩ = UInt8.ofNat (48 + r) :: ((if b = true then [87] else []) ++ [58, UInt8.ofNat (48 + t / 10), UInt8.ofNat (48 + t % 10)]) := by
  unfold otcW
  simp only
  rw [itoa_dig3 r hr, dec_two t h ht]
  simp
def exmM1d : List Otc := [⟨0, false, 8⟩, ⟨1, false, 4⟩, ⟨4, false, 4⟩]
end Go.Proofs.YtfnfbojaiikigaaGreatDoor

namespace Go.Proofs.YtfnfbojaiikigaaGreatDoor
open Go.RowKit

theorem bows_lit (W : World) (x : List UInt8) (n : Int) (hx : x.length ≤ maxLen) :
    Sl 2 elBow (W.alloc (.cells #[.string (S x), .int .i64 n] 90)) (· < (W.alloc (.cells #[.string (S x), .int .i64 n] 90)).heap.size) (.slice (some ⟨W.heap.size, 0, none⟩) 1 1) [⟨x, n⟩] := by
  have hk := Blk.new W 90 #[.string (S x), .int .i64 n]
  refine ⟨_, 1, rfl, Nat.le_refl _, by decide, fun h0 => ⟨W.heap.size, 0, rfl, by simp, fun i a hi => ?_⟩⟩
  have hlt := (List.getElem?_eq_some_iff.1 hi).1
  obtain rfl : i = 0 := by simp at hlt; omega
  simp at hi; subst hi
  refine ⟨[.string (S x), .int .i64 n], rfl, fun j u hu => ?_, rfl, hx⟩
  have hj : j = 0 ∨ j = 1 := by have := (List.getElem?_eq_some_iff.1 hu).1; simp at this; omega
  rcases hj with rfl | rfl
  · simp at hu; subst hu; exact hk.cell 0
  · simp at hu; subst hu; exact hk.cell 1
theorem ints_one (W : World) (a : Int) (e : TypeId) : Sl 1 elInt (W.alloc (.cells #[.int .i64 a] e)) (· < (W.alloc (.cells #[.int .i64 a] e)).heap.size) (.slice (some ⟨W.heap.size, 0, none⟩) 1 1) [a] := by
  have hk := Blk.new W e #[.int .i64 a]
  refine ⟨_, 1, rfl, Nat.le_refl _, by decide, fun h0 => ⟨W.heap.size, 0, rfl, by simp, fun i b hi => ?_⟩⟩
  have hlt := (List.getElem?_eq_some_iff.1 hi).1
  obtain rfl : i = 0 := by simp at hlt; omega
  simp at hi; subst hi
  refine ⟨[.int .i64 a], rfl, fun j u hu => ?_, rfl⟩
  obtain rfl : j = 0 := by have := (List.getElem?_eq_some_iff.1 hu).1; simp at this; omega
  simp at hu; subst hu; exact hk.cell 0
def chM : Mdl := ⟨[⟨[65], exmM1d⟩, ⟨[66], exmM1d⟩], [⟨[67], 0⟩]⟩
def ch1 : Chs := ⟨chM, [0], 6, 0, 2, [0, 1]⟩
/-- The first chase laid, in a world that has gone on. -/
structure AwI (w1 W : World) : Prop where
  bel : Below w1.heap.size w1 W
  ch : ChAt W (· < w1.heap.size + 1 + 1 + 1 + 1 + 1) (.slice (some ⟨w1.heap.size, 0, none⟩) 2 2) (.slice (some ⟨w1.heap.size + 1, 0, none⟩) 1 1) (.slice (some ⟨w1.heap.size + 1 + 1 + 1, 0, none⟩) 1 1) (.slice (some ⟨w1.heap.size + 1 + 1 + 1 + 1, 0, none⟩) 2 2) ch1
  blk : Blk W (w1.heap.size + 1 + 1 + 1 + 1 + 1) 28 #[.slice (some ⟨w1.heap.size, 0, none⟩) 2 2, .slice (some ⟨w1.heap.size + 1, 0, none⟩) 1 1, .slice (some ⟨w1.heap.size + 1 + 1 + 1, 0, none⟩) 1 1, .int .i64 6, .int .i64 0, .int .i64 2, .slice (some ⟨w1.heap.size + 1 + 1 + 1 + 1, 0, none⟩) 2 2]
theorem AwI.below {w1 W W' : World} (h : AwI w1 W) (hb : Below W.heap.size W W') : AwI w1 W' :=
  ⟨h.bel.trans (hb.mono h.bel.size), h.ch.keep (Same.below hb fun b hb => Nat.lt_trans hb h.blk.lt) fun b hb => hb, h.blk.below hb h.blk.lt⟩
theorem AwI.in {w1 W : World} (h : AwI w1 W) : ChAt W (· < W.heap.size) (.slice (some ⟨w1.heap.size, 0, none⟩) 2 2) (.slice (some ⟨w1.heap.size + 1, 0, none⟩) 1 1) (.slice (some ⟨w1.heap.size + 1 + 1 + 1, 0, none⟩) 1 1) (.slice (some ⟨w1.heap.size + 1 + 1 + 1 + 1, 0, none⟩) 2 2) ch1 := h.ch.keep (Same.refl _ _) fun b hb => Nat.lt_trans hb h.blk.lt
theorem AwI.cells {w1 W : World} (h : AwI w1 W) (k : Nat) (u : Value) (hk : #[Value.slice (some ⟨w1.heap.size, 0, none⟩) 2 2, .slice (some ⟨w1.heap.size + 1, 0, none⟩) 1 1, .slice (some ⟨w1.heap.size + 1 + 1 + 1, 0, none⟩) 1 1, .int .i64 6, .int .i64 0, .int .i64 2, .slice (some ⟨w1.heap.size + 1 + 1 + 1 + 1, 0, none⟩) 2 2][k]? = some u) : W.cell? ⟨w1.heap.size + 1 + 1 + 1 + 1 + 1, k, none⟩ = some u := (h.blk.cell k).trans hk
theorem Sl.up {α : Type} {size : Nat} {R : World → (Nat → Prop) → List Value → α → Prop} (hR : Good R) {W W' : World} {n m : Nat} {v : Value} {l : List α} (h : Sl size R W (· < W.heap.size) v l) (hb : Below W.heap.size W W') (hn : W.heap.size ≤ m) : Sl size R W' (· < m) v l :=
  h.keep hR (Same.of_below hb) fun b hb => Nat.lt_of_lt_of_le hb hn
end Go.Proofs.YtfnfbojaiikigaaGreatDoor

namespace Go.Proofs.YtfnfbojaiikigaaGreatDoor
open Go.RowKit

set_option maxRecDepth 100000 in
theorem or_within (n lo hi : Int) (b : Bool) (hb : outC.inC n lo hi = b) (w : World) : Calls Tryz.prog 96 #[.int .i64 n, .int .i64 lo, .int .i64 hi] w fun e w' => e = .returned (.bool b) ∧ w' = w := by
  have HB := Lib.hid hb.symm
  unfold outC.inC at HB
  clear hb
  by_cases h1 : lo ≤ n
  · by_cases h2 : n ≤ hi
    · go_enter Tryz.func96, Tryz.ntmps96
      go_wp2
      go_ret
      exact ⟨ret_b (by rw [HB.out]; simp [h1, h2]), rfl⟩
    · go_enter Tryz.func96, Tryz.ntmps96
      go_wp2
      go_ret
      exact ⟨ret_b (by rw [HB.out]; simp [h1, h2]), rfl⟩
  · go_enter Tryz.func96, Tryz.ntmps96
    go_wp2
    go_ret
    exact ⟨ret_b (by rw [HB.out]; simp; omega), rfl⟩
set_option maxRecDepth 100000 in
set_option maxHeartbeats 1000000 in
theorem r45_waits (s : Ost) (i : Int) (w : World) (hw : 0 ≤ s.wait ∧ s.wait < 65536) (hi : 0 ≤ i ∧ i < 16) :
    Calls Tryz.prog 63 #[osV s, .int .i64 i] w fun e w' => e = .returned (.bool (bitW s.wait i)) ∧ Below w.heap.size w w' := by
  obtain ⟨a, b, c, d, wt⟩ := s
  obtain ⟨hi1, hi2⟩ := hi
  obtain ⟨hw1, hw2⟩ := hw
  unfold osV
  dsimp only at hw1 hw2 ⊢
  go_enter Tryz.func63, Tryz.ntmps63
  go_wp2
  go_ret
  exact ⟨rfl, Below.alloc (Below.refl _ _) (Nat.le_refl _) _⟩
set_option maxRecDepth 100000 in
set_option maxHeartbeats 1000000 in
theorem or_vacant (s : Ost) (w : World) : Calls Tryz.prog 60 #[osV s] w fun e w' => e = .returned (.bool (vacO s)) ∧ Below w.heap.size w w' := by
  obtain ⟨a, b, c, d, wt⟩ := s
  obtain ⟨z, hz⟩ : ∃ z, z = vacO ⟨a, b, c, d, wt⟩ := ⟨_, rfl⟩
  rw [← hz]
  unfold vacO at hz
  unfold osV
  dsimp only at hz ⊢
  by_cases h1 : c < 0
  · have HZ := Lib.hid (show z = true by rw [hz]; simp [h1])
    clear hz
    go_enter Tryz.func60, Tryz.ntmps60
    go_wp2
    go_ret
    exact ⟨ret_b HZ.out.symm, Below.alloc (Below.refl _ _) (Nat.le_refl _) _⟩
  by_cases h2 : d < 0
  · have HZ := Lib.hid (show z = true by rw [hz]; simp [h2])
    clear hz
    go_enter Tryz.func60, Tryz.ntmps60
    go_wp2
    go_ret
    exact ⟨ret_b HZ.out.symm, Below.alloc (Below.refl _ _) (Nat.le_refl _) _⟩
  · have HZ := Lib.hid (show z = false by rw [hz]; simp; omega)
    clear hz
    go_enter Tryz.func60, Tryz.ntmps60
    go_wp2
    go_ret
    exact ⟨ret_b HZ.out.symm, Below.alloc (Below.refl _ _) (Nat.le_refl _) _⟩
set_option maxRecDepth 100000 in
set_option maxHeartbeats 1000000 in
theorem or_ended (c : Chs) (s : Ost) (bv wv pv ov : Value) (w : World) (h : ChAt w (· < w.heap.size) bv wv pv ov c) : Calls Tryz.prog 61 #[chV c bv wv pv ov, osV s] w fun e w' => e = .returned (.bool (endO c s)) ∧ Below w.heap.size w w' := by
  unfold chV osV
  obtain ⟨ball, need, str, par, wait⟩ := s
  obtain ⟨A, ca, rfl, hc1, hc2⟩ := h.mdl.bat.shape
  obtain ⟨A1, ca1, rfl, hc3, hc4⟩ := h.mdl.bow.shape
  obtain ⟨A2, ca2, rfl, hc5, hc6⟩ := h.bow.shape
  obtain ⟨A3, ca3, rfl, hc7, hc8⟩ := h.ord.shape
  have HX := Lib.hid (OSB.new w c (.slice A c.mdl.bats.length ca) (.slice A1 c.mdl.bows.length ca1) (.slice A2 c.bows.length ca2) (.slice A3 c.ord.length ca3) ⟨ball, need, str, par, wait⟩)
  obtain ⟨z, hz⟩ : ∃ z, z = endO c ⟨ball, need, str, par, wait⟩ := ⟨_, rfl⟩
  rw [← hz]
  unfold endO at hz
  dsimp only at hz ⊢
  by_cases h1 : need = 0
  · have HZ := Lib.hid (show z = true by rw [hz]; simp [h1])
    have e1 : (need == 0) = true := beq_iff_eq.2 h1
    clear hz h h1
    go_enter Tryz.func61, Tryz.ntmps61
    go_wp2
    go_ret
    exact ⟨ret_b HZ.out.symm, HX.out.bel⟩
  have e1 : (need == 0) = false := beq_eq_false_iff_ne.2 h1
  by_cases h2 : ball = c.bows.length
  · have HZ := Lib.hid (show z = true by rw [hz]; simp [h2])
    have e2 : (ball == (c.bows.length : Int)) = true := beq_iff_eq.2 h2
    clear hz h h1 h2
    go_enter Tryz.func61, Tryz.ntmps61
    go_wp2
    go_ret
    exact ⟨ret_b HZ.out.symm, HX.out.bel⟩
  · have HZ := Lib.hid (show z = false by rw [hz]; simp [h1, h2])
    have e2 : (ball == (c.bows.length : Int)) = false := beq_eq_false_iff_ne.2 h2
    clear hz h h1 h2
    go_enter Tryz.func61, Tryz.ntmps61
    go_wp2
    go_ret
    exact ⟨ret_b HZ.out.symm, HX.out.bel⟩
set_option maxRecDepth 100000 in
set_option maxHeartbeats 20000000 in
theorem or_checkState (c : Chs) (s : Ost) (bv wv pv ov : Value) (w : World) (h : ChAt w (· < w.heap.size) bv wv pv ov c) (ht : OkT c) (hw : 0 ≤ s.wait ∧ s.wait < 65536) :
    Calls Tryz.prog 56 #[chV c bv wv pv ov, osV s] w fun e w' => e = .returned (.int .i64 (stateO c s)) ∧ Below w.heap.size w w' := by
  unfold chV osV
  obtain ⟨ball, need, str, par, wait⟩ := s
  obtain ⟨A, ca, rfl, hc1, hc2⟩ := h.mdl.bat.shape
  obtain ⟨A1, ca1, rfl, hc3, hc4⟩ := h.mdl.bow.shape
  obtain ⟨A2, ca2, rfl, hc5, hc6⟩ := h.bow.shape
  obtain ⟨A3, ca3, rfl, hc7, hc8⟩ := h.ord.shape
  have HX := Lib.hid (OSB.new w c (.slice A c.mdl.bats.length ca) (.slice A1 c.mdl.bows.length ca1) (.slice A2 c.bows.length ca2) (.slice A3 c.ord.length ca3) ⟨ball, need, str, par, wait⟩)
  have HM := Lib.hid h
  obtain ⟨z, hz⟩ : ∃ z, z = stateO c ⟨ball, need, str, par, wait⟩ := ⟨_, rfl⟩
  rw [← hz]
  have hnp := ht.np
  have hnb := ht.nb
  dsimp only at hw
  have hbad : outO c ⟨ball, need, str, par, wait⟩ = true → z = 2 := fun h => by rw [hz]; unfold stateO; rw [if_pos h]
  have harg : outO c ⟨ball, need, str, par, wait⟩ = false → str = par → z = 1 := fun h h2 => by rw [hz]; unfold stateO; rw [if_neg (by simp [h]), if_pos h2]
  have hex : outO c ⟨ball, need, str, par, wait⟩ = false → str ≠ par → bothO ⟨ball, need, str, par, wait⟩ = true → z = 7 := fun h h2 h3 => by rw [hz]; unfold stateO; rw [if_neg (by simp [h]), if_neg h2, if_pos h3]
  have hok : outO c ⟨ball, need, str, par, wait⟩ = false → str ≠ par → bothO ⟨ball, need, str, par, wait⟩ = false → z = 0 := fun h h2 h3 => by rw [hz]; unfold stateO; rw [if_neg (by simp [h]), if_neg h2, if_neg (by simp [h3])]
  obtain ⟨hw1, hw2⟩ := hw
  obtain ⟨hnp1, hnp2⟩ := hnp
  clear h hz ht
  cases b0 : outC.inC ball 0 c.bows.length
  · have HZ := Lib.hid (hbad (by unfold outO; simp [b0]))
    clear hbad harg hex hok
    go_enter Tryz.func56, Tryz.ntmps56
    go_wp2_with (go_at_call 96; refine (or_within _ _ _ _ (by first | exact b0 | exact b1 | exact b2 | exact b3) _).mono ?_; rintro e w2 ⟨rfl, rfl⟩)
    go_ret
    exact ⟨ret_i HZ.out.symm, HX.out.bel⟩
  cases b1 : outC.inC need 0 c.need
  · have HZ := Lib.hid (hbad (by unfold outO; simp [b0, b1]))
    clear hbad harg hex hok
    go_enter Tryz.func56, Tryz.ntmps56
    go_wp2_with (go_at_call 96; refine (or_within _ _ _ _ (by first | exact b0 | exact b1 | exact b2 | exact b3) _).mono ?_; rintro e w2 ⟨rfl, rfl⟩)
    go_ret
    exact ⟨ret_i HZ.out.symm, HX.out.bel⟩
  cases b2 : outC.inC str (-1) (c.ord.length - 1)
  · have HZ := Lib.hid (hbad (by unfold outO; simp [b0, b1, b2]))
    clear hbad harg hex hok
    go_enter Tryz.func56, Tryz.ntmps56
    go_wp2_with (go_at_call 96; refine (or_within _ _ _ _ (by first | exact b0 | exact b1 | exact b2 | exact b3) _).mono ?_; rintro e w2 ⟨rfl, rfl⟩)
    go_ret
    exact ⟨ret_i HZ.out.symm, HX.out.bel⟩
  cases b3 : outC.inC par (-1) (c.ord.length - 1)
  · have HZ := Lib.hid (hbad (by unfold outO; simp [b0, b1, b2, b3]))
    clear hbad harg hex hok
    go_enter Tryz.func56, Tryz.ntmps56
    go_wp2_with (go_at_call 96; refine (or_within _ _ _ _ (by first | exact b0 | exact b1 | exact b2 | exact b3) _).mono ?_; rintro e w2 ⟨rfl, rfl⟩)
    go_ret
    exact ⟨ret_i HZ.out.symm, HX.out.bel⟩
  have p0 := (show 0 ≤ ball ∧ ball ≤ c.bows.length by have := b0; unfold outC.inC at this; simpa using this)
  obtain ⟨p0a, p0b⟩ := p0
  have p1 := (show 0 ≤ need ∧ need ≤ c.need by have := b1; unfold outC.inC at this; simpa using this)
  obtain ⟨p1a, p1b⟩ := p1
  have p2 := (show -1 ≤ str ∧ str ≤ c.ord.length - 1 by have := b2; unfold outC.inC at this; simpa using this)
  obtain ⟨p2a, p2b⟩ := p2
  have p3 := (show -1 ≤ par ∧ par ≤ c.ord.length - 1 by have := b3; unfold outC.inC at this; simpa using this)
  obtain ⟨p3a, p3b⟩ := p3
  cases b4 : (wait / 2 ^ c.ord.length == 0)
  · have HZ := Lib.hid (hbad (by unfold outO shrW; simp [b0, b1, b2, b3]; simpa using b4))
    have b5 : (wait / 2 ^ c.ord.length != 0) = true := by simp only [bne, b4]; rfl
    clear hbad harg hex hok
    go_enter Tryz.func56, Tryz.ntmps56
    go_wp2_with (go_at_call 96; refine (or_within _ _ _ _ (by first | exact b0 | exact b1 | exact b2 | exact b3) _).mono ?_; rintro e w2 ⟨rfl, rfl⟩)
    go_ret
    exact ⟨ret_i HZ.out.symm, HX.out.bel⟩
  have b5 : (wait / 2 ^ c.ord.length != 0) = false := by simp only [bne, b4]; rfl
  have ho : outO c ⟨ball, need, str, par, wait⟩ = false := by unfold outO shrW; simp [b0, b1, b2, b3]; simpa using b4
  by_cases h1 : str = par
  · have HZ := Lib.hid (harg ho h1)
    have e1 : (str == par) = true := beq_iff_eq.2 h1
    have h1' := Lib.hid h1
    clear hbad harg hex hok ho h1
    go_enter Tryz.func56, Tryz.ntmps56
    go_wp2_with (go_at_call 96; refine (or_within _ _ _ _ (by first | exact b0 | exact b1 | exact b2 | exact b3) _).mono ?_; rintro e w2 ⟨rfl, rfl⟩)
    go_ret
    exact ⟨ret_i HZ.out.symm, HX.out.bel⟩
  have e1 : (str == par) = false := beq_eq_false_iff_ne.2 h1
  have hbo : bothO ⟨ball, need, str, par, wait⟩ = ((decide (0 ≤ str) && bitW wait str) || (decide (0 ≤ par) && bitW wait par)) := rfl
  by_cases d1 : 0 ≤ str
  · cases c1 : bitW wait str
    · have f1 : (bits .and .u16 (wait / 2 ^ str.toNat) 1 == 1) = false := c1
      by_cases d2 : 0 ≤ par
      · cases c2 : bitW wait par
        · have f2 : (bits .and .u16 (wait / 2 ^ par.toNat) 1 == 1) = false := c2
          have HZ := Lib.hid (hok ho h1 (by rw [hbo]; simp [c1, c2]))
          clear hbad harg hex hok ho h1 hbo
          go_enter Tryz.func56, Tryz.ntmps56
          have tok0 : True := trivial
          go_wp2_with (go_at_call 96; refine (or_within _ _ _ _ (by first | exact b0 | exact b1 | exact b2 | exact b3) _).mono ?_; rintro e w2 ⟨rfl, rfl⟩)
          go_ret
          first | exact ⟨ret_i HZ.out.symm, HX3.out.bel⟩ | exact ⟨ret_i HZ.out.symm, HX2.out.bel⟩ | exact ⟨ret_i HZ.out.symm, HX.out.bel⟩
        · have f2 : (bits .and .u16 (wait / 2 ^ par.toNat) 1 == 1) = true := c2
          have HZ := Lib.hid (hex ho h1 (by rw [hbo]; simp [c1, c2, d2]))
          clear hbad harg hex hok ho h1 hbo
          go_enter Tryz.func56, Tryz.ntmps56
          have tok0 : True := trivial
          go_wp2_with (go_at_call 96; refine (or_within _ _ _ _ (by first | exact b0 | exact b1 | exact b2 | exact b3) _).mono ?_; rintro e w2 ⟨rfl, rfl⟩)
          go_ret
          first | exact ⟨ret_i HZ.out.symm, HX3.out.bel⟩ | exact ⟨ret_i HZ.out.symm, HX2.out.bel⟩ | exact ⟨ret_i HZ.out.symm, HX.out.bel⟩
      · skip
        have HZ := Lib.hid (hok ho h1 (by rw [hbo]; simp [c1, d2]))
        clear hbad harg hex hok ho h1 hbo
        go_enter Tryz.func56, Tryz.ntmps56
        have tok0 : True := trivial
        go_wp2_with (go_at_call 96; refine (or_within _ _ _ _ (by first | exact b0 | exact b1 | exact b2 | exact b3) _).mono ?_; rintro e w2 ⟨rfl, rfl⟩)
        go_ret
        first | exact ⟨ret_i HZ.out.symm, HX3.out.bel⟩ | exact ⟨ret_i HZ.out.symm, HX2.out.bel⟩ | exact ⟨ret_i HZ.out.symm, HX.out.bel⟩
    · have f1 : (bits .and .u16 (wait / 2 ^ str.toNat) 1 == 1) = true := c1
      have HZ := Lib.hid (hex ho h1 (by rw [hbo]; simp [c1, d1]))
      clear hbad harg hex hok ho h1 hbo
      go_enter Tryz.func56, Tryz.ntmps56
      have tok0 : True := trivial
      go_wp2_with (go_at_call 96; refine (or_within _ _ _ _ (by first | exact b0 | exact b1 | exact b2 | exact b3) _).mono ?_; rintro e w2 ⟨rfl, rfl⟩)
      go_ret
      first | exact ⟨ret_i HZ.out.symm, HX3.out.bel⟩ | exact ⟨ret_i HZ.out.symm, HX2.out.bel⟩ | exact ⟨ret_i HZ.out.symm, HX.out.bel⟩
  · by_cases d2 : 0 ≤ par
    · cases c2 : bitW wait par
      · have f2 : (bits .and .u16 (wait / 2 ^ par.toNat) 1 == 1) = false := c2
        have HZ := Lib.hid (hok ho h1 (by rw [hbo]; simp [c2, d1]))
        clear hbad harg hex hok ho h1 hbo
        go_enter Tryz.func56, Tryz.ntmps56
        have tok0 : True := trivial
        go_wp2_with (go_at_call 96; refine (or_within _ _ _ _ (by first | exact b0 | exact b1 | exact b2 | exact b3) _).mono ?_; rintro e w2 ⟨rfl, rfl⟩)
        go_ret
        first | exact ⟨ret_i HZ.out.symm, HX3.out.bel⟩ | exact ⟨ret_i HZ.out.symm, HX2.out.bel⟩ | exact ⟨ret_i HZ.out.symm, HX.out.bel⟩
      · have f2 : (bits .and .u16 (wait / 2 ^ par.toNat) 1 == 1) = true := c2
        have HZ := Lib.hid (hex ho h1 (by rw [hbo]; simp [c2, d1, d2]))
        clear hbad harg hex hok ho h1 hbo
        go_enter Tryz.func56, Tryz.ntmps56
        have tok0 : True := trivial
        go_wp2_with (go_at_call 96; refine (or_within _ _ _ _ (by first | exact b0 | exact b1 | exact b2 | exact b3) _).mono ?_; rintro e w2 ⟨rfl, rfl⟩)
        go_ret
        first | exact ⟨ret_i HZ.out.symm, HX3.out.bel⟩ | exact ⟨ret_i HZ.out.symm, HX2.out.bel⟩ | exact ⟨ret_i HZ.out.symm, HX.out.bel⟩
    · exfalso; omega
set_option maxRecDepth 100000 in
set_option maxHeartbeats 20000000 in
theorem r45_checkState (c : Chs) (s : Ost) (bv wv pv ov : Value) (w : World) (h : ChAt w (· < w.heap.size) bv wv pv ov c) (ht : OkT c) (hw : 0 ≤ s.wait ∧ s.wait < 65536) :
    Calls Tryz.prog 57 #[chV c bv wv pv ov, osV s] w fun e w' => e = .returned (.int .i64 (stateO c s)) ∧ Below w.heap.size w w' := by
  unfold chV osV
  obtain ⟨ball, need, str, par, wait⟩ := s
  obtain ⟨A, ca, rfl, hc1, hc2⟩ := h.mdl.bat.shape
  obtain ⟨A1, ca1, rfl, hc3, hc4⟩ := h.mdl.bow.shape
  obtain ⟨A2, ca2, rfl, hc5, hc6⟩ := h.bow.shape
  obtain ⟨A3, ca3, rfl, hc7, hc8⟩ := h.ord.shape
  have HX := Lib.hid (OSB.new w c (.slice A c.mdl.bats.length ca) (.slice A1 c.mdl.bows.length ca1) (.slice A2 c.bows.length ca2) (.slice A3 c.ord.length ca3) ⟨ball, need, str, par, wait⟩)
  have HM := Lib.hid h
  obtain ⟨z, hz⟩ : ∃ z, z = stateO c ⟨ball, need, str, par, wait⟩ := ⟨_, rfl⟩
  rw [← hz]
  have hnp := ht.np
  have hnb := ht.nb
  dsimp only at hw
  have hbad : outO c ⟨ball, need, str, par, wait⟩ = true → z = 2 := fun h => by rw [hz]; unfold stateO; rw [if_pos h]
  have harg : outO c ⟨ball, need, str, par, wait⟩ = false → str = par → z = 1 := fun h h2 => by rw [hz]; unfold stateO; rw [if_neg (by simp [h]), if_pos h2]
  have hex : outO c ⟨ball, need, str, par, wait⟩ = false → str ≠ par → bothO ⟨ball, need, str, par, wait⟩ = true → z = 7 := fun h h2 h3 => by rw [hz]; unfold stateO; rw [if_neg (by simp [h]), if_neg h2, if_pos h3]
  have hok : outO c ⟨ball, need, str, par, wait⟩ = false → str ≠ par → bothO ⟨ball, need, str, par, wait⟩ = false → z = 0 := fun h h2 h3 => by rw [hz]; unfold stateO; rw [if_neg (by simp [h]), if_neg h2, if_neg (by simp [h3])]
  obtain ⟨hw1, hw2⟩ := hw
  obtain ⟨hnp1, hnp2⟩ := hnp
  clear h hz ht
  cases b0 : outC.inC ball 0 c.bows.length
  · have HZ := Lib.hid (hbad (by unfold outO; simp [b0]))
    clear hbad harg hex hok
    have pz : ball < 0 ∨ (¬ ball < 0 ∧ (c.bows.length : Int) < ball) := by have := b0; unfold outC.inC at this; simp at this; omega
    clear b0
    rcases pz with g | ⟨g, g2⟩
    · skip
      go_enter Tryz.func57, Tryz.ntmps57
      go_wp2
      go_ret
      exact ⟨ret_i HZ.out.symm, HX.out.bel⟩
    · skip
      go_enter Tryz.func57, Tryz.ntmps57
      go_wp2
      go_ret
      exact ⟨ret_i HZ.out.symm, HX.out.bel⟩
  cases b1 : outC.inC need 0 c.need
  · have HZ := Lib.hid (hbad (by unfold outO; simp [b0, b1]))
    clear hbad harg hex hok
    have p0 := (show 0 ≤ ball ∧ ball ≤ c.bows.length by have := b0; unfold outC.inC at this; simpa using this)
    obtain ⟨p0a, p0b⟩ := p0
    have pz : need < 0 ∨ (¬ need < 0 ∧ c.need < need) := by have := b1; unfold outC.inC at this; simp at this; omega
    clear b0 b1
    rcases pz with g | ⟨g, g2⟩
    · skip
      go_enter Tryz.func57, Tryz.ntmps57
      go_wp2
      go_ret
      exact ⟨ret_i HZ.out.symm, HX.out.bel⟩
    · skip
      go_enter Tryz.func57, Tryz.ntmps57
      go_wp2
      go_ret
      exact ⟨ret_i HZ.out.symm, HX.out.bel⟩
  cases b2 : outC.inC str (-1) (c.ord.length - 1)
  · have HZ := Lib.hid (hbad (by unfold outO; simp [b0, b1, b2]))
    clear hbad harg hex hok
    have p0 := (show 0 ≤ ball ∧ ball ≤ c.bows.length by have := b0; unfold outC.inC at this; simpa using this)
    obtain ⟨p0a, p0b⟩ := p0
    have p1 := (show 0 ≤ need ∧ need ≤ c.need by have := b1; unfold outC.inC at this; simpa using this)
    obtain ⟨p1a, p1b⟩ := p1
    have pz : str < -1 ∨ (¬ str < -1 ∧ (c.ord.length : Int) ≤ str) := by have := b2; unfold outC.inC at this; simp at this; omega
    clear b0 b1 b2
    rcases pz with g | ⟨g, g2⟩
    · skip
      go_enter Tryz.func57, Tryz.ntmps57
      go_wp2
      go_ret
      exact ⟨ret_i HZ.out.symm, HX.out.bel⟩
    · skip
      go_enter Tryz.func57, Tryz.ntmps57
      go_wp2
      go_ret
      exact ⟨ret_i HZ.out.symm, HX.out.bel⟩
  cases b3 : outC.inC par (-1) (c.ord.length - 1)
  · have HZ := Lib.hid (hbad (by unfold outO; simp [b0, b1, b2, b3]))
    clear hbad harg hex hok
    have p0 := (show 0 ≤ ball ∧ ball ≤ c.bows.length by have := b0; unfold outC.inC at this; simpa using this)
    obtain ⟨p0a, p0b⟩ := p0
    have p1 := (show 0 ≤ need ∧ need ≤ c.need by have := b1; unfold outC.inC at this; simpa using this)
    obtain ⟨p1a, p1b⟩ := p1
    have p2 := (show -1 ≤ str ∧ str ≤ c.ord.length - 1 by have := b2; unfold outC.inC at this; simpa using this)
    obtain ⟨p2a, p2b⟩ := p2
    have pz : par < -1 ∨ (¬ par < -1 ∧ (c.ord.length : Int) ≤ par) := by have := b3; unfold outC.inC at this; simp at this; omega
    clear b0 b1 b2 b3
    rcases pz with g | ⟨g, g2⟩
    · skip
      go_enter Tryz.func57, Tryz.ntmps57
      go_wp2
      go_ret
      exact ⟨ret_i HZ.out.symm, HX.out.bel⟩
    · skip
      go_enter Tryz.func57, Tryz.ntmps57
      go_wp2
      go_ret
      exact ⟨ret_i HZ.out.symm, HX.out.bel⟩
  have p0 := (show 0 ≤ ball ∧ ball ≤ c.bows.length by have := b0; unfold outC.inC at this; simpa using this)
  obtain ⟨p0a, p0b⟩ := p0
  have p1 := (show 0 ≤ need ∧ need ≤ c.need by have := b1; unfold outC.inC at this; simpa using this)
  obtain ⟨p1a, p1b⟩ := p1
  have p2 := (show -1 ≤ str ∧ str ≤ c.ord.length - 1 by have := b2; unfold outC.inC at this; simpa using this)
  obtain ⟨p2a, p2b⟩ := p2
  have p3 := (show -1 ≤ par ∧ par ≤ c.ord.length - 1 by have := b3; unfold outC.inC at this; simpa using this)
  obtain ⟨p3a, p3b⟩ := p3
  cases b4 : (wait / 2 ^ c.ord.length == 0)
  · have HZ := Lib.hid (hbad (by unfold outO shrW; simp [b0, b1, b2, b3]; simpa using b4))
    have b5 : (wait / 2 ^ c.ord.length != 0) = true := by simp only [bne, b4]; rfl
    clear hbad harg hex hok
    clear b0 b1 b2 b3; go_enter Tryz.func57, Tryz.ntmps57
    go_wp2
    go_ret
    exact ⟨ret_i HZ.out.symm, HX.out.bel⟩
  have b5 : (wait / 2 ^ c.ord.length != 0) = false := by simp only [bne, b4]; rfl
  have ho : outO c ⟨ball, need, str, par, wait⟩ = false := by unfold outO shrW; simp [b0, b1, b2, b3]; simpa using b4
  by_cases h1 : str = par
  · have HZ := Lib.hid (harg ho h1)
    have e1 : (str == par) = true := beq_iff_eq.2 h1
    have h1' := Lib.hid h1
    clear hbad harg hex hok ho h1
    clear b0 b1 b2 b3; go_enter Tryz.func57, Tryz.ntmps57
    go_wp2
    go_ret
    exact ⟨ret_i HZ.out.symm, HX.out.bel⟩
  have e1 : (str == par) = false := beq_eq_false_iff_ne.2 h1
  have hbo : bothO ⟨ball, need, str, par, wait⟩ = ((decide (0 ≤ str) && bitW wait str) || (decide (0 ≤ par) && bitW wait par)) := rfl
  by_cases d1 : 0 ≤ str
  · cases c1 : bitW wait str
    · have f1 : (bits .and .u16 (wait / 2 ^ str.toNat) 1 == 1) = false := c1
      by_cases d2 : 0 ≤ par
      · cases c2 : bitW wait par
        · have f2 : (bits .and .u16 (wait / 2 ^ par.toNat) 1 == 1) = false := c2
          have HZ := Lib.hid (hok ho h1 (by rw [hbo]; simp [c1, c2]))
          clear hbad harg hex hok ho h1 hbo
          clear b0 b1 b2 b3; go_enter Tryz.func57, Tryz.ntmps57
          have tok0 : True := trivial
          go_wp2_with (first
            | (clear tok0; go_at_call 63; refine (r45_waits ⟨ball, need, str, par, wait⟩ _ _ ⟨hw1, hw2⟩ ⟨by omega, by omega⟩).mono ?_; rintro e w2 ⟨rfl, hb⟩; have HX2 := Lib.hid (HX.out.below hb); obtain ⟨x0, x1, x2, x3, x4, x5, x6, y0, y1, y2, y3, y4⟩ := HX2.out.cells; dsimp only at y0 y1 y2 y3 y4; clear hb; have tok1 : True := trivial)
            | (clear tok1; go_at_call 63; refine (r45_waits ⟨ball, need, str, par, wait⟩ _ _ ⟨hw1, hw2⟩ ⟨by omega, by omega⟩).mono ?_; rintro e w3 ⟨rfl, hb⟩; have HX3 := Lib.hid (HX2.out.below hb); clear x0 x1 x2 x3 x4 x5 x6 y0 y1 y2 y3 y4; obtain ⟨x0, x1, x2, x3, x4, x5, x6, y0, y1, y2, y3, y4⟩ := HX3.out.cells; dsimp only at y0 y1 y2 y3 y4; clear hb; have tok2 : True := trivial))
          go_ret
          first | exact ⟨ret_i HZ.out.symm, HX3.out.bel⟩ | exact ⟨ret_i HZ.out.symm, HX2.out.bel⟩ | exact ⟨ret_i HZ.out.symm, HX.out.bel⟩
        · have f2 : (bits .and .u16 (wait / 2 ^ par.toNat) 1 == 1) = true := c2
          have HZ := Lib.hid (hex ho h1 (by rw [hbo]; simp [c1, c2, d2]))
          clear hbad harg hex hok ho h1 hbo
          clear b0 b1 b2 b3; go_enter Tryz.func57, Tryz.ntmps57
          have tok0 : True := trivial
          go_wp2_with (first
            | (clear tok0; go_at_call 63; refine (r45_waits ⟨ball, need, str, par, wait⟩ _ _ ⟨hw1, hw2⟩ ⟨by omega, by omega⟩).mono ?_; rintro e w2 ⟨rfl, hb⟩; have HX2 := Lib.hid (HX.out.below hb); obtain ⟨x0, x1, x2, x3, x4, x5, x6, y0, y1, y2, y3, y4⟩ := HX2.out.cells; dsimp only at y0 y1 y2 y3 y4; clear hb; have tok1 : True := trivial)
            | (clear tok1; go_at_call 63; refine (r45_waits ⟨ball, need, str, par, wait⟩ _ _ ⟨hw1, hw2⟩ ⟨by omega, by omega⟩).mono ?_; rintro e w3 ⟨rfl, hb⟩; have HX3 := Lib.hid (HX2.out.below hb); clear x0 x1 x2 x3 x4 x5 x6 y0 y1 y2 y3 y4; obtain ⟨x0, x1, x2, x3, x4, x5, x6, y0, y1, y2, y3, y4⟩ := HX3.out.cells; dsimp only at y0 y1 y2 y3 y4; clear hb; have tok2 : True := trivial))
          go_ret
          first | exact ⟨ret_i HZ.out.symm, HX3.out.bel⟩ | exact ⟨ret_i HZ.out.symm, HX2.out.bel⟩ | exact ⟨ret_i HZ.out.symm, HX.out.bel⟩
      · skip
        have HZ := Lib.hid (hok ho h1 (by rw [hbo]; simp [c1, d2]))
        clear hbad harg hex hok ho h1 hbo
        clear b0 b1 b2 b3; go_enter Tryz.func57, Tryz.ntmps57
        have tok0 : True := trivial
        go_wp2_with (first
          | (clear tok0; go_at_call 63; refine (r45_waits ⟨ball, need, str, par, wait⟩ _ _ ⟨hw1, hw2⟩ ⟨by omega, by omega⟩).mono ?_; rintro e w2 ⟨rfl, hb⟩; have HX2 := Lib.hid (HX.out.below hb); obtain ⟨x0, x1, x2, x3, x4, x5, x6, y0, y1, y2, y3, y4⟩ := HX2.out.cells; dsimp only at y0 y1 y2 y3 y4; clear hb; have tok1 : True := trivial)
          | (clear tok1; go_at_call 63; refine (r45_waits ⟨ball, need, str, par, wait⟩ _ _ ⟨hw1, hw2⟩ ⟨by omega, by omega⟩).mono ?_; rintro e w3 ⟨rfl, hb⟩; have HX3 := Lib.hid (HX2.out.below hb); clear x0 x1 x2 x3 x4 x5 x6 y0 y1 y2 y3 y4; obtain ⟨x0, x1, x2, x3, x4, x5, x6, y0, y1, y2, y3, y4⟩ := HX3.out.cells; dsimp only at y0 y1 y2 y3 y4; clear hb; have tok2 : True := trivial))
        go_ret
        first | exact ⟨ret_i HZ.out.symm, HX3.out.bel⟩ | exact ⟨ret_i HZ.out.symm, HX2.out.bel⟩ | exact ⟨ret_i HZ.out.symm, HX.out.bel⟩
    · have f1 : (bits .and .u16 (wait / 2 ^ str.toNat) 1 == 1) = true := c1
      have HZ := Lib.hid (hex ho h1 (by rw [hbo]; simp [c1, d1]))
      clear hbad harg hex hok ho h1 hbo
      clear b0 b1 b2 b3; go_enter Tryz.func57, Tryz.ntmps57
      have tok0 : True := trivial
      go_wp2_with (first
        | (clear tok0; go_at_call 63; refine (r45_waits ⟨ball, need, str, par, wait⟩ _ _ ⟨hw1, hw2⟩ ⟨by omega, by omega⟩).mono ?_; rintro e w2 ⟨rfl, hb⟩; have HX2 := Lib.hid (HX.out.below hb); obtain ⟨x0, x1, x2, x3, x4, x5, x6, y0, y1, y2, y3, y4⟩ := HX2.out.cells; dsimp only at y0 y1 y2 y3 y4; clear hb; have tok1 : True := trivial)
        | (clear tok1; go_at_call 63; refine (r45_waits ⟨ball, need, str, par, wait⟩ _ _ ⟨hw1, hw2⟩ ⟨by omega, by omega⟩).mono ?_; rintro e w3 ⟨rfl, hb⟩; have HX3 := Lib.hid (HX2.out.below hb); clear x0 x1 x2 x3 x4 x5 x6 y0 y1 y2 y3 y4; obtain ⟨x0, x1, x2, x3, x4, x5, x6, y0, y1, y2, y3, y4⟩ := HX3.out.cells; dsimp only at y0 y1 y2 y3 y4; clear hb; have tok2 : True := trivial))
      go_ret
      first | exact ⟨ret_i HZ.out.symm, HX3.out.bel⟩ | exact ⟨ret_i HZ.out.symm, HX2.out.bel⟩ | exact ⟨ret_i HZ.out.symm, HX.out.bel⟩
  · by_cases d2 : 0 ≤ par
    · cases c2 : bitW wait par
      · have f2 : (bits .and .u16 (wait / 2 ^ par.toNat) 1 == 1) = false := c2
        have HZ := Lib.hid (hok ho h1 (by rw [hbo]; simp [c2, d1]))
        clear hbad harg hex hok ho h1 hbo
        clear b0 b1 b2 b3; go_enter Tryz.func57, Tryz.ntmps57
        have tok0 : True := trivial
        go_wp2_with (first
          | (clear tok0; go_at_call 63; refine (r45_waits ⟨ball, need, str, par, wait⟩ _ _ ⟨hw1, hw2⟩ ⟨by omega, by omega⟩).mono ?_; rintro e w2 ⟨rfl, hb⟩; have HX2 := Lib.hid (HX.out.below hb); obtain ⟨x0, x1, x2, x3, x4, x5, x6, y0, y1, y2, y3, y4⟩ := HX2.out.cells; dsimp only at y0 y1 y2 y3 y4; clear hb; have tok1 : True := trivial)
          | (clear tok1; go_at_call 63; refine (r45_waits ⟨ball, need, str, par, wait⟩ _ _ ⟨hw1, hw2⟩ ⟨by omega, by omega⟩).mono ?_; rintro e w3 ⟨rfl, hb⟩; have HX3 := Lib.hid (HX2.out.below hb); clear x0 x1 x2 x3 x4 x5 x6 y0 y1 y2 y3 y4; obtain ⟨x0, x1, x2, x3, x4, x5, x6, y0, y1, y2, y3, y4⟩ := HX3.out.cells; dsimp only at y0 y1 y2 y3 y4; clear hb; have tok2 : True := trivial))
        go_ret
        first | exact ⟨ret_i HZ.out.symm, HX3.out.bel⟩ | exact ⟨ret_i HZ.out.symm, HX2.out.bel⟩ | exact ⟨ret_i HZ.out.symm, HX.out.bel⟩
      · have f2 : (bits .and .u16 (wait / 2 ^ par.toNat) 1 == 1) = true := c2
        have HZ := Lib.hid (hex ho h1 (by rw [hbo]; simp [c2, d1, d2]))
        clear hbad harg hex hok ho h1 hbo
        clear b0 b1 b2 b3; go_enter Tryz.func57, Tryz.ntmps57
        have tok0 : True := trivial
        go_wp2_with (first
          | (clear tok0; go_at_call 63; refine (r45_waits ⟨ball, need, str, par, wait⟩ _ _ ⟨hw1, hw2⟩ ⟨by omega, by omega⟩).mono ?_; rintro e w2 ⟨rfl, hb⟩; have HX2 := Lib.hid (HX.out.below hb); obtain ⟨x0, x1, x2, x3, x4, x5, x6, y0, y1, y2, y3, y4⟩ := HX2.out.cells; dsimp only at y0 y1 y2 y3 y4; clear hb; have tok1 : True := trivial)
          | (clear tok1; go_at_call 63; refine (r45_waits ⟨ball, need, str, par, wait⟩ _ _ ⟨hw1, hw2⟩ ⟨by omega, by omega⟩).mono ?_; rintro e w3 ⟨rfl, hb⟩; have HX3 := Lib.hid (HX2.out.below hb); clear x0 x1 x2 x3 x4 x5 x6 y0 y1 y2 y3 y4; obtain ⟨x0, x1, x2, x3, x4, x5, x6, y0, y1, y2, y3, y4⟩ := HX3.out.cells; dsimp only at y0 y1 y2 y3 y4; clear hb; have tok2 : True := trivial))
        go_ret
        first | exact ⟨ret_i HZ.out.symm, HX3.out.bel⟩ | exact ⟨ret_i HZ.out.symm, HX2.out.bel⟩ | exact ⟨ret_i HZ.out.symm, HX.out.bel⟩
    · exfalso; omega
set_option maxRecDepth 100000 in
set_option maxHeartbeats 4000000 in
theorem or_CheckState (c : Chs) (s : Ost) (bv wv pv ov : Value) (w : World) (h : ChAt w (· < w.heap.size) bv wv pv ov c) (hw : 0 ≤ s.wait ∧ s.wait < 65536) :
    Calls Tryz.prog 23 #[chV c bv wv pv ov, osV s] w fun e w' => e = .returned (.int .i64 (chstO c s)) ∧ Below w.heap.size w w' := by
  unfold chV osV
  obtain ⟨ball, need, str, par, wait⟩ := s
  obtain ⟨A, ca, rfl, hc1, hc2⟩ := h.mdl.bat.shape
  obtain ⟨A1, ca1, rfl, hc3, hc4⟩ := h.mdl.bow.shape
  obtain ⟨A2, ca2, rfl, hc5, hc6⟩ := h.bow.shape
  obtain ⟨A3, ca3, rfl, hc7, hc8⟩ := h.ord.shape
  have hx := OSB.new w c (.slice A c.mdl.bats.length ca) (.slice A1 c.mdl.bows.length ca1) (.slice A2 c.bows.length ca2) (.slice A3 c.ord.length ca3) ⟨ball, need, str, par, wait⟩
  have HX := Lib.hid hx
  have HM := Lib.hid h
  obtain ⟨z, hz⟩ : ∃ z, z = chstO c ⟨ball, need, str, par, wait⟩ := ⟨_, rfl⟩
  rw [← hz]
  unfold chstO at hz
  have k1 := fun W (hW : Below w.heap.size w W) => or_Check c _ _ _ _ W (HM.out.below hW)
  have k2 := fun (h0 : checkO c = 0) W (hW : Below w.heap.size w W) => or_checkState c ⟨ball, need, str, par, wait⟩ _ _ _ _ W (HM.out.below hW) (okT_of h0) hw
  unfold chV osV at k2
  unfold chV at k1
  dsimp only at k2
  obtain ⟨u, hu⟩ : ∃ u, u = checkO c := ⟨_, rfl⟩
  obtain ⟨v, hv⟩ : ∃ v, v = stateO c ⟨ball, need, str, par, wait⟩ := ⟨_, rfl⟩
  rw [← hu] at k1 k2 hz
  rw [← hv] at k2 hz
  have K1 := Lib.hid k1
  have tok0 : True := trivial
  clear k1 hu hv h hx hw
  by_cases h0 : u = 0
  · rw [if_neg (by omega)] at hz
    have HZ := Lib.hid hz
    have K2 := Lib.hid (k2 h0)
    have eu : (u != 0) = false := by simp [h0]
    clear hz h0 k2
    go_enter Tryz.func23, Tryz.ntmps23
    go_wp2_with (first
      | (clear tok0; go_at_call 21; refine (K1.out _ HX.out.bel).mono ?_; rintro e w2 ⟨rfl, hb2⟩; have HX2 := Lib.hid (HX.out.below hb2); obtain ⟨x0, x1, x2, x3, x4, x5, x6, y0, y1, y2, y3, y4⟩ := HX2.out.cells; clear hb2; have tok1 : True := trivial)
      | (clear tok1; go_at_call 56; refine (K2.out _ HX2.out.bel).mono ?_; rintro e w3 ⟨rfl, hb3⟩; have HX3 := Lib.hid (HX2.out.below hb3); clear hb3; have tok2 : True := trivial))
    go_ret
    exact ⟨ret_i HZ.out.symm, HX3.out.bel⟩
  · rw [if_pos h0] at hz
    have HZ := Lib.hid hz
    have eu : (u != 0) = true := by simp [h0]
    clear hz h0 k2
    go_enter Tryz.func23, Tryz.ntmps23
    go_wp2_with (clear tok0; go_at_call 21; refine (K1.out _ HX.out.bel).mono ?_; rintro e w2 ⟨rfl, hb2⟩; have HX2 := Lib.hid (HX.out.below hb2); obtain ⟨x0, x1, x2, x3, x4, x5, x6, y0, y1, y2, y3, y4⟩ := HX2.out.cells; clear hb2; have tok1 : True := trivial)
    go_ret
    exact ⟨ret_i HZ.out.symm, HX2.out.bel⟩
set_option maxRecDepth 100000 in
set_option maxHeartbeats 4000000 in
theorem r45_CheckState (c : Chs) (s : Ost) (bv wv pv ov : Value) (w : World) (h : ChAt w (· < w.heap.size) bv wv pv ov c) (hw : 0 ≤ s.wait ∧ s.wait < 65536) :
    Calls Tryz.prog 24 #[chV c bv wv pv ov, osV s] w fun e w' => e = .returned (.int .i64 (chstO c s)) ∧ Below w.heap.size w w' := by
  unfold chV osV
  obtain ⟨ball, need, str, par, wait⟩ := s
  obtain ⟨A, ca, rfl, hc1, hc2⟩ := h.mdl.bat.shape
  obtain ⟨A1, ca1, rfl, hc3, hc4⟩ := h.mdl.bow.shape
  obtain ⟨A2, ca2, rfl, hc5, hc6⟩ := h.bow.shape
  obtain ⟨A3, ca3, rfl, hc7, hc8⟩ := h.ord.shape
  have hx := OSB.new w c (.slice A c.mdl.bats.length ca) (.slice A1 c.mdl.bows.length ca1) (.slice A2 c.bows.length ca2) (.slice A3 c.ord.length ca3) ⟨ball, need, str, par, wait⟩
  have HX := Lib.hid hx
  have HM := Lib.hid h
  obtain ⟨z, hz⟩ : ∃ z, z = chstO c ⟨ball, need, str, par, wait⟩ := ⟨_, rfl⟩
  rw [← hz]
  unfold chstO at hz
  have k1 := fun W (hW : Below w.heap.size w W) => r45_Check c _ _ _ _ W (HM.out.below hW)
  simp only [checkO_ref] at k1
  have k2 := fun (h0 : checkO c = 0) W (hW : Below w.heap.size w W) => r45_checkState c ⟨ball, need, str, par, wait⟩ _ _ _ _ W (HM.out.below hW) (okT_of h0) hw
  unfold chV osV at k2
  unfold chV at k1
  dsimp only at k2
  obtain ⟨u, hu⟩ : ∃ u, u = checkO c := ⟨_, rfl⟩
  obtain ⟨v, hv⟩ : ∃ v, v = stateO c ⟨ball, need, str, par, wait⟩ := ⟨_, rfl⟩
  rw [← hu] at k1 k2 hz
  rw [← hv] at k2 hz
  have K1 := Lib.hid k1
  have tok0 : True := trivial
  clear k1 hu hv h hx hw
  by_cases h0 : u = 0
  · rw [if_neg (by omega)] at hz
    have HZ := Lib.hid hz
    have K2 := Lib.hid (k2 h0)
    have eu : (u != 0) = false := by simp [h0]
    clear hz h0 k2
    go_enter Tryz.func24, Tryz.ntmps24
    go_wp2_with (first
      | (clear tok0; go_at_call 22; refine (K1.out _ HX.out.bel).mono ?_; rintro e w2 ⟨rfl, hb2⟩; have HX2 := Lib.hid (HX.out.below hb2); obtain ⟨x0, x1, x2, x3, x4, x5, x6, y0, y1, y2, y3, y4⟩ := HX2.out.cells; clear hb2; have tok1 : True := trivial)
      | (clear tok1; go_at_call 57; refine (K2.out _ HX2.out.bel).mono ?_; rintro e w3 ⟨rfl, hb3⟩; have HX3 := Lib.hid (HX2.out.below hb3); clear hb3; have tok2 : True := trivial))
    go_ret
    exact ⟨ret_i HZ.out.symm, HX3.out.bel⟩
  · rw [if_pos h0] at hz
    have HZ := Lib.hid hz
    have eu : (u != 0) = true := by simp [h0]
    clear hz h0 k2
    go_enter Tryz.func24, Tryz.ntmps24
    go_wp2_with (clear tok0; go_at_call 22; refine (K1.out _ HX.out.bel).mono ?_; rintro e w2 ⟨rfl, hb2⟩; have HX2 := Lib.hid (HX.out.below hb2); obtain ⟨x0, x1, x2, x3, x4, x5, x6, y0, y1, y2, y3, y4⟩ := HX2.out.cells; clear hb2; have tok1 : True := trivial)
    go_ret
    exact ⟨ret_i HZ.out.symm, HX2.out.bel⟩
end Go.Proofs.YtfnfbojaiikigaaGreatDoor
