/- Several texts of this family in one: R WB PP T1 G G2 W3. -/
import Derived.WalkKit
import Derived.WalkSpells
import Derived.WalkLawsBesides
import Derived.Lib.Hide
import Derived.Lib.ConvBytes
import Derived.Deep.QuietTactic
import Derived.BigQuiet
import Derived.Deep.Draws
import Derived.Maps.AppendAt
import Derived.Deep.AppendLies
import Derived.Deep.DeepCutAuto
import Derived.StillTailTactics
import Derived.Lib.Builder
import Derived.Great.BuildSlice
import Derived.Orders
import Derived.OrdersHeld
import Derived.Test.YtjchapoggmipbaaGreatDoorCards
import Derived.Test.YtjchapoggmipbaaGreatDoorTie
import Derived.ProofKit
import Derived.OpenShut
import Derived.Carry
import Derived.ChangeSame
import Derived.SliceStrings
import Derived.Lib.SmallJoins
import Derived.Deep.DeepHandedRow
import Derived.Lib.LaidTab
import Derived.Lib.Strings
import Derived.Lib.Split
import Derived.Lib.SplitLaws
import Derived.Lib.Replace
import Derived.Lib.CountLaws
import Derived.Lib.AtoiAllCases
import Derived.Lib.ParseIntBTie
import Derived.Lib.SlTrimSet
import Derived.Lib.ItoaNum
import Derived.Test.YtjchapoggmipbaaGreatDoorChecked
import Derived.Test.YtjchapoggmipbaaGreatDoorShelf
import Derived.ChangeAgain
import Derived.Lib.ItoaMem
import Derived.WalkSmall
import Derived.Stop.LaidErr
set_option linter.unusedSimpArgs false
set_option linter.unusedVariables false
namespace Go.Proofs.YtjchapoggmipbaaGreatDoor
section
/-! part R -/
open Go.RowKit

/-- A string out of its bytes. -/
def S (l : List UInt8) : ByteArray := ⟨l.toArray⟩
@[simp] theorem S_data (l : List UInt8) : (S l).data.toList = l := rfl
@[simp] theorem S_toList (l : List UInt8) : (S l).toList = l := by rw [ByteArray.toList_eq]; rfl
@[simp] theorem S_size (l : List UInt8) : (S l).size = l.length := rfl
theorem S_of (s : ByteArray) : S s.data.toList = s := rfl
theorem ret_b {a b : Bool} (h : a = b) : Ending.returned (.bool a) = .returned (.bool b) := by rw [h]
theorem ret_i {k : IntKind} {a b : Int} (h : a = b) : Ending.returned (.int k a) = .returned (.int k b) := by rw [h]
/-- The blocks of F hold in w' what they held in w. -/
def Same (F : Nat → Prop) (w w' : World) : Prop := ∀ b, F b → w'.heap[b]? = w.heap[b]?
theorem Same.refl (F : Nat → Prop) (w : World) : Same F w w := fun _ _ => rfl
theorem Same.trans {F : Nat → Prop} {a b c : World} (h : Same F a b) (k : Same F b c) : Same F a c := fun x hx => (k x hx).trans (h x hx)
theorem Same.cell {F : Nat → Prop} {w w' : World} (h : Same F w w') {b o : Nat} {p : Option Nat} (hb : F b) : w'.cell? ⟨b, o, p⟩ = w.cell? ⟨b, o, p⟩ :=
  World.cell?_of_block (w := w) (h b hb)
theorem Same.of_below {B : Nat} {w w' : World} (h : Below B w w') : Same (· < B) w w' := fun b hb => h.block b hb
theorem Same.below {B : Nat} {F : Nat → Prop} {w w' : World} (h : Below B w w') (k : ∀ x, F x → x < B) : Same F w w' := fun b hb => h.block b (k b hb)
theorem Same.grown {row : Option Nat} {F : Nat → Prop} {w w' : World} (h : w.grownBy w' row) (k : ∀ x, F x → x < w.heap.size ∧ some x ≠ row) : Same F w w' := fun b hb => h.block b (k b hb).1 (k b hb).2

/-- What one element's cells read as, and that this hangs on the blocks of F alone. -/
structure Good {α : Type} (R : World → (Nat → Prop) → List Value → α → Prop) : Prop where
  keep : ∀ {w w' : World} {F G : Nat → Prop} {cs : List Value} {a : α}, R w F cs a → Same F w w' → (∀ b, F b → G b) → R w' G cs a

/-- The slice v reads as the list l: elements of 'size' cells; all blocks that are met are in F. -/
def Sl {α : Type} (size : Nat) (R : World → (Nat → Prop) → List Value → α → Prop) (w : World) (F : Nat → Prop) (v : Value) (l : List α) : Prop :=
  ∃ A c, v = .slice A l.length c ∧ l.length ≤ c ∧ c ≤ maxLen ∧ (0 < l.length → ∃ b o, A = some ⟨b, o, none⟩ ∧ F b ∧
    ∀ i a, l[i]? = some a → ∃ cs : List Value, cs.length = size ∧ (∀ j u, cs[j]? = some u → w.cell? ⟨b, o + i * size + j, none⟩ = some u) ∧ R w F cs a)

section
variable {α : Type} {size : Nat} {R : World → (Nat → Prop) → List Value → α → Prop}
theorem Sl.keep (hR : Good R) {w w' : World} {F G : Nat → Prop} {v : Value} {l : List α} (h : Sl size R w F v l) (hs : Same F w w') (hG : ∀ b, F b → G b) : Sl size R w' G v l := by
  obtain ⟨A, c, hv, hl, hc, hA⟩ := h
  refine ⟨A, c, hv, hl, hc, fun h0 => ?_⟩
  obtain ⟨b, o, rfl, hb, he⟩ := hA h0
  refine ⟨b, o, rfl, hG b hb, fun i a hi => ?_⟩
  obtain ⟨cs, h1, h2, h3⟩ := he i a hi
  exact ⟨cs, h1, fun j u hu => (hs.cell hb).trans (h2 j u hu), hR.keep h3 hs hG⟩
theorem Sl.good (hR : Good R) : Good (fun w F (cs : List Value) (l : List α) => ∃ v, cs = [v] ∧ Sl size R w F v l) :=
  ⟨fun ⟨v, hv, h⟩ hs hG => ⟨v, hv, h.keep hR hs hG⟩⟩
theorem Sl.below (hR : Good R) {B : Nat} {w w' : World} {v : Value} {l : List α} (h : Sl size R w (· < B) v l) (hb : Below B w w') : Sl size R w' (· < B) v l :=
  h.keep hR (Same.of_below hb) fun _ h => h
theorem Sl.nil (w : World) (F : Nat → Prop) : Sl size R w F (.slice none 0 0) [] := ⟨none, 0, rfl, Nat.le_refl _, by decide, fun h => absurd h (by simp)⟩
/-- An element that is there. -/
theorem Sl.at {w : World} {F : Nat → Prop} {A : Option Addr} {n c : Nat} {l : List α} (h : Sl size R w F (.slice A n c) l) {k : Nat} (hk : k < l.length) :
    ∃ b o cs, A = some ⟨b, o, none⟩ ∧ F b ∧ cs.length = size ∧ (∀ j u, cs[j]? = some u → w.cell? ⟨b, o + k * size + j, none⟩ = some u) ∧ R w F cs l[k] := by
  obtain ⟨A', c', hv, hl, hc, hA⟩ := h
  injection hv with h1 h2 h3
  subst h1
  obtain ⟨b, o, rfl, hb, he⟩ := hA (by omega)
  obtain ⟨cs, h1, h2, h3⟩ := he k l[k] (List.getElem?_eq_getElem hk)
  exact ⟨b, o, cs, rfl, hb, h1, h2, h3⟩
theorem Sl.shape {w : World} {F : Nat → Prop} {v : Value} {l : List α} (h : Sl size R w F v l) : ∃ A c, v = .slice A l.length c ∧ l.length ≤ c ∧ c ≤ 9223372036854775807 := by
  obtain ⟨A, c, hv, hl, hc, _⟩ := h
  exact ⟨A, c, hv, hl, by unfold maxLen at hc; omega⟩
theorem Sl.zero {w w' : World} {F G : Nat → Prop} {v : Value} (h : Sl size R w F v []) : Sl size R w' G v [] := by
  obtain ⟨A, c, hv, hl, hc, _⟩ := h
  exact ⟨A, c, hv, hl, hc, fun h => absurd h (by simp)⟩
end

/-- Elements: numbers, strings. -/
def elStr (_ : World) (_ : Nat → Prop) (cs : List Value) (s : List UInt8) : Prop := cs = [.string (S s)]
theorem elStr_good : Good elStr := ⟨fun h _ _ => h⟩
def elInt (_ : World) (_ : Nat → Prop) (cs : List Value) (x : Int) : Prop := cs = [.int .i64 x]
theorem elInt_good : Good elInt := ⟨fun h _ _ => h⟩

/-- A row of the call's own that reads as the list l; what its elements reach lies in the blocks of G. -/
def OwnG {α : Type} (size : Nat) (R : World → (Nat → Prop) → List Value → α → Prop) (e base : Nat) (w : World) (v : Value) (G : Nat → Prop) (l : List α) : Prop :=
  ∃ css : List (List Value), css.length = l.length ∧ w.ownsRow base e size v l.length css.flatten ∧ (∀ cs ∈ css, cs.length = size) ∧
    ∀ (i : Nat) (a : α) (cs : List Value), l[i]? = some a → css[i]? = some cs → R w G cs a
def NoG : Nat → Prop := fun _ => False
/-- The same where the elements reach nothing. -/
def OwnSl {α : Type} (size : Nat) (R : World → (Nat → Prop) → List Value → α → Prop) (e base : Nat) (w : World) (v : Value) (l : List α) : Prop := OwnG size R e base w v NoG l

theorem flatten_get {css : List (List Value)} {size : Nat} (h : ∀ cs ∈ css, cs.length = size) {i j : Nat} {cs : List Value} {u : Value} (hi : css[i]? = some cs) (hj : cs[j]? = some u) :
    css.flatten[i * size + j]? = some u := by
  induction css generalizing i with
  | nil => simp at hi
  | cons c css ih =>
    have hc := h c (by simp)
    cases i with
    | zero =>
      simp at hi; subst hi
      rw [List.flatten_cons, List.getElem?_append_left (by have := (List.getElem?_eq_some_iff.1 hj).1; simpa using this)]
      simpa using hj
    | succ i =>
      simp at hi
      rw [List.flatten_cons, List.getElem?_append_right (by rw [Nat.succ_mul]; omega)]
      have := ih (fun cs h' => h cs (by simp [h'])) hi
      rw [← this]; congr 1
      rw [Nat.succ_mul]; omega

section
variable {α : Type} {size e base : Nat} {R : World → (Nat → Prop) → List Value → α → Prop} {G : Nat → Prop}
theorem OwnG.nil (w : World) : OwnG size R e base w (.slice none 0 0) G [] :=
  ⟨[], rfl, World.ownsRow_nil _ _ _ _, by simp, by simp⟩
theorem OwnG.owns {w : World} {v : Value} {l : List α} (h : OwnG size R e base w v G l) : ∃ xs, w.ownsRow base e size v l.length xs :=
  let ⟨css, _, h2, _⟩ := h; ⟨css.flatten, h2⟩
theorem OwnG.block {w : World} {v : Value} {l : List α} (h : OwnG size R e base w v G l) : ∀ k, v.ownBlock = some k → base ≤ k ∧ k < w.heap.size :=
  let ⟨css, _, h2, _⟩ := h; h2.lt
/-- The row as a plain slice. -/
theorem OwnG.sl (hR : Good R) {F : Nat → Prop} {w : World} {v : Value} {l : List α} (h : OwnG size R e base w v G l) (hF : ∀ b, G b → F b) (hv : ∀ b, base ≤ b → b < w.heap.size → F b) : Sl size R w F v l := by
  obtain ⟨css, hlen, hown, hsz, hel⟩ := h
  have hown' := hown
  obtain ⟨hx, ⟨rfl, h0⟩ | ⟨g, cap, cur, rfl, hb, hg, hnc, hcm, hcs, htake⟩⟩ := hown
  · have : l = [] := List.eq_nil_of_length_eq_zero h0
    subst this
    exact Sl.nil _ _
  · have hlt : g < w.heap.size := (hown'.lt g rfl).2
    refine ⟨_, cap, rfl, hnc, hcm, fun h0 => ⟨g, 0, rfl, hv g hb hlt, fun i a hi => ?_⟩⟩
    have hil : i < l.length := (List.getElem?_eq_some_iff.1 hi).1
    have hci : css[i]? = some (css[i]'(by omega)) := List.getElem?_eq_getElem _
    refine ⟨css[i]'(by omega), hsz _ (List.getElem_mem _), fun j u hu => ?_, hR.keep (hel i a _ hi hci) (Same.refl _ _) hF⟩
    have := hown'.cells (g := g) rfl (i * size + j) u (flatten_get hsz hci hu)
    have hadd : (⟨g, 0, none⟩ : Addr).add (i * size + j) = ⟨g, i * size + j, none⟩ := by unfold Addr.add; split <;> simp_all
    rw [hadd] at this
    rw [Nat.zero_add]; exact this
/-- The row while the world turns elsewhere. -/
theorem OwnG.keep (hR : Good R) {w w' : World} {G' : Nat → Prop} {v : Value} {l : List α} (h : OwnG size R e base w v G l) (hG : Same G w w') (hGG : ∀ b, G b → G' b) (hs : ∀ b, v.ownBlock = some b → w'.heap[b]? = w.heap[b]?) : OwnG size R e base w' v G' l := by
  obtain ⟨css, hlen, hown, hsz, hel⟩ := h
  refine ⟨css, hlen, ?_, hsz, fun i a cs hi hc => hR.keep (hel i a cs hi hc) hG hGG⟩
  refine ⟨hown.1, ?_⟩
  rcases hown.2 with h0 | ⟨g, cap, cur, hv, hb, hg, hrest⟩
  · exact .inl h0
  · exact .inr ⟨g, cap, cur, hv, hb, (hs g (by rw [hv]; rfl)).trans hg, hrest⟩
theorem OwnG.below (hR : Good R) {w w' : World} {v : Value} {l : List α} (h : OwnG size R e base w v G l) (hb : Below w.heap.size w w') (hG : ∀ b, G b → b < w.heap.size) : OwnG size R e base w' v G l :=
  h.keep hR (Same.below hb hG) (fun _ h => h) fun b hv => hb.block b (h.block b hv).2
/-- Two rows of different element types lie apart. -/
theorem OwnG.apart {β : Type} {size' e' base' : Nat} {R' : World → (Nat → Prop) → List Value → β → Prop} {G' : Nat → Prop} {w : World} {v v' : Value} {l : List α} {l' : List β} (h : OwnG size R e base w v G l) (h' : OwnG size' R' e' base' w v' G' l') (hne : e ≠ e') :
    ∀ b, v.ownBlock = some b → v'.ownBlock ≠ some b := by
  obtain ⟨_, _, ⟨_, ho⟩, _⟩ := h
  obtain ⟨_, _, ⟨_, ho'⟩, _⟩ := h'
  intro b hb hb'
  rcases ho with ⟨rfl, _⟩ | ⟨g, cap, cur, rfl, _, hg, _⟩
  · simp [Value.ownBlock] at hb
  · rcases ho' with ⟨rfl, _⟩ | ⟨g', cap', cur', rfl, _, hg', _⟩
    · simp [Value.ownBlock] at hb'
    · simp only [Value.ownBlock, Option.some.injEq] at hb hb'
      subst hb; subst hb'
      rw [hg] at hg'
      simp only [Option.some.injEq, Obj.cells.injEq] at hg'
      exact hne hg'.2.1
/-- One element more, behind append's law. -/
theorem OwnG.snoc (hR : Good R) {w w' : World} {v' : Value} {l : List α} {a : α} {css : List (List Value)} {cs : List Value} (hlen : css.length = l.length) (hsz : ∀ cs ∈ css, cs.length = size)
    (hel : ∀ (i : Nat) (a : α) (cs : List Value), l[i]? = some a → css[i]? = some cs → R w G cs a)
    (hown' : w'.ownsRow base e size v' (l.length + 1) (css.flatten ++ cs)) (hG : Same G w w') (hcs : cs.length = size) (ha : R w G cs a) : OwnG size R e base w' v' G (l ++ [a]) := by
  refine ⟨css ++ [cs], by simp [hlen], by simpa using hown', fun c hc => ?_, fun i x c hi hc => ?_⟩
  · rcases List.mem_append.1 hc with h | h
    · exact hsz c h
    · simp at h; subst h; exact hcs
  · by_cases hil : i < l.length
    · rw [List.getElem?_append_left hil] at hi
      rw [List.getElem?_append_left (by omega)] at hc
      exact hR.keep (hel i x c hi hc) hG fun _ h => h
    · have hi' : i < (l ++ [a]).length := (List.getElem?_eq_some_iff.1 hi).1
      have : i = l.length := by simp at hi'; omega
      subst this
      rw [List.getElem?_append_right (Nat.le_refl _)] at hi
      rw [List.getElem?_append_right (by omega), hlen] at hc
      simp at hi hc
      subst hi; subst hc
      exact hR.keep ha hG fun _ h => h

theorem OwnSl.nil (w : World) : OwnSl size R e base w (.slice none 0 0) [] := OwnG.nil w
theorem OwnSl.sl (hR : Good R) {w : World} {v : Value} {l : List α} (h : OwnSl size R e base w v l) : Sl size R w (fun b => base ≤ b ∧ b < w.heap.size) v l :=
  OwnG.sl hR h (fun _ h => h.elim) fun _ h1 h2 => ⟨h1, h2⟩
theorem OwnSl.block {w : World} {v : Value} {l : List α} (h : OwnSl size R e base w v l) : ∀ k, v.ownBlock = some k → base ≤ k ∧ k < w.heap.size := OwnG.block h
theorem OwnSl.below (hR : Good R) {w w' : World} {v : Value} {l : List α} (h : OwnSl size R e base w v l) (hb : Below w.heap.size w w') : OwnSl size R e base w' v l :=
  OwnG.below hR h hb fun _ h => h.elim
theorem OwnSl.grown (hR : Good R) {w w' : World} {row : Option Nat} {v : Value} {l : List α} (h : OwnSl size R e base w v l) (hg : w.grownBy w' row) (hne : ∀ b, v.ownBlock = some b → row ≠ some b) : OwnSl size R e base w' v l :=
  OwnG.keep hR h (fun _ h => h.elim) (fun _ h => h) fun b hv => hg.block b (h.block b hv).2 fun e => hne b hv e.symm
theorem OwnSl.alloc (hR : Good R) {w : World} {v : Value} {l : List α} (h : OwnSl size R e base w v l) (o : Obj) : OwnSl size R e base (w.alloc o) v l :=
  h.below hR ((Below.refl _ _).alloc (Nat.le_refl _) o)
theorem OwnG.alloc (hR : Good R) {w : World} {v : Value} {l : List α} (h : OwnG size R e base w v G l) (hG : ∀ b, G b → b < w.heap.size) (o : Obj) : OwnG size R e base (w.alloc o) v G l :=
  h.below hR ((Below.refl _ _).alloc (Nat.le_refl _) o) hG
end

/-- What the program's table says of a slice type and its element type. -/
def ElemOf (P : Program) (t e : TypeId) (size bytes : Nat) : Prop :=
  ∃ i z, P.underlying t = some (.slice e) ∧ P.info? e = some i ∧ i.zero = some z ∧ i.size = size ∧ i.bytes = bytes ∧ z.cells.size = size ∧ 0 < size
theorem ElemOf.mk {P : Program} {t e : TypeId} {size bytes : Nat} {z : Value} (h1 : P.underlying t = some (.slice e)) (h2 : (P.info? e).map (fun i => (i.zero, i.size, i.bytes)) = some (some z, size, bytes))
    (h3 : z.cells.size = size) (h4 : 0 < size) : ElemOf P t e size bytes := by
  obtain ⟨i, a, b, c, d⟩ := info_parts h2
  exact ⟨i, z, h1, a, b, c, d, h3, h4⟩

theorem cells_new (w : World) (cs : List Value) (e : TypeId) (fr : Nat × Nat) : ∀ j u, cs[j]? = some u → (w.alloc (.cells cs.toArray e fr)).cell? ((⟨w.heap.size, 0, none⟩ : Addr).add j) = some u := by
  intro j u hu
  have hadd : (⟨w.heap.size, 0, none⟩ : Addr).add j = ⟨w.heap.size, j, none⟩ := by unfold Addr.add; split <;> simp_all
  rw [hadd, cell_of_row _ _ j cs.toArray e fr (heap_alloc_new w _)]
  simpa using hu
theorem Sl.at1 {α : Type} {R : World → (Nat → Prop) → List Value → α → Prop} {w : World} {F : Nat → Prop} {A : Option Addr} {n c : Nat} {l : List α} (h : Sl 1 R w F (.slice A n c) l) {k : Nat} (hk : k < l.length) :
    ∃ b o u, A = some ⟨b, o, none⟩ ∧ F b ∧ w.cell? ⟨b, o + k, none⟩ = some u ∧ R w F [u] l[k] := by
  obtain ⟨b, o, cs, h1, h2, h3, h4, h5⟩ := h.at hk
  match cs, h3 with
  | [u], _ => exact ⟨b, o, u, h1, h2, by have := h4 0 u rfl; rwa [Nat.mul_one, Nat.add_zero] at this, h5⟩
theorem Sl.str_at {w : World} {F : Nat → Prop} {A : Option Addr} {n c : Nat} {l : List (List UInt8)} (h : Sl 1 elStr w F (.slice A n c) l) {k : Nat} (hk : k < l.length) :
    ∃ b o, A = some ⟨b, o, none⟩ ∧ F b ∧ w.cell? ⟨b, o + k, none⟩ = some (.string (S l[k])) := by
  obtain ⟨b, o, u, h1, h2, h3, h4⟩ := h.at1 hk
  have : u = .string (S l[k]) := by injection h4
  subst this
  exact ⟨b, o, h1, h2, h3⟩
theorem oneCells {cs : List Value} (h : cs.all (·.oneCell') = true) : ∀ u ∈ cs, u.oneCell' = true := List.all_eq_true.1 h
/-- append of one element onto a row of the call's own. -/
theorem wpList_append_g {P : Program} (w : World) {ops : Array Oper} {rest : List Oper} {o : Oper} {a : Act} {Q : Exit → Act → World → Prop} (hgd : o.guard = none) (s x : Operand) (t : TypeId)
    (ho : o.op = .call { callee := .builtin .append, args := #[s, x], argTypes := #[t, t] })
    {e : TypeId} {size bytes : Nat} (hE : ElemOf P t e size bytes) {α : Type} {R : World → (Nat → Prop) → List Value → α → Prop} (hR : Good R)
    (base : Nat) (v : Value) (G : Nat → Prop) (l : List α) (hs : a.eval s = v) (hown : OwnG size R e base w v G l)
    (ad : Addr) (c : Nat) (cs : List Value) (hx : a.eval x = .slice (some ad) 1 c) (el : α) (hl : cs.length = size) (hcell : ∀ j u, cs[j]? = some u → w.cell? (ad.add j) = some u)
    (h1 : ∀ u ∈ cs, u.oneCell' = true) (hG : ∀ b, G b → b < w.heap.size ∧ v.ownBlock ≠ some b) (hel : R w G cs el)
    (h63 : l.length + 1 ≤ maxLen) (hbytes : (l.length + 1) * bytes ≤ 140737488355328) (hbase : base ≤ w.heap.size)
    (h : ∀ v' w', OwnG size R e base w' v' G (l ++ [el]) → w.grownBy w' v.ownBlock → (v'.ownBlock = v.ownBlock ∨ v'.ownBlock = some w.heap.size) → wpList P ops Q rest (a.put o.dst v') w') : wpList P ops Q (o :: rest) a w := by
  obtain ⟨i, z, e1, e2, e3, e4, e5, e6, e7⟩ := hE
  obtain ⟨css, hlen, ho', hsz, hel'⟩ := hown
  obtain ⟨v', w', hr, h2, h3, _, h4⟩ := run_append_own_at (P := P) w base t o.type e i z size bytes e1 e2 e3 e4 e5 e6 e7 v l.length css.flatten ho' ad 1 c cs (by omega) hcell h1 h63 hbytes hbase
  refine wpList_plain hgd fun K hK => ?_
  unfold Oper.wp execOp
  simp only [ho, resolve, invoke, builtin, Sem.run_bind, Sem.run_pure, Result.andThen_ok, List.map_toArray, List.map_cons, List.map_nil, hs, hx, hr]
  exact hK _ _ (h v' w' (OwnG.snoc hR hlen hsz hel' h2 (Same.grown h3 fun b hb => ⟨(hG b hb).1, fun e => (hG b hb).2 e.symm⟩) hl hel) h3 h4)
theorem wpList_append_sl {P : Program} (w : World) {ops : Array Oper} {rest : List Oper} {o : Oper} {a : Act} {Q : Exit → Act → World → Prop} (hgd : o.guard = none) (s x : Operand) (t : TypeId)
    (ho : o.op = .call { callee := .builtin .append, args := #[s, x], argTypes := #[t, t] })
    {e : TypeId} {size bytes : Nat} (hE : ElemOf P t e size bytes) {α : Type} {R : World → (Nat → Prop) → List Value → α → Prop} (hR : Good R)
    (base : Nat) (v : Value) (l : List α) (hs : a.eval s = v) (hown : OwnSl size R e base w v l)
    (ad : Addr) (c : Nat) (cs : List Value) (hx : a.eval x = .slice (some ad) 1 c) (el : α) (hl : cs.length = size) (hcell : ∀ j u, cs[j]? = some u → w.cell? (ad.add j) = some u)
    (h1 : ∀ u ∈ cs, u.oneCell' = true) (hel : R w NoG cs el)
    (h63 : l.length + 1 ≤ maxLen) (hbytes : (l.length + 1) * bytes ≤ 140737488355328) (hbase : base ≤ w.heap.size)
    (h : ∀ v' w', OwnSl size R e base w' v' (l ++ [el]) → w.grownBy w' v.ownBlock → (v'.ownBlock = v.ownBlock ∨ v'.ownBlock = some w.heap.size) → wpList P ops Q rest (a.put o.dst v') w') : wpList P ops Q (o :: rest) a w :=
  wpList_append_g w hgd s x t ho hE hR base v NoG l hs hown ad c cs hx el hl hcell h1 (fun _ h => h.elim) hel h63 hbytes hbase h
/-- Behind such an append nothing below the row has turned. -/
theorem below_own {α : Type} {size e base B : Nat} {R : World → (Nat → Prop) → List Value → α → Prop} {G : Nat → Prop} {W w w' : World} {v : Value} {l : List α} (hb : Below B W w) (ho : OwnG size R e base w v G l) (hg : w.grownBy w' v.ownBlock) (h1 : B ≤ base) (h2 : base ≤ w.heap.size) : Below B W w' :=
  hb.grown hg (by omega) fun k hk => by have := ho.block k hk; omega

end

section
/-! part B -/
open Go.RowKit

/-- Block g is just these cells, none frozen. -/
def Blk (w : World) (g : Nat) (t : TypeId) (cs : Array Value) : Prop := w.heap[g]? = some (.cells cs t (0, 0))
section
variable {w w' : World} {g : Nat} {t : TypeId} {cs : Array Value}
theorem Blk.lt (h : Blk w g t cs) : g < w.heap.size := by
  rcases Nat.lt_or_ge g w.heap.size with hlt | hge
  · exact hlt
  · unfold Blk at h; rw [Array.getElem?_eq_none hge] at h; cases h
theorem Blk.cell (h : Blk w g t cs) (i : Nat) : w.cell? ⟨g, i, none⟩ = cs[i]? := Lib.cell_of_heap h i
theorem Blk.frozen (h : Blk w g t cs) (i : Nat) : w.frozen? ⟨g, i, none⟩ = false := Lib.frozen_of_heap h i
theorem Blk.new (w : World) (t : TypeId) (cs : Array Value) : Blk (w.alloc (.cells cs t)) w.heap.size t cs := heap_alloc_new w _
theorem Blk.set_ (h : Blk w g t cs) (i : Nat) (u : Value) : Blk (w.setCell ⟨g, i, none⟩ u) g t (cs.setIfInBounds i u) := by
  unfold Blk at h ⊢
  simp [World.setCell, Array.getElem?_modify, h]
theorem Blk.far (h : Blk w g t cs) {p : Addr} (hp : g ≠ p.block) (u : Value) : Blk (w.setCell p u) g t cs := (Below.heap_setCell w p u g hp).trans h
theorem Blk.below {B : Nat} (h : Blk w g t cs) (hb : Below B w w') (hg : g < B) : Blk w' g t cs := (hb.block g hg).trans h
theorem Blk.alloc (h : Blk w g t cs) (o : Obj) : Blk (w.alloc o) g t cs := (Below.heap_alloc w o g h.lt).trans h
theorem Blk.keep {F : Nat → Prop} (h : Blk w g t cs) (hs : Same F w w') (hg : F g) : Blk w' g t cs := (hs g hg).trans h
theorem Blk.grown {row : Option Nat} (h : Blk w g t cs) (hb : w.grownBy w' row) (hg : row ≠ some g) : Blk w' g t cs := (hb.block g h.lt fun e => hg e.symm).trans h
end
/-- Only block g, and what is new, has turned. -/
def Only (g : Nat) (w w' : World) : Prop := w.grownBy w' (some g)
section
variable {a w w' : World} {g B : Nat}
theorem Only.refl (g : Nat) (w : World) : Only g w w := World.grownBy.refl w _
theorem Only.trans (h : Only g a w) (k : Only g w w') : Only g a w' :=
  ⟨k.os.trans h.os, k.tape.trans h.tape, k.output.trans h.output, Nat.le_trans h.size k.size, fun i hi hne => (k.block i (Nat.lt_of_lt_of_le hi h.size) hne).trans (h.block i hi hne)⟩
theorem Only.alloc (h : Only g a w) (o : Obj) : Only g a (w.alloc o) :=
  ⟨h.os, h.tape, h.output, Nat.le_trans h.size (by simp), fun i hi hne => (Below.heap_alloc w o i (Nat.lt_of_lt_of_le hi h.size)).trans (h.block i hi hne)⟩
theorem Only.setCell (h : Only g a w) {p : Addr} (hp : p.block = g ∨ a.heap.size ≤ p.block) (u : Value) : Only g a (w.setCell p u) :=
  ⟨h.os, h.tape, h.output, by simpa [World.setCell] using h.size, fun i hi hne => (Below.heap_setCell w p u i (by
    rintro rfl
    rcases hp with hp | hp
    · exact hne (by rw [hp])
    · omega)).trans (h.block i hi hne)⟩
theorem Only.drew (h : Only g a w) : Only g a w.drew := ⟨h.os, h.tape, h.output, h.size, h.block⟩
theorem Only.drewN (h : Only g a w) (n : Nat) : Only g a (w.drewN n) := ⟨h.os, h.tape, h.output, h.size, h.block⟩
theorem Only.of_below (h : Below a.heap.size a w) : Only g a w := ⟨h.os, h.tape, h.output, h.size, fun i hi _ => h.block i hi⟩
theorem Only.below (h : Only g a w) (hg : B ≤ g) (hB : B ≤ a.heap.size) : Below B a w := ⟨h.os, h.tape, h.output, h.size, fun k hk => h.block k (by omega) (by intro e; injection e with e; omega)⟩
theorem Only.same {F : Nat → Prop} (h : Only g a w) (hF : ∀ b, F b → b < a.heap.size ∧ b ≠ g) : Same F a w := fun b hb => h.block b (hF b hb).1 (by intro e; injection e with e; exact (hF b hb).2 e)
end
theorem Below.drewN_ {B : Nat} {a w : World} (h : Below B a w) (n : Nat) : Below B a (w.drewN n) := ⟨h.os, h.tape, h.output, h.size, h.block⟩
theorem Sl.take {α : Type} {size : Nat} {R : World → (Nat → Prop) → List Value → α → Prop} {w : World} {F : Nat → Prop} {A : Option Addr} {n c k : Nat} {l : List α} (h : Sl size R w F (.slice A n c) l) (hk : k ≤ l.length) : Sl size R w F (.slice A k c) (l.take k) := by
  obtain ⟨A', c', hv, hl, hc, hA⟩ := h
  injection hv with h1 h2 h3
  subst h1; subst h3
  have hlen : (l.take k).length = k := by simp; omega
  refine ⟨A, c, by rw [hlen], by omega, hc, fun h0 => ?_⟩
  obtain ⟨b, o, e, hF, hel⟩ := hA (by omega)
  refine ⟨b, o, e, hF, fun i a hi => ?_⟩
  rw [List.getElem?_take] at hi
  split at hi
  · exact hel i a hi
  · cases hi

theorem Blk.four {w : World} {g : Nat} {t : TypeId} {a b c d : Value} (h : Blk w g t #[a, b, c, d]) :
    w.cell? ⟨g, 0, none⟩ = some a ∧ w.cell? ⟨g, 1, none⟩ = some b ∧ w.cell? ⟨g, 2, none⟩ = some c ∧ w.cell? ⟨g, 3, none⟩ = some d ∧ w.frozen? ⟨g, 0, none⟩ = false ∧ w.frozen? ⟨g, 1, none⟩ = false ∧ w.frozen? ⟨g, 2, none⟩ = false ∧ w.frozen? ⟨g, 3, none⟩ = false :=
  ⟨h.cell 0, h.cell 1, h.cell 2, h.cell 3, h.frozen 0, h.frozen 1, h.frozen 2, h.frozen 3⟩
theorem Blk.three {w : World} {g : Nat} {t : TypeId} {a b c : Value} (h : Blk w g t #[a, b, c]) :
    w.cell? ⟨g, 0, none⟩ = some a ∧ w.cell? ⟨g, 1, none⟩ = some b ∧ w.cell? ⟨g, 2, none⟩ = some c ∧ w.frozen? ⟨g, 0, none⟩ = false ∧ w.frozen? ⟨g, 1, none⟩ = false ∧ w.frozen? ⟨g, 2, none⟩ = false :=
  ⟨h.cell 0, h.cell 1, h.cell 2, h.frozen 0, h.frozen 1, h.frozen 2⟩
theorem Blk.drew {w : World} {g : Nat} {t : TypeId} {cs : Array Value} (h : Blk w g t cs) : Blk w.drew g t cs := h
end

section
/-! part O -/
open Go.RowKit

abbrev Tab := Nat → World → Value → Prop
def Holds (V : Tab) (a : Act) (w : World) (d : Nat) : Prop := ∃ v, a.tmps[d]? = some v ∧ V d w v
/-- An operation yields a value of its slot's kind and turns nothing that was there. -/
def Meets (P : Program) (V : Tab) (o : Oper) (a : Act) (w : World) : Prop :=
  ∀ d, o.dst = some d → ∀ K Q, (∀ v w', Below w.heap.size w w' → V d w' v → K (a.put o.dst v) w') → o.wp P a w K Q

structure FreeR (P : Program) (ops : Array Oper) (V : Tab) (G : World → Prop) (needs : Nat → List Nat) (init : List Nat) (N : Nat) : Prop where
  back : ∀ (i : Nat) (o : Oper), ops[i]? = some o → ∀ e ∈ o.after, e.on < i
  dst : ∀ (i : Nat) (o : Oper), ops[i]? = some o → o.guard = none ∧ ∃ d, o.dst = some d ∧ d < N
  need : ∀ (i : Nat) (o : Oper), ops[i]? = some o → ∀ d ∈ needs i, d ∈ init ∨ ∃ e ∈ o.after, Region.binds .any e = true ∧ ∃ p, ops[e.on]? = some p ∧ p.dst = some d
  sV : ∀ d w w' v, V d w v → Below w.heap.size w w' → V d w' v
  sG : ∀ w w', G w → Below w.heap.size w w' → G w'
  step : ∀ (i : Nat) (o : Oper), ops[i]? = some o → ∀ a w, G w → (∀ x ∈ needs i, Holds V a w x) → Meets P V o a w

structure RIn (ops : Array Oper) (V : Tab) (G : World → Prop) (init : List Nat) (a0 : Act) (w0 : World) (listed : Array Bool) (a : Act) (w : World) : Prop where
  size : a.tmps.size = a0.tmps.size
  dfr : a.defers = a0.defers
  g : G w
  below : Below w0.heap.size w0 w
  ini : ∀ d ∈ init, Holds V a w d
  done : ∀ (i : Nat) (o : Oper) (d : Nat), ops[i]? = some o → listed.getD i false = true → o.dst = some d → Holds V a w d
  keep : ∀ k, (∀ (i : Nat) (o : Oper), ops[i]? = some o → o.dst ≠ some k) → a.tmps[k]? = a0.tmps[k]?

section
variable {P : Program} {ops : Array Oper} {V : Tab} {G : World → Prop} {needs : Nat → List Nat} {init : List Nat} {N : Nat} {Q : Exit → Act → World → Prop} {a0 : Act} {w0 : World}

theorem put_get {a : Act} {d k : Nat} {v : Value} : (a.put (some d) v).tmps[k]? = if d = k ∧ k < a.tmps.size then some v else a.tmps[k]? := by
  unfold Act.put
  dsimp only
  rw [Array.getElem?_setIfInBounds]
  by_cases h : d = k
  · subst h
    by_cases h2 : d < a.tmps.size
    · simp [h2]
    · rw [if_pos rfl, if_neg h2, if_neg (by simp [h2]), Array.getElem?_eq_none (Nat.not_lt.1 h2)]
  · simp [h]
theorem Holds.put {a : Act} {w w' : World} {d k : Nat} {v : Value} (hsV : ∀ d w w' v, V d w v → Below w.heap.size w w' → V d w' v) (h : Holds V a w k) (hb : Below w.heap.size w w') (hv : V d w' v) : Holds V (a.put (some d) v) w' k := by
  obtain ⟨u, h1, h2⟩ := h
  unfold Holds
  rw [put_get]
  split
  · rename_i hc; obtain ⟨rfl, _⟩ := hc; exact ⟨v, rfl, hv⟩
  · exact ⟨u, h1, hsV _ _ _ _ h2 hb⟩
theorem count_set : ∀ (l : List Bool) (i : Nat), l[i]? = some false → (l.set i true).count false + 1 = l.count false := by
  intro l
  induction l with
  | nil => intro i h; simp at h
  | cons b l ih =>
    intro i h
    cases i with
    | zero => simp at h; subst h; simp
    | succ i =>
      simp at h
      have := ih i h
      rw [List.set_cons_succ, List.count_cons, List.count_cons]
      omega
theorem RIn.slot {listed : Array Bool} {a : Act} {w : World} (h : RIn ops V G init a0 w0 listed a w) (i : Nat) (o : Oper) (d : Nat) (ho : ops[i]? = some o) (hl : listed.getD i false = true) (hd : o.dst = some d) : Holds V a w d := h.done i o d ho hl hd

theorem eval_tmp {a : Act} {d : Nat} {v : Value} (h : a.tmps[d]? = some v) : a.eval (.tmp d) = v := by
  show a.tmps.getD d undef = v
  rw [Array.getD_eq_getD_getElem?, h]; rfl

theorem meets_value {o : Oper} {a : Act} {w : World} {v : Value} (hr : (execOp a.eval o).run P w = .ok (.value v) w) (hv : ∀ d, o.dst = some d → V d w v) : Meets P V o a w := by
  intro d hd K Q hK
  unfold Oper.wp
  rw [hr]
  exact hK v w (Below.refl _ _) (hv d hd)
theorem meets_field {o : Oper} {a : Act} {w : World} {s : TypeId} {x : Operand} {f : Nat} {p q : Addr} (ho : o.op = .fieldAddr s x f) (hx : a.eval x = .pointer (some p))
    (hr : (Instr.fieldAt s (.pointer (some p)) f).run P w = .ok (.pointer (some q)) w) (hv : ∀ d, o.dst = some d → V d w (.pointer (some q))) : Meets P V o a w := by
  refine meets_value (v := .pointer (some q)) ?_ hv
  unfold execOp
  simp only [ho, hx, Sem.run_bind, hr, Result.andThen_ok, Sem.run_pure]
theorem meets_load {o : Oper} {a : Act} {w : World} {t : TypeId} {x : Operand} {p : Addr} {v : Value} (ho : o.op = .load t x) (hx : a.eval x = .pointer (some p))
    (hr : (Instr.loadAt t (.pointer (some p))).run P w = .ok v w) (hv : ∀ d, o.dst = some d → V d w v) : Meets P V o a w := by
  refine meets_value (v := v) ?_ hv
  unfold execOp
  simp only [ho, hx, Sem.run_bind, hr, Result.andThen_ok, Sem.run_pure]
end
end
end Go.Proofs.YtjchapoggmipbaaGreatDoor

namespace Go.Proofs.YtjchapoggmipbaaGreatDoor
open Go.ChangeShapes Go.WideShapes Go.ChangeAt Go.RowKit

theorem own : ownKnob Tryz.prog.godebug = none := by kernel_rfl
theorem laidOut : laidOutB Tryz.prog = true := by kernel_rfl
theorem cellsStr : Tryz.prog.cellsOf 9 = 1 := by kernel_rfl
def tabFirst : Array Value := (Go.Pinned.utf8FirstZ.map fun z : Nat => Value.int .u8 z).toArray
def tabAccept : Array Value := ([128, 191, 160, 191, 128, 159, 144, 191, 128, 143, 0, 0, 0, 0, 0, 0, 0, 0, 0, 0, 0, 0, 0, 0, 0, 0, 0, 0, 0, 0, 0, 0].map fun z => Value.int .u8 z).toArray
def relay (cs : Array Value) : Obj → Obj
  | .cells _ t frozen => .cells cs t frozen
  | o => o
section
variable {H : Type} {enc : TypeId × Value → H} {P : Program}
/-- The row's last step where only what is new has turned. -/
theorem post_of_below {f : Func} {s : ChangeSpec} {apart fresh handsOn again : Bool} {W W' : World} {args : Array Value} {v : Value} {ds gs : List (DataW H)} {before pa pv : List MemPlace}
    (hW : DataW.Whole enc P f.params.toList s.vars apart W args.toList ds gs before)
    (hres : ∀ (b : Nat) (sp : Nat → Bool) (hd : Bool), DataW.TrodAll enc P W' b sp hd f.resultTypes.toList (v.resultList f.resultTypes.size) (s.fn H (ds ++ gs)).results [])
    (hargs : ∀ sp : Nat → Bool, (∀ p ∈ before, sp p.block = true) → DataW.TrodAll enc P W' 0 sp true f.params.toList args.toList (s.fn H (ds ++ gs)).args pa)
    (hvars : ∀ sp : Nat → Bool, (∀ p ∈ before, sp p.block = true) → DataW.TrodVars enc P W' sp s.vars (s.fn H (ds ++ gs)).vars pv)
    (hps : before = pa ++ pv) (hb : Below W.heap.size W W')
    (hok : ∀ (j : Nat) (t : TypeId) (r : Value), f.resultTypes[j]? = some t → (v.resultList f.resultTypes.size)[j]? = some r → Value.okWide P W' .any 0 t r) :
    s.post enc P f apart fresh handsOn again W args v W' := by
  have hlt : ∀ p ∈ before, p.block < W.heap.size := fun p hp => hW.lt p hp
  have hold : ∀ p ∈ before, (fun b => decide (b < W.heap.size)) p.block = true := fun p hp => by simpa using hlt p hp
  refine ⟨ds, gs, before, [], pa, pv, hW, hres _ _ _, hargs _ hold, hvars _ hold, World.keptBut_mono (fun p hp => ⟨hp, ?_⟩) (hb.frame (· ∈ before)), fun _ => ?_⟩
  · rw [hps, List.mem_append] at hp
    exact Or.inr hp
  · obtain ⟨_, _, _, _, _, hz, hn⟩ := hW
    refine ⟨hok, _, _, ([] ++ pa) ++ pv, ⟨[] ++ pa, pv, trodAll_append (hargs _ (fun _ _ => rfl)) (hres _ _ _), hvars _ (fun _ _ => rfl), rfl, ?_, ?_⟩, ?_⟩
    · intro b off hp
      have hin : MemPlace.cell b off ∈ before := by rw [hps]; simpa using hp
      rw [hb.frozen (hlt _ hin)]
      exact hz b off hin
    · intro ha
      have := hn ha
      rw [hps] at this
      simpa using this
    · intro p hp _
      rw [hps]
      simpa using hp
/-- An argument reads behind the call as it did. -/
theorem trod_again {t : TypeId} (hl : laidOutB P = true) (hr : P.readableRec t = true) (hrow : t < P.types.size) {W W' : World} {v : Value} {d : DataW H} {ps : List MemPlace}
    (h : DataW.Trod enc P W 0 (fun _ => true) true t v d ps) (hb : Below W.heap.size W W') (hlt : ∀ x ∈ ps, x.block < W.heap.size) {sp : Nat → Bool} (hsp : ∀ p ∈ ps, sp p.block = true) :
    DataW.Trod enc P W' 0 sp true t v d ps :=
  WideElems.Trod_stays hl hr hrow h (fun x hx => hb.same (hlt x hx)) hsp
end
end Go.Proofs.YtjchapoggmipbaaGreatDoor

namespace Go.Proofs.YtjchapoggmipbaaGreatDoor
section
/-! part P1 -/
def whiteB (c : UInt8) : Bool := c == 9 || c == 32
def printedB (c : UInt8) : Bool := 32 ≤ c && c ≤ 126
def wordB (c : UInt8) : Bool := 32 < c && c ≤ 126 && c != 34 && c != 59

theorem drop_get {α : Type} {l : List α} {k : Nat} (h : k < l.length) : l.drop k = l[k] :: l.drop (k + 1) := List.drop_eq_getElem_cons h
theorem drop_cons (s : ByteArray) (k : Nat) (h : k < s.size) : s.data.toList.drop k = s[k] :: s.data.toList.drop (k + 1) := by
  rw [List.drop_eq_getElem_cons (by simpa using h)]; rfl
/-- The rest of a quoted string: what is left of the line, the index of its first byte, what was read; the text, the index behind it, true; or the index of the wrong byte, false. -/
def quotedS : List UInt8 → Nat → List UInt8 → List UInt8 × Nat × Bool
  | [], j, _ => ([], j, false)
  | c :: l, j, acc =>
    if c = 34 then
      match l with
      | [] => (acc, j + 1, true)
      | d :: l' => if d = 34 then quotedS l' (j + 2) (acc ++ [34]) else (acc, j + 1, true)
    else if printedB c then quotedS l (j + 1) (acc ++ [c]) else ([], j, false)

section
variable (s : ByteArray) (j : Nat) (acc : List UInt8)
end

structure Fld where
  text : List UInt8
  col : Int
  quoted : Bool
deriving DecidableEq
structure Lin where
  num : Int
  fields : List Fld
deriving DecidableEq
structure Dia where
  line : Int
  col : Int
  code : Int
deriving DecidableEq

/-- What is left of a line (its first byte has index i), whether a quoted string has just ended, the fields so far; the fields, and the column of the byte that cannot be accepted (0: none). -/
def fieldsF : Nat → List UInt8 → Nat → Bool → List Fld → List Fld × Nat
  | 0, _, _, _, out => (out, 0)
  | _, [], _, _, out => (out, 0)
  | n + 1, c :: l, i, after, out =>
    if whiteB c then fieldsF n l (i + 1) false out
    else if c = 59 then (out, 0)
    else if after then ([], i + 1)
    else if c = 34 then
      if (quotedS l (i + 1) []).2.2 then fieldsF n (l.drop ((quotedS l (i + 1) []).2.1 - (i + 1))) (quotedS l (i + 1) []).2.1 true (out ++ [⟨(quotedS l (i + 1) []).1, (i : Int) + 1, true⟩])
      else ([], (quotedS l (i + 1) []).2.1 + 1)
    else if ((c :: l).takeWhile wordB).length = 0 ∨ ((c :: l).dropWhile wordB).head? = some 34 then ([], i + ((c :: l).takeWhile wordB).length + 1)
    else fieldsF n ((c :: l).dropWhile wordB) (i + ((c :: l).takeWhile wordB).length) false (out ++ [⟨(c :: l).takeWhile wordB, (i : Int) + 1, false⟩])

def fieldsS (l : List UInt8) : List Fld × Nat := fieldsF l.length l 0 false []
section
variable (s : ByteArray) (i : Nat) (after : Bool) (out : List Fld)
end

section
variable (s : ByteArray) (k : Nat) (out : List Fld)
end

/-- The pieces between the bytes c. -/
def pieces (c : UInt8) : List UInt8 → List (List UInt8)
  | [] => [[]]
  | b :: l => if b = c then [] :: pieces c l else match pieces c l with | [] => [[b]] | p :: ps => (b :: p) :: ps
theorem pieces_miss (c : UInt8) (l : List UInt8) (h : Lib.index l [c] = -1) : pieces c l = [l] := by
  induction l with
  | nil => rfl
  | cons b l ih =>
    rw [Lib.index] at h
    by_cases hb : b = c
    · subst hb; simp at h
    · have hp : [c].isPrefixOf (b :: l) = false := by
        have : (c == b) = false := beq_eq_false_iff_ne.2 (Ne.symm hb)
        simp [List.isPrefixOf, this]
      rw [hp] at h
      simp only [Bool.false_eq_true, if_false] at h
      split at h
      · rename_i hm
        rw [pieces, if_neg hb, ih (by simpa using hm)]
      · have := Lib.index_ge l [c]; omega
theorem pieces_hit (c : UInt8) (l : List UInt8) (i : Nat) (h : Lib.index l [c] = i) : pieces c l = l.take i :: pieces c (l.drop (i + 1)) := by
  induction l generalizing i with
  | nil => simp [Lib.index] at h
  | cons b l ih =>
    rw [Lib.index] at h
    by_cases hb : b = c
    · subst hb
      have : i = 0 := by simp at h; omega
      subst this
      simp [pieces]
    · have hp : [c].isPrefixOf (b :: l) = false := by
        have : (c == b) = false := beq_eq_false_iff_ne.2 (Ne.symm hb)
        simp [List.isPrefixOf, this]
      rw [hp] at h
      simp only [Bool.false_eq_true, if_false] at h
      split at h
      · omega
      · rename_i hm
        have hge := Lib.index_ge l [c]
        have hne : Lib.index l [c] ≠ -1 := by simpa using hm
        obtain ⟨j, hj⟩ : ∃ j : Nat, Lib.index l [c] = j := ⟨(Lib.index l [c]).toNat, by omega⟩
        have : i = j + 1 := by omega
        subst this
        rw [pieces, if_neg hb, ih j hj]
        simp
theorem splitB_pieces (c : UInt8) : ∀ (k : Nat) (s : ByteArray), Lib.countB s ⟨#[c]⟩ = k → (Lib.splitB ⟨#[c]⟩ 0 k s).map (·.data.toList) = pieces c s.data.toList := by
  intro k
  induction k with
  | zero =>
    intro s hk
    have hi : Lib.index s.data.toList [c] = -1 := by
      have hge := Lib.index_ge s.data.toList [c]
      rcases Int.lt_or_le (Lib.index s.data.toList [c]) 0 with h | h
      · omega
      · obtain ⟨i, hi⟩ : ∃ i : Nat, Lib.index s.data.toList [c] = i := ⟨(Lib.index s.data.toList [c]).toNat, by omega⟩
        have := Lib.countB_hit s ⟨#[c]⟩ i (Nat.le_refl 1) hi
        omega
    rw [Lib.splitB_zero, pieces_miss c _ hi]; rfl
  | succ k ih =>
    intro s hk
    have hge := Lib.index_ge s.data.toList [c]
    by_cases hm : Lib.index s.data.toList [c] = -1
    · have := Lib.countB_miss s ⟨#[c]⟩ hm; omega
    · obtain ⟨i, hi⟩ : ∃ i : Nat, Lib.index s.data.toList [c] = i := ⟨(Lib.index s.data.toList [c]).toNat, by omega⟩
      have hc := Lib.countB_hit s ⟨#[c]⟩ i (Nat.le_refl 1) hi
      have h1 : (⟨#[c]⟩ : ByteArray).size = 1 := rfl
      rw [h1] at hc
      rw [Lib.splitB_hit ⟨#[c]⟩ 0 k s i hi, pieces_hit c _ i hi, List.map_cons, h1, ih _ (by omega)]
      congr 1
      · rw [Lib.extract_data]; simp
      · rw [Lib.extract_data]
        congr 1
        rw [List.take_of_length_le (by simp)]

theorem pieces_len (c : UInt8) (l : List UInt8) : (pieces c l).length ≤ l.length + 1 := by
  induction l with
  | nil => simp [pieces]
  | cons b l ih =>
    rw [pieces]
    split
    · simp; omega
    · split
      · simp
      · rename_i h; rw [h] at ih; simp at ih ⊢; omega

def wordS (l : List UInt8) : Bool := l.all wordB && !l.isEmpty
/-- The bytes c of l, each replaced by n. -/
def subst1 (c : UInt8) (n : List UInt8) (l : List UInt8) : List UInt8 := l.flatMap fun b => if b = c then n else [b]
/-- A string as a quoted field. -/
def quoteS (l : List UInt8) : List UInt8 := 34 :: subst1 34 [34, 34] l ++ [34]
def fieldW (f : Fld) : List UInt8 := if f.quoted || !wordS f.text then quoteS f.text else f.text
def lineW : List Fld → Bool → List UInt8
  | [], _ => []
  | f :: fs, first => (if first then [] else [32]) ++ fieldW f ++ lineW fs false
end

section
/-! part P5 -/
/-- A cursor: the line, the index of the next field, the column of the field read last, the first error and its column. -/
structure Cur where
  num : Int
  fields : List Fld
  next : Nat
  last : Int
  err : Int
  pos : Int
def Cur.start (x : Lin) : Cur := ⟨x.num, x.fields, 0, 0, 0, 0⟩
def Cur.fail (c : Cur) (e col : Int) : Cur := if c.err = 0 then { c with err := e, pos := col } else c
def Cur.read (c : Cur) (q : Bool) : Cur × List UInt8 × Bool :=
  if c.err = 0 then
    match c.fields[c.next]? with
    | none => (c.fail 4 0, [], false)
    | some f => if f.quoted = q then ({ c with next := c.next + 1, last := f.col }, f.text, true) else (c.fail 4 f.col, [], false)
  else (c, [], false)
def Cur.more (c : Cur) : Bool := decide (c.err = 0) && decide (c.next < c.fields.length)
def Cur.ok (c : Cur) : Prop := c.next ≤ c.fields.length
/-- The text of the next word, read as a name. -/
def letterB (c : UInt8) : Bool := 65 ≤ c && c ≤ 90
def tailB (c : UInt8) : Bool := letterB c || c == 95 || c == 45 || (48 ≤ c && c ≤ 57)
/-- A name: a letter, then letters, digits and two signs; at most 16 bytes. -/
def nameS : List UInt8 → Bool
  | [] => false
  | c :: l => letterB c && l.all tailB && decide (l.length ≤ 15)
def Cur.keyword (c : Cur) (kw : List UInt8) : Cur × Bool :=
  ((if (c.read false).2.2 = true ∧ (c.read false).2.1 ≠ kw then (c.read false).1.fail 4 (c.read false).1.last else (c.read false).1), (c.read false).2.2 && decide ((c.read false).2.1 = kw))
/-- Where a text stands in a list: -1 if it does not. -/
def indexF (s : List UInt8) : List (List UInt8) → Nat → Int
  | [], _ => -1
  | a :: l, i => if a = s then i else indexF s l (i + 1)
def indexS (l : List (List UInt8)) (s : List UInt8) : Int := indexF s l 0
structure Sqd where
  name : List UInt8
  players : List (List UInt8)
  cap : Int
  kee : Int
def Cur.left (c : Cur) : Nat := c.fields.length - c.next + (if c.err = 0 then 1 else 0)
end

section
/-! part P8 -/
end

section
/-! part P9 -/
end

section
/-! part P10 -/
/-- A field that can be written and read back as it is. -/
def okF (f : Fld) : Bool := if f.quoted then f.text.all printedB else wordS f.text
end

section
/-! part P30 -/
def digB (c : UInt8) : Bool := 48 ≤ c && c ≤ 57
/-- The value of digits behind a value. -/
def valF (n : Nat) (l : List UInt8) : Nat := l.foldl (fun (n : Nat) (c : UInt8) => n * 10 + (c.toNat - 48)) n
def negB (l : List UInt8) : Bool := l.head? == some 45
/-- What stands behind the sign. -/
def bodyD (l : List UInt8) : List UInt8 := if negB l = true then l.drop 1 else l
def decB (l : List UInt8) : Bool := !(bodyD l).isEmpty && !((bodyD l).head? == some 48 && !(l == [48])) && (bodyD l).all digB
def valI (l : List UInt8) : Int := if negB l = true then -(valF 0 (bodyD l) : Int) else valF 0 (bodyD l)
/-- Does a number fit an int64? -/
def fitB (v : Int) : Bool := decide (-9223372036854775808 ≤ v) && decide (v ≤ 9223372036854775807)
/-- Number: the integer of a decimal from lo to hi; the error. -/
def numberS (l : List UInt8) (lo hi : Int) : Int × Int :=
  if decB l = false then (0, 4) else if fitB (valI l) = true ∧ lo ≤ valI l ∧ valI l ≤ hi then (valI l, 0) else (0, 2)
theorem digB_iff (c : UInt8) : digB c = true ↔ 48 ≤ c.toNat ∧ c.toNat ≤ 57 := by
  unfold digB; simp [UInt8.le_iff_toNat_le]
theorem valF_cons (n : Nat) (c : UInt8) (r : List UInt8) : valF n (c :: r) = valF (n * 10 + (c.toNat - 48)) r := by unfold valF; rw [List.foldl_cons]
theorem valF_ge : ∀ (r : List UInt8) (n : Nat), n ≤ valF n r := by
  intro r
  induction r with
  | nil => intro n; exact Nat.le_refl _
  | cons c r ih => intro n; rw [valF_cons]; have := ih (n * 10 + (c.toNat - 48)); omega
theorem parseUint10_cons (n : Nat) (c : UInt8) (r : List UInt8) : Lib.parseUint10 n (c :: r) = if 48 ≤ c.toNat ∧ c.toNat ≤ 57 then (if 1844674407370955162 ≤ n then .range else if 18446744073709551616 ≤ n * 10 + (c.toNat - 48) then .range else Lib.parseUint10 (n * 10 + (c.toNat - 48)) r) else .syntax := by simp only [Lib.parseUint10]
theorem parseUint10_val : ∀ (r : List UInt8) (n : Nat), r.all digB = true → n < 18446744073709551616 →
    (valF n r < 18446744073709551616 → Lib.parseUint10 n r = .ok (valF n r)) ∧ (18446744073709551616 ≤ valF n r → Lib.parseUint10 n r = .range) := by
  intro r
  induction r with
  | nil => intro n _ h; exact ⟨fun _ => rfl, fun h' => absurd h (Nat.not_lt.2 h')⟩
  | cons c r ih =>
    intro n hd h
    simp only [List.all_cons, Bool.and_eq_true] at hd
    have hc := (digB_iff c).1 hd.1
    have hg := valF_ge r (n * 10 + (c.toNat - 48))
    rw [parseUint10_cons, if_pos hc, valF_cons]
    generalize hm : n * 10 + (c.toNat - 48) = m at *
    by_cases h1 : 1844674407370955162 ≤ n
    · rw [if_pos h1]
      exact ⟨fun h' => absurd h' (by omega), fun _ => rfl⟩
    · rw [if_neg h1]
      by_cases h2 : 18446744073709551616 ≤ m
      · rw [if_pos h2]
        exact ⟨fun h' => absurd h' (by omega), fun _ => rfl⟩
      · rw [if_neg h2]
        exact ih m hd.2 (Nat.not_le.1 h2)
theorem parse_dec {l : List UInt8} (h : decB l = true) : Lib.parseIntB 64 l = if fitB (valI l) = true then .ok (valI l) else .range := by
  rw [Lib.parseIntB_64]
  unfold decB at h
  simp only [Bool.and_eq_true, Bool.not_eq_true'] at h
  obtain ⟨⟨h1, _⟩, h3⟩ := h
  have hfit : ∀ v : Int, fitB v = true ↔ -9223372036854775808 ≤ v ∧ v ≤ 9223372036854775807 := fun v => by unfold fitB; simp
  cases hn : negB l with
  | true =>
    have hbd : bodyD l = l.drop 1 := by unfold bodyD; rw [if_pos hn]
    have hvi : valI l = -(valF 0 (l.drop 1) : Int) := by unfold valI; rw [if_pos hn, hbd]
    rw [hbd] at h1 h3
    rw [hvi]
    clear hbd hvi
    match l, hn with
    | c :: r, hn =>
      have hc : c = 45 := by unfold negB at hn; simpa using hn
      subst hc
      simp only [List.drop_succ_cons, List.drop_zero] at h1 h3 ⊢
      have hr : r ≠ [] := by intro e; rw [e] at h1; simp at h1
      have hu := parseUint10_val r 0 h3 (by omega)
      rw [Lib.atoiAll_minus, Lib.parseMag, if_neg hr]
      by_cases hv : valF 0 r < 18446744073709551616
      · rw [hu.1 hv]
        unfold Lib.signed
        simp only
        by_cases h4 : 9223372036854775808 < valF 0 r
        · rw [if_pos h4, if_neg (by rw [hfit]; omega)]
        · rw [if_neg h4, if_pos (by rw [hfit]; omega)]
      · rw [hu.2 (Nat.not_lt.1 hv), if_neg (by rw [hfit]; omega)]
        rfl
  | false =>
    have hbd : bodyD l = l := by unfold bodyD; rw [if_neg (by simp [hn])]
    have hvi : valI l = valF 0 l := by unfold valI; rw [if_neg (by simp [hn]), hbd]
    rw [hbd] at h1 h3
    rw [hvi]
    match l, hn with
    | [], _ => simp at h1
    | c :: r, hn =>
      have hc : c ≠ 45 := by unfold negB at hn; simpa using hn
      have hcd := (digB_iff c).1 (by simp only [List.all_cons, Bool.and_eq_true] at h3; exact h3.1)
      have hu := parseUint10_val (c :: r) 0 h3 (by omega)
      have h45 : c.toNat ≠ 45 := fun h => hc (UInt8.toNat_inj.1 h)
      rw [Lib.atoiAll_plain c r (by omega) h45, Lib.parseMag, if_neg (by simp)]
      by_cases hv : valF 0 (c :: r) < 18446744073709551616
      · rw [hu.1 hv]
        unfold Lib.signless
        simp only
        by_cases h4 : 9223372036854775808 ≤ valF 0 (c :: r)
        · rw [if_pos h4, if_neg (by rw [hfit]; omega)]
        · rw [if_neg h4, if_pos (by rw [hfit]; omega)]
      · rw [hu.2 (Nat.not_lt.1 hv), if_neg (by rw [hfit]; omega)]
        rfl
/-- The cutset of the digits. -/
def digits10 : List UInt8 := [48, 49, 50, 51, 52, 53, 54, 55, 56, 57]
theorem digits10_has (c : UInt8) : digits10.contains c = digB c := by
  rw [Bool.eq_iff_iff, digB_iff]
  unfold digits10
  simp only [List.contains_eq_mem, List.mem_cons, List.not_mem_nil, or_false, decide_eq_true_eq, ← UInt8.toNat_inj]
  simp only [UInt8.toNat_ofNat]
  omega
theorem dropWhile_nil {α : Type} {p : α → Bool} : ∀ (l : List α), l.dropWhile p = [] ↔ l.all p = true := by
  intro l
  induction l with
  | nil => simp
  | cons a l ih => cases h : p a <;> simp [List.dropWhile, h, ih]
theorem trim_digits (l : List UInt8) : Lib.trimS l digits10 = [] ↔ l.all digB = true := by
  unfold Lib.trimS Lib.trimLeftS Lib.trimRightS
  simp only [digits10_has]
  rw [dropWhile_nil]
  constructor
  · intro h
    rw [List.all_reverse] at h
    have h2 : (l.reverse.dropWhile digB) = [] := by
      match hm : l.reverse.dropWhile digB with
      | [] => rfl
      | a :: r =>
        have : digB a = false := by
          have := List.head_dropWhile_not digB (l := l.reverse) (by rw [hm]; simp)
          simpa [hm] using this
        rw [hm] at h
        simp [this] at h
    rw [dropWhile_nil] at h2
    simpa using h2
  · intro h
    have h2 : (l.reverse.dropWhile digB) = [] := by rw [dropWhile_nil]; simpa using h
    rw [h2]; rfl
end

section
/-! part P32 -/
/-- The fields lie in the line l, one behind the other from e on, with white space alone between them. -/
def LayF (l : List UInt8) : Nat → Bool → List Fld → Prop
  | _, _, [] => True
  | e, first, f :: fs => ∃ p : Nat, f.col = (p : Int) + 1 ∧ e ≤ p ∧ (first = false → e < p) ∧ (∀ (k : Nat) (c : UInt8), e ≤ k → k < p → l[k]? = some c → whiteB c = true) ∧
      (l.drop p).take (fieldW f).length = fieldW f ∧ p + (fieldW f).length ≤ l.length ∧ okF f = true ∧ LayF l (p + (fieldW f).length) false fs
theorem LayF.ok {l : List UInt8} : ∀ (fs : List Fld) (e : Nat) (first : Bool), LayF l e first fs → ∀ f ∈ fs, okF f = true := by
  intro fs
  induction fs with
  | nil => intro e first _ f hf; simp at hf
  | cons g fs ih =>
    intro e first h f hf
    obtain ⟨p, _, _, _, _, _, _, h1, h2⟩ := h
    rcases List.mem_cons.1 hf with rfl | hf
    · exact h1
    · exact ih _ _ h2 f hf
theorem LayF.len {l : List UInt8} : ∀ (fs : List Fld) (e : Nat) (first : Bool), e ≤ l.length → LayF l e first fs → e + (lineW fs first).length ≤ l.length := by
  intro fs
  induction fs with
  | nil => intro e first he _; simpa [lineW] using he
  | cons g fs ih =>
    intro e first he h
    obtain ⟨p, _, h1, h2, _, _, h3, _, h4⟩ := h
    have := ih _ _ h3 h4
    rw [lineW]
    cases first
    · have := h2 rfl
      simp; omega
    · simp; omega
end

section
/-! part P33 -/
/-- A line that was split off: its number, its piece. -/
def LineOf (ps : List (List UInt8)) (n : Int) (x : Lin) : Prop :=
  ∃ (i : Nat) (p : List UInt8), ps[i]? = some p ∧ x.num = n + i ∧ fieldsS p = (x.fields, 0) ∧ x.fields ≠ [] ∧ p.length ≤ 1000
theorem LineOf.cons {p : List UInt8} {ps : List (List UInt8)} {n : Int} {x : Lin} (h : LineOf ps (n + 1) x) : LineOf (p :: ps) n x := by
  obtain ⟨i, q, h1, h2, h3, h4, h5⟩ := h
  exact ⟨i + 1, q, by simpa using h1, by rw [h2]; push_cast; omega, h3, h4, h5⟩
end

section
/-! part P34 -/
theorem valF_snoc (n : Nat) (l : List UInt8) (c : UInt8) : valF n (l ++ [c]) = valF n l * 10 + (c.toNat - 48) := by unfold valF; rw [List.foldl_append]; rfl
/-- How far the digits have been read: k of them, their value n if it is not too big. -/
def NumInv (d : List UInt8) (k : Nat) (n : Int) (big : Bool) : Prop :=
  (d.take k).all digB = true ∧ 0 ≤ n ∧ n < 18446744073709551616 ∧ (big = false → n = valF 0 (d.take k)) ∧ (big = true → 9223372036854775808 < (valF 0 (d.take k) : Int))
theorem NumInv.start (d : List UInt8) : NumInv d 0 0 false := ⟨rfl, by omega, by omega, fun _ => rfl, fun h => by cases h⟩
theorem NumInv.small {d : List UInt8} {k : Nat} {n : Int} (h : NumInv d k n false) : n = valF 0 (d.take k) := h.2.2.2.1 rfl
theorem take_succ_get {α : Type} {l : List α} {k : Nat} (h : k < l.length) : l.take (k + 1) = l.take k ++ [l[k]] := List.take_succ_eq_append_getElem h
theorem NumInv.next {d : List UInt8} {k : Nat} {n : Int} {big : Bool} (h : NumInv d k n big) (hk : k < d.length) (hd : digB d[k] = true) {n' : Int} {big' : Bool}
    (hn0 : 0 ≤ n') (hn1 : n' < 18446744073709551616) (hb : big' = true ↔ (big = true ∨ 1152921504606846976 < n)) (hn : n ≤ 1152921504606846976 → n' = n * 10 + ((d[k].toNat : Int) - 48)) : NumInv d (k + 1) n' big' := by
  obtain ⟨h1, h2, h3, h4, h5⟩ := h
  have hdd := (digB_iff _).1 hd
  have hv : valF 0 (d.take (k + 1)) = valF 0 (d.take k) * 10 + (d[k].toNat - 48) := by rw [take_succ_get hk, valF_snoc]
  refine ⟨by rw [take_succ_get hk, List.all_append, h1]; simp [hd], hn0, hn1, fun hbb => ?_, fun hbb => ?_⟩
  · have hnb : ¬ (big = true ∨ 1152921504606846976 < n) := fun hx => by rw [hb.2 hx] at hbb; cases hbb
    obtain ⟨x1, x2⟩ := not_or.1 hnb
    have hbf : big = false := by cases big <;> simp_all
    have e := h4 hbf
    rw [hn (by omega), hv, e]
    push_cast
    omega
  · rw [hv]
    rcases hb.1 hbb with hx | hx
    · have := h5 hx; push_cast; omega
    · cases big with
      | true => have := h5 rfl; push_cast; omega
      | false => have := h4 rfl; push_cast; omega
/-- What the reference's number comes to behind all digits. -/
theorem NumInv.fin {d : List UInt8} {n : Int} {big : Bool} (h : NumInv d d.length n big) : d.all digB = true ∧ (big = true → 9223372036854775808 < (valF 0 d : Int)) ∧ (big = false → n = valF 0 d) := by
  obtain ⟨h1, _, _, h4, h5⟩ := h
  rw [List.take_of_length_le (Nat.le_refl _)] at h1 h4 h5
  exact ⟨h1, h5, h4⟩
end

section
/-! part P35 -/
/-- The next word as an integer from lo to hi. -/
def Cur.int (c : Cur) (lo hi : Int) : Cur × Int :=
  if (c.read false).2.2 = true then
    ((if (numberS (c.read false).2.1 lo hi).2 = 0 then (c.read false).1 else (c.read false).1.fail (numberS (c.read false).2.1 lo hi).2 (c.read false).1.last), (numberS (c.read false).2.1 lo hi).1)
  else ((c.read false).1, 0)
def Cur.word (c : Cur) (q : Bool) : Cur × List UInt8 := ((c.read q).1, (c.read q).2.1)
/-- The same cursor, but for the column of an error that did not happen. -/
structure Cur.sim (a b : Cur) : Prop where
  num : a.num = b.num
  fields : a.fields = b.fields
  next : a.next = b.next
  last : a.last = b.last
  err : a.err = b.err
  pos : b.err ≠ 0 → a.pos = b.pos
theorem Cur.sim.refl (c : Cur) : Cur.sim c c := ⟨rfl, rfl, rfl, rfl, rfl, fun _ => rfl⟩
theorem Cur.sim.ok {a b : Cur} (h : Cur.sim a b) (hb : b.ok) : a.ok := by unfold Cur.ok at *; rw [h.fields, h.next]; exact hb
theorem Cur.sim.fail {a b : Cur} (h : Cur.sim a b) (e col : Int) : Cur.sim (a.fail e col) (b.fail e col) := by
  unfold Cur.fail
  rw [h.err]
  by_cases hb : b.err = 0
  · rw [if_pos hb, if_pos hb]
    exact ⟨h.num, h.fields, h.next, h.last, rfl, fun _ => rfl⟩
  · rw [if_neg hb, if_neg hb]; exact h
theorem Cur.sim.read {a b : Cur} (h : Cur.sim a b) (q : Bool) : Cur.sim (a.read q).1 (b.read q).1 ∧ (a.read q).2 = (b.read q).2 := by
  unfold Cur.read
  rw [h.err, h.fields, h.next]
  by_cases hb : b.err = 0
  · rw [if_pos hb, if_pos hb]
    cases hf : b.fields[b.next]? with
    | none => exact ⟨h.fail 4 0, rfl⟩
    | some f =>
      dsimp only
      by_cases hq : f.quoted = q
      · rw [if_pos hq, if_pos hq]
        exact ⟨⟨h.num, rfl, rfl, rfl, rfl, h.pos⟩, rfl⟩
      · rw [if_neg hq, if_neg hq]
        exact ⟨h.fail 4 f.col, rfl⟩
  · rw [if_neg hb, if_neg hb]; exact ⟨h, rfl⟩
theorem Cur.sim.keyword {a b : Cur} (h : Cur.sim a b) (kw : List UInt8) : Cur.sim (a.keyword kw).1 (b.keyword kw).1 ∧ (a.keyword kw).2 = (b.keyword kw).2 := by
  obtain ⟨h1, h2⟩ := h.read false
  unfold Cur.keyword
  rw [h2, h1.last]
  refine ⟨?_, rfl⟩
  dsimp only
  split
  · exact h1.fail _ _
  · exact h1
theorem Cur.sim.word {a b : Cur} (h : Cur.sim a b) (q : Bool) : Cur.sim (a.word q).1 (b.word q).1 ∧ (a.word q).2 = (b.word q).2 := by
  obtain ⟨h1, h2⟩ := h.read q
  unfold Cur.word
  rw [h2]
  exact ⟨h1, rfl⟩
theorem Cur.sim.more {a b : Cur} (h : Cur.sim a b) : a.more = b.more := by unfold Cur.more; rw [h.err, h.fields, h.next]
/-- The program's integer writes the column even where there is no error. -/
def Cur.intP (c : Cur) (lo hi : Int) : Cur × Int :=
  if (c.read false).2.2 = true then ((c.read false).1.fail (numberS (c.read false).2.1 lo hi).2 (c.read false).1.last, (numberS (c.read false).2.1 lo hi).1)
  else ((c.read false).1, 0)
theorem Cur.sim.int {a b : Cur} (h : Cur.sim a b) (lo hi : Int) : Cur.sim (a.intP lo hi).1 (b.int lo hi).1 ∧ (a.intP lo hi).2 = (b.int lo hi).2 := by
  obtain ⟨h1, h2⟩ := h.read false
  unfold Cur.intP Cur.int
  rw [h2, h1.last]
  by_cases hk : (b.read false).2.2 = true
  · rw [if_pos hk, if_pos hk]
    refine ⟨?_, rfl⟩
    dsimp only
    by_cases he : (numberS (b.read false).2.1 lo hi).2 = 0
    · rw [if_pos he, he]
      unfold Cur.fail
      by_cases hz : (a.read false).1.err = 0
      · rw [if_pos hz]
        exact ⟨h1.num, h1.fields, h1.next, h1.last, by rw [← h1.err, hz], fun hb => absurd (by rw [← h1.err, hz]) hb⟩
      · rw [if_neg hz]; exact h1
    · rw [if_neg he]; exact h1.fail _ _
  · rw [if_neg hk, if_neg hk]; exact ⟨h1, rfl⟩
end

section
/-! part P36 -/
end

section
/-! part P20 -/
structure Pha where
  fr : Int
  til : Int
  out : Int
structure Rul where
  name : List UInt8
  side : Int
  inns : Int
  overs : Int
  balls : Int
  quota : Int
  wide : Int
  noball : Int
  free : Bool
  newball : Int
  follow : Int
  reviews : Int
  outside : Int
  power : List Pha
end

section
/-! part P22 -/
def Cur.n (c : Cur) : Cur × Int := c.int 0 10000
/-- A line of a keyword and words, as it is read back. -/
def LineOk (kw : List UInt8) (ws : List (List UInt8)) (x : Lin) : Prop := ∃ cs : List Int, cs.length = ws.length + 1 ∧ x.fields = ((kw :: ws).zip cs).map fun p => (⟨p.1, p.2, false⟩ : Fld)
theorem LineOk.one {kw t : List UInt8} {x : Lin} (h : LineOk kw [t] x) : ∃ c1 c2, Cur.start x = ⟨x.num, [⟨kw, c1, false⟩, ⟨t, c2, false⟩], 0, 0, 0, 0⟩ := by
  obtain ⟨cs, h1, h2⟩ := h
  match cs, h1 with
  | [c1, c2], _ => exact ⟨c1, c2, by unfold Cur.start; rw [h2]; rfl⟩
theorem LineOk.two {kw t u : List UInt8} {x : Lin} (h : LineOk kw [t, u] x) : ∃ c1 c2 c3, Cur.start x = ⟨x.num, [⟨kw, c1, false⟩, ⟨t, c2, false⟩, ⟨u, c3, false⟩], 0, 0, 0, 0⟩ := by
  obtain ⟨cs, h1, h2⟩ := h
  match cs, h1 with
  | [c1, c2, c3], _ => exact ⟨c1, c2, c3, by unfold Cur.start; rw [h2]; rfl⟩
theorem LineOk.three {kw t u v : List UInt8} {x : Lin} (h : LineOk kw [t, u, v] x) : ∃ c1 c2 c3 c4, Cur.start x = ⟨x.num, [⟨kw, c1, false⟩, ⟨t, c2, false⟩, ⟨u, c3, false⟩, ⟨v, c4, false⟩], 0, 0, 0, 0⟩ := by
  obtain ⟨cs, h1, h2⟩ := h
  match cs, h1 with
  | [c1, c2, c3, c4], _ => exact ⟨c1, c2, c3, c4, by unfold Cur.start; rw [h2]; rfl⟩
end

section
/-! part U9 -/
end

section
/-! part P23 -/
/-! With comments and blank lines. -/
end
end Go.Proofs.YtjchapoggmipbaaGreatDoor

namespace Go.Proofs.YtjchapoggmipbaaGreatDoor
section
/-! part T1 -/
open Go.RowKit

end

section
/-! part T2 -/
open Go.RowKit

theorem conv_any (s : ByteArray) (w : World) : ∃ W1 cap, (convert 9 157 (.string s)).run Tryz.prog w = .ok (.slice (some ⟨w.heap.size, 0, none⟩) s.size cap) W1 ∧
    (∀ j (h : j < s.size), W1.cell? ⟨w.heap.size, j, none⟩ = some (.int .u8 (s[j].toNat : Int))) ∧ Below w.heap.size w W1 := by
  refine ⟨_, _, Lib.run_convert_string_bytes (P := Tryz.prog) w 9 157 5 s Tryz.underlying9 Tryz.underlying157 Tryz.underlying5, fun j h => ?_, ?_⟩
  · rw [Lib.bytesWorld_cell w 5 s j h]
    have : j < s.data.toList.length := by simpa using h
    rw [List.getD_eq_getElem?_getD, List.getElem?_eq_getElem this]; rfl
  · exact ⟨rfl, rfl, rfl, by rw [Lib.bytesWorld_size]; omega, fun k hk => Lib.bytesWorld_at_old w _ s k hk⟩

theorem letterB_iff (c : UInt8) : letterB c = decide (65 ≤ (c.toNat : Int) ∧ (c.toNat : Int) ≤ 90) := by
  rw [Bool.eq_iff_iff]; simp [letterB, UInt8.le_iff_toNat_le]; omega
theorem tailB_iff (c : UInt8) : tailB c = decide ((65 ≤ (c.toNat : Int) ∧ (c.toNat : Int) ≤ 90) ∨ (c.toNat : Int) = 95 ∨ (c.toNat : Int) = 45 ∨ (48 ≤ (c.toNat : Int) ∧ (c.toNat : Int) ≤ 57)) := by
  rw [Bool.eq_iff_iff]; simp [tailB, letterB, UInt8.le_iff_toNat_le, ← UInt8.toNat_inj]; omega
def nameOk (l : List UInt8) (j : Nat) : Bool := match l[j]? with | some c => if j = 0 then letterB c else tailB c | none => true
theorem nameS_eq (l : List UInt8) : nameS l = true ↔ (∀ j, nameOk l j = true) ∧ 1 ≤ l.length ∧ l.length ≤ 16 := by
  cases l with
  | nil => simp [nameS]
  | cons c l =>
    simp only [nameS, Bool.and_eq_true, List.all_eq_true, decide_eq_true_eq, List.length_cons]
    constructor
    · rintro ⟨⟨h1, h2⟩, h3⟩
      refine ⟨fun j => ?_, by omega, by omega⟩
      cases j with
      | zero => simpa [nameOk] using h1
      | succ j =>
        simp only [nameOk, List.getElem?_cons_succ]
        cases hj : l[j]? with
        | none => rfl
        | some d => simpa using h2 d (List.mem_of_getElem? hj)
    · rintro ⟨h1, _, h3⟩
      refine ⟨⟨by simpa [nameOk] using h1 0, fun d hd => ?_⟩, by omega⟩
      obtain ⟨j, hj⟩ := List.mem_iff_getElem?.1 hd
      simpa [nameOk, hj] using h1 (j + 1)
theorem nameS_bad (s : ByteArray) (k : Nat) (hk : k < s.size) (h : nameOk s.data.toList k = false) : nameS s.data.toList = false := by
  rw [Bool.eq_false_iff]; intro hn; rw [nameS_eq] at hn; rw [hn.1 k] at h; cases h
theorem nameS_end (s : ByteArray) (h : ∀ j, j < s.size → nameOk s.data.toList j = true) : nameS s.data.toList = (decide (1 ≤ s.size) && decide (s.size ≤ 16)) := by
  have hl : s.data.toList.length = s.size := by simp
  rw [Bool.eq_iff_iff, nameS_eq, hl]
  simp only [Bool.and_eq_true, decide_eq_true_eq]
  refine ⟨fun h => ⟨h.2.1, h.2.2⟩, fun hh => ⟨fun j => ?_, hh⟩⟩
  by_cases hj : j < s.size
  · exact h j hj
  · have : s.data.toList[j]? = none := List.getElem?_eq_none (by omega)
    simp [nameOk, this]
theorem nameOk_at (s : ByteArray) (k : Nat) (hk : k < s.size) : nameOk s.data.toList k = if k = 0 then letterB s[k] else tailB s[k] := by
  have : s.data.toList[k]? = some s[k] := by
    rw [List.getElem?_eq_getElem (by simpa using hk)]; rfl
  simp [nameOk, this]

theorem nameOk_next {l : List UInt8} {k : Nat} {b : Bool} (h : Hid (∀ j, j < k → nameOk l j = true)) (h1 : nameOk l k = b) (hb : b = true) : Hid (∀ j, j < k + 1 → nameOk l j = true) := by
  intro j hj
  rcases Nat.lt_or_ge j k with h2 | h2
  · exact h j h2
  · obtain rfl : j = k := by omega
    rw [h1, hb]

set_option maxRecDepth 100000 in
set_option maxHeartbeats 400000 in
theorem text_Name (s : ByteArray) (w : World) (hs : s.size ≤ maxLen) :
    Calls Tryz.prog 75 #[.string s] w fun e w' => e = .returned (.bool (nameS s.data.toList)) ∧ Below w.heap.size w w' := by
  unfold maxLen at hs
  obtain ⟨W1, cap, hrun, hcell, hbel⟩ := conv_any s w
  have HB := Lib.hid hbel
  have HC := Lib.hid hcell
  clear hbel hcell
  go_enter Tryz.func75, Tryz.ntmps75
  go_wp2
  go_loop [9] (fun i => ∃ k : Nat, k ≤ s.size ∧ i = .int .i64 k ∧ Hid (∀ j, j < k → nameOk s.data.toList j = true)) (fun i => s.size - (intOf i).toNat)
  case atStart => exact ⟨0, Nat.zero_le _, rfl, fun j hj => absurd hj (by omega)⟩
  case round =>
    obtain ⟨k, hk, rfl, hall⟩ := hrel
    by_cases hlt : k < s.size
    · have hck := HC.out k hlt
      have hbad := Lib.hid (nameS_bad s k hlt)
      have hat := Lib.hid (nameOk_at s k hlt)
      generalize s[k] = c at *
      rcases Nat.eq_zero_or_pos k with h0 | h0
      · have hz : ((k : Int) == 0) = true := by rw [h0]; rfl
        have h0' := Lib.hid h0
        clear h0
        rcases (show (c.toNat : Int) < 65 ∨ (65 ≤ (c.toNat : Int) ∧ (c.toNat : Int) ≤ 90) ∨ 90 < (c.toNat : Int) from by omega) with hc | ⟨hc, hc'⟩ | hc
        all_goals ((first | (have e1 : decide ((65 : Int) ≤ (c.toNat : Int)) = true := decide_eq_true (by omega)) | (have e1 : decide ((65 : Int) ≤ (c.toNat : Int)) = false := decide_eq_false (by omega))); (first | (have e2 : decide ((c.toNat : Int) ≤ (90 : Int)) = true := decide_eq_true (by omega)) | (have e2 : decide ((c.toNat : Int) ≤ (90 : Int)) = false := decide_eq_false (by omega))); go_wp2)
        all_goals first
          | (go_ret; exact ⟨ret_b (hbad.out (by rw [hat.out, if_pos h0'.out, letterB_iff, decide_eq_false_iff_not]; omega)).symm, HB.out⟩)
          | (go_round
             case rel => exact ⟨k + 1, by omega, by go_num, nameOk_next hall hat.out (by rw [if_pos h0'.out, letterB_iff, decide_eq_true_eq]; omega)⟩
             case measure => simp [intOf]; omega)
      · have hz : ((k : Int) == 0) = false := by simp; omega
        rcases (show (c.toNat : Int) < 45 ∨ (45 ≤ (c.toNat : Int) ∧ (c.toNat : Int) ≤ 45) ∨ (46 ≤ (c.toNat : Int) ∧ (c.toNat : Int) ≤ 47) ∨ (48 ≤ (c.toNat : Int) ∧ (c.toNat : Int) ≤ 57) ∨ (58 ≤ (c.toNat : Int) ∧ (c.toNat : Int) ≤ 64) ∨ (65 ≤ (c.toNat : Int) ∧ (c.toNat : Int) ≤ 90) ∨ (91 ≤ (c.toNat : Int) ∧ (c.toNat : Int) ≤ 94) ∨ (95 ≤ (c.toNat : Int) ∧ (c.toNat : Int) ≤ 95) ∨ 95 < (c.toNat : Int) from by omega) with hc | ⟨hc, hc'⟩ | ⟨hc, hc'⟩ | ⟨hc, hc'⟩ | ⟨hc, hc'⟩ | ⟨hc, hc'⟩ | ⟨hc, hc'⟩ | ⟨hc, hc'⟩ | hc
        all_goals ((first | (have e1 : decide ((65 : Int) ≤ (c.toNat : Int)) = true := decide_eq_true (by omega)) | (have e1 : decide ((65 : Int) ≤ (c.toNat : Int)) = false := decide_eq_false (by omega))); (first | (have e2 : decide ((c.toNat : Int) ≤ (90 : Int)) = true := decide_eq_true (by omega)) | (have e2 : decide ((c.toNat : Int) ≤ (90 : Int)) = false := decide_eq_false (by omega))); (first | (have e3 : ((c.toNat : Int) != (95 : Int)) = true := by rw [bne_iff_ne]; omega) | (have e3 : ((c.toNat : Int) != (95 : Int)) = false := by rw [bne_eq_false_iff_eq]; omega)); (first | (have e4 : ((c.toNat : Int) != (45 : Int)) = true := by rw [bne_iff_ne]; omega) | (have e4 : ((c.toNat : Int) != (45 : Int)) = false := by rw [bne_eq_false_iff_eq]; omega)); (first | (have e5 : decide ((c.toNat : Int) < (48 : Int)) = true := decide_eq_true (by omega)) | (have e5 : decide ((c.toNat : Int) < (48 : Int)) = false := decide_eq_false (by omega))); (first | (have e6 : decide ((57 : Int) < (c.toNat : Int)) = true := decide_eq_true (by omega)) | (have e6 : decide ((57 : Int) < (c.toNat : Int)) = false := decide_eq_false (by omega))); go_wp2)
        all_goals first
          | (go_ret; exact ⟨ret_b (hbad.out (by rw [hat.out, if_neg (by omega), tailB_iff, decide_eq_false_iff_not]; omega)).symm, HB.out⟩)
          | (go_round
             case rel => exact ⟨k + 1, by omega, by go_num, nameOk_next hall hat.out (by rw [if_neg (by omega), tailB_iff, decide_eq_true_eq]; omega)⟩
             case measure => simp [intOf]; omega)
    · obtain rfl : k = s.size := by omega
      by_cases h1 : (1 : Int) ≤ (s.size : Int)
      all_goals by_cases h2 : (s.size : Int) ≤ 16
      all_goals go_wp2
      all_goals go_ret
      all_goals exact ⟨ret_b (by rw [nameS_end s hall.out, Bool.eq_iff_iff]; simp; omega), HB.out⟩
end
end Go.Proofs.YtjchapoggmipbaaGreatDoor

namespace Go.Proofs.YtjchapoggmipbaaGreatDoor
open Go.RowKit

structure Glob (w : World) : Prop where
  shaped : w.ShapedOpen Tryz.prog
theorem Glob.below {w w' : World} (h : Glob w) (hb : Below w.heap.size w w') : Glob w' :=
  ⟨h.shaped.keptBut (hb.frame (fun _ => False)) (fun _ h => h.elim)⟩

end Go.Proofs.YtjchapoggmipbaaGreatDoor

namespace Go.Proofs.YtjchapoggmipbaaGreatDoor
open Go.RowKit

theorem var_lt {P : Program} {W : World} {n : String} {g : Nat} {cs : Array Value} (hg : P.globalNamed n = some g) (h : W.var? P n = some cs) : g < W.heap.size := by
  unfold World.var? at h
  simp only [hg, Option.bind_some] at h
  rcases Nat.lt_or_ge g W.heap.size with h' | h'
  · exact h'
  · rw [Array.getElem?_eq_none h'] at h; cases h
structure GlobN (w : World) : Prop where
  glob : Glob w
  rng : ∃ tp p, w.var? Tryz.prog "strconv.ErrRange" = some #[.iface tp p]
  pow : Lib.TabIs Tryz.prog w "internal/strconv.uint64pow10" .u64 Lib.pow10Tab
theorem GlobN.below {w w' : World} (h : GlobN w) (hb : Below w.heap.size w w') : GlobN w' := by
  obtain ⟨tp, p, h1⟩ := h.rng
  have g1 : Tryz.prog.globalNamed "strconv.ErrRange" = some 2 := by kernel_rfl
  have g2 : Tryz.prog.globalNamed "internal/strconv.uint64pow10" = some 5 := by kernel_rfl
  exact ⟨h.glob.below hb, ⟨tp, p, var?_below hb g1 (var_lt g1 h1) h1⟩, var?_below hb g2 (var_lt g2 h.pow) h.pow⟩
end Go.Proofs.YtjchapoggmipbaaGreatDoor

namespace Go.Proofs.YtjchapoggmipbaaGreatDoor
open Go.ChangeShapes Go.WideShapes Go.ChangeAt Go.RowKit

def litCells : DataW Unit → Array Value
  | .agg ds => (ds.map fun d => match d with | .lit (.int k z) => Value.int k z | _ => Value.int .u8 0).toArray
  | _ => #[]
noncomputable def lowN : Nat := (World.holding Tryz.prog default ⟨#[], #[], []⟩).heap.size
/-- The settled world with two blocks more, each an errors.errorString; the listed tables hold what their initialisers lay, the two errors point to the blocks. -/
noncomputable def laidWorld (os : Os) : World :=
  let w0 := World.holding Tryz.prog os ⟨#[.cells #[.string ⟨#[118, 97, 108, 117, 101, 32, 111, 117, 116, 32, 111, 102, 32, 114, 97, 110, 103, 101]⟩] 226, .cells #[.string ⟨#[105, 110, 118, 97, 108, 105, 100, 32, 115, 121, 110, 116, 97, 120]⟩] 226], #[], []⟩
  { w0 with heap := (((((((w0.heap.modify 3 (relay tabFirst)).modify 4 (relay tabAccept)).modify 5 (relay (litCells Rows.laid_internal_strconv_uint64pow10))).modify 6 (relay (litCells Rows.laid_math_bits_deBruijn32tab))).modify 7 (relay (litCells Rows.laid_math_bits_deBruijn64tab))).modify 2 (relay #[.iface 224 (.pointer (some ⟨lowN, 0, none⟩))])).modify 1 (relay #[.iface 224 (.pointer (some ⟨lowN + 1, 0, none⟩))])) }
def laidAll : List (String × DataW Unit) := [("math/bits.deBruijn32tab", Rows.laid_math_bits_deBruijn32tab), ("math/bits.deBruijn64tab", Rows.laid_math_bits_deBruijn64tab), ("internal/strconv.uint64pow10", Rows.laid_internal_strconv_uint64pow10), ("unicode/utf8.acceptRanges", Rows.laid_unicode_utf8_acceptRanges), ("strconv.ErrRange", Rows.laid_strconv_ErrRange), ("strconv.ErrSyntax", Rows.laid_strconv_ErrSyntax), ("unicode/utf8.first", Rows.laid_unicode_utf8_first)]
theorem star_err : "*" ++ "errors.errorString" = "*errors.errorString" := by decide
theorem row_err (u : TypeId) (h : Tryz.prog.typeName? 3 u = some "*errors.errorString") : u = 224 :=
  typeName_ptr_named (nm := "errors.errorString") (by rw [star_err]; kernel_rfl) (by kernel_rfl) (by decide) u (by rw [star_err]; exact h)
/-- The world in which a law is called bears the number tables. -/
theorem globN_of {W : World} (hsh : W.ShapedOpen Tryz.prog) (hL : laidMet Tryz.prog laidAll W) : GlobN W := by
  have h2 := hL.tail.tail
  have h4 := hL.tail.tail.tail.tail
  refine ⟨⟨hsh⟩, ?_, ?_⟩
  · obtain ⟨a, s, h, _⟩ := laid_sentinel (P := Tryz.prog) (g := 2) (ti := 136) (tp := 224) (te := 226) (ts := 9) h4 (by kernel_rfl) (by kernel_rfl) Tryz.underlying136 row_err Tryz.underlying224 Tryz.underlying226 rfl rfl Tryz.underlying9 (by kernel_rfl) (by kernel_rfl)
    exact ⟨_, _, h⟩
  · exact Lib.tabIs_of_head (g := 5) (t := 228) (e := 188) (n := 20) (by kernel_rfl) (by kernel_rfl) Tryz.underlying228 Tryz.underlying188 (by kernel_rfl) (by kernel_rfl) h2
end Go.Proofs.YtjchapoggmipbaaGreatDoor
