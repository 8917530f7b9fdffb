/- Words for memory, a block known whole, regions met in whatever order (once R, B, O). -/
import Derived.WalkKit
import Derived.WalkSpells
import Derived.WalkLawsBesides
import Derived.Lib.Hide
import Derived.Lib.ConvBytes
import Derived.Deep.QuietTactic
import Derived.BigQuiet
import Derived.Deep.Draws
import Derived.Maps.AppendAt
import Derived.Deep.AppendLies
import Derived.Deep.DeepCutAuto
import Derived.StillTailTactics
import Derived.Lib.Builder
import Derived.Great.BuildSlice
import Derived.Orders
import Derived.OrdersHeld
set_option linter.unusedSimpArgs false
set_option linter.unusedVariables false
namespace Go.Proofs.Ytajcnjehjkpieaa
section
/-! part R -/
open Go.RowKit

/-- A string out of its bytes. -/
def S (l : List UInt8) : ByteArray := ⟨l.toArray⟩
@[simp] theorem S_data (l : List UInt8) : (S l).data.toList = l := rfl
@[simp] theorem S_toList (l : List UInt8) : (S l).toList = l := by rw [ByteArray.toList_eq]; rfl
@[simp] theorem S_size (l : List UInt8) : (S l).size = l.length := rfl
theorem S_of (s : ByteArray) : S s.data.toList = s := rfl
theorem S_inj {a b : List UInt8} (h : S a = S b) : a = b := by rw [← S_data a, h, S_data]

theorem ret_str {x : ByteArray} {l : List UInt8} (h : x.data.toList = l) : Ending.returned (.string x) = .returned (.string (S l)) := by rw [← h]; rfl
theorem ret_b {a b : Bool} (h : a = b) : Ending.returned (.bool a) = .returned (.bool b) := by rw [h]
theorem ret_i {k : IntKind} {a b : Int} (h : a = b) : Ending.returned (.int k a) = .returned (.int k b) := by rw [h]
theorem ret_s {a b : ByteArray} (h : a = b) : Ending.returned (.string a) = .returned (.string b) := by rw [h]

/-- The blocks of F hold in w' what they held in w. -/
def Same (F : Nat → Prop) (w w' : World) : Prop := ∀ b, F b → w'.heap[b]? = w.heap[b]?
theorem Same.refl (F : Nat → Prop) (w : World) : Same F w w := fun _ _ => rfl
theorem Same.trans {F : Nat → Prop} {a b c : World} (h : Same F a b) (k : Same F b c) : Same F a c := fun x hx => (k x hx).trans (h x hx)
theorem Same.sub {F G : Nat → Prop} {a b : World} (h : Same F a b) (k : ∀ x, G x → F x) : Same G a b := fun x hx => h x (k x hx)
theorem Same.cell {F : Nat → Prop} {w w' : World} (h : Same F w w') {b o : Nat} {p : Option Nat} (hb : F b) : w'.cell? ⟨b, o, p⟩ = w.cell? ⟨b, o, p⟩ :=
  World.cell?_of_block (w := w) (h b hb)
theorem Same.of_below {B : Nat} {w w' : World} (h : Below B w w') : Same (· < B) w w' := fun b hb => h.block b hb
theorem Same.below {B : Nat} {F : Nat → Prop} {w w' : World} (h : Below B w w') (k : ∀ x, F x → x < B) : Same F w w' := fun b hb => h.block b (k b hb)
theorem Same.grown {row : Option Nat} {F : Nat → Prop} {w w' : World} (h : w.grownBy w' row) (k : ∀ x, F x → x < w.heap.size ∧ some x ≠ row) : Same F w w' := fun b hb => h.block b (k b hb).1 (k b hb).2

/-- What one element's cells read as, and that this hangs on the blocks of F alone. -/
structure Good {α : Type} (R : World → (Nat → Prop) → List Value → α → Prop) : Prop where
  keep : ∀ {w w' : World} {F G : Nat → Prop} {cs : List Value} {a : α}, R w F cs a → Same F w w' → (∀ b, F b → G b) → R w' G cs a

/-- The slice v reads as the list l: elements of 'size' cells; all blocks that are met are in F. -/
def Sl {α : Type} (size : Nat) (R : World → (Nat → Prop) → List Value → α → Prop) (w : World) (F : Nat → Prop) (v : Value) (l : List α) : Prop :=
  ∃ A c, v = .slice A l.length c ∧ l.length ≤ c ∧ c ≤ maxLen ∧ (0 < l.length → ∃ b o, A = some ⟨b, o, none⟩ ∧ F b ∧
    ∀ i a, l[i]? = some a → ∃ cs : List Value, cs.length = size ∧ (∀ j u, cs[j]? = some u → w.cell? ⟨b, o + i * size + j, none⟩ = some u) ∧ R w F cs a)

section
variable {α : Type} {size : Nat} {R : World → (Nat → Prop) → List Value → α → Prop}
theorem Sl.keep (hR : Good R) {w w' : World} {F G : Nat → Prop} {v : Value} {l : List α} (h : Sl size R w F v l) (hs : Same F w w') (hG : ∀ b, F b → G b) : Sl size R w' G v l := by
  obtain ⟨A, c, hv, hl, hc, hA⟩ := h
  refine ⟨A, c, hv, hl, hc, fun h0 => ?_⟩
  obtain ⟨b, o, rfl, hb, he⟩ := hA h0
  refine ⟨b, o, rfl, hG b hb, fun i a hi => ?_⟩
  obtain ⟨cs, h1, h2, h3⟩ := he i a hi
  exact ⟨cs, h1, fun j u hu => (hs.cell hb).trans (h2 j u hu), hR.keep h3 hs hG⟩
theorem Sl.good (hR : Good R) : Good (fun w F (cs : List Value) (l : List α) => ∃ v, cs = [v] ∧ Sl size R w F v l) :=
  ⟨fun ⟨v, hv, h⟩ hs hG => ⟨v, hv, h.keep hR hs hG⟩⟩
theorem Sl.below (hR : Good R) {B : Nat} {w w' : World} {v : Value} {l : List α} (h : Sl size R w (· < B) v l) (hb : Below B w w') : Sl size R w' (· < B) v l :=
  h.keep hR (Same.of_below hb) fun _ h => h
theorem Sl.nil (w : World) (F : Nat → Prop) : Sl size R w F (.slice none 0 0) [] := ⟨none, 0, rfl, Nat.le_refl _, by decide, fun h => absurd h (by simp)⟩
/-- An element that is there. -/
theorem Sl.at {w : World} {F : Nat → Prop} {A : Option Addr} {n c : Nat} {l : List α} (h : Sl size R w F (.slice A n c) l) {k : Nat} (hk : k < l.length) :
    ∃ b o cs, A = some ⟨b, o, none⟩ ∧ F b ∧ cs.length = size ∧ (∀ j u, cs[j]? = some u → w.cell? ⟨b, o + k * size + j, none⟩ = some u) ∧ R w F cs l[k] := by
  obtain ⟨A', c', hv, hl, hc, hA⟩ := h
  injection hv with h1 h2 h3
  subst h1
  obtain ⟨b, o, rfl, hb, he⟩ := hA (by omega)
  obtain ⟨cs, h1, h2, h3⟩ := he k l[k] (List.getElem?_eq_getElem hk)
  exact ⟨b, o, cs, rfl, hb, h1, h2, h3⟩
theorem Sl.shape {w : World} {F : Nat → Prop} {v : Value} {l : List α} (h : Sl size R w F v l) : ∃ A c, v = .slice A l.length c ∧ l.length ≤ c ∧ c ≤ 9223372036854775807 := by
  obtain ⟨A, c, hv, hl, hc, _⟩ := h
  exact ⟨A, c, hv, hl, by unfold maxLen at hc; omega⟩
theorem Sl.zero {w w' : World} {F G : Nat → Prop} {v : Value} (h : Sl size R w F v []) : Sl size R w' G v [] := by
  obtain ⟨A, c, hv, hl, hc, _⟩ := h
  exact ⟨A, c, hv, hl, hc, fun h => absurd h (by simp)⟩
end

/-- Elements: numbers, strings. -/
def elStr (_ : World) (_ : Nat → Prop) (cs : List Value) (s : List UInt8) : Prop := cs = [.string (S s)]
theorem elStr_good : Good elStr := ⟨fun h _ _ => h⟩
def elInt (_ : World) (_ : Nat → Prop) (cs : List Value) (x : Int) : Prop := cs = [.int .i64 x]
theorem elInt_good : Good elInt := ⟨fun h _ _ => h⟩

/-- A row of the call's own that reads as the list l; what its elements reach lies in the blocks of G. -/
def OwnG {α : Type} (size : Nat) (R : World → (Nat → Prop) → List Value → α → Prop) (e base : Nat) (w : World) (v : Value) (G : Nat → Prop) (l : List α) : Prop :=
  ∃ css : List (List Value), css.length = l.length ∧ w.ownsRow base e size v l.length css.flatten ∧ (∀ cs ∈ css, cs.length = size) ∧
    ∀ (i : Nat) (a : α) (cs : List Value), l[i]? = some a → css[i]? = some cs → R w G cs a
def NoG : Nat → Prop := fun _ => False
/-- The same where the elements reach nothing. -/
def OwnSl {α : Type} (size : Nat) (R : World → (Nat → Prop) → List Value → α → Prop) (e base : Nat) (w : World) (v : Value) (l : List α) : Prop := OwnG size R e base w v NoG l

theorem flatten_get {css : List (List Value)} {size : Nat} (h : ∀ cs ∈ css, cs.length = size) {i j : Nat} {cs : List Value} {u : Value} (hi : css[i]? = some cs) (hj : cs[j]? = some u) :
    css.flatten[i * size + j]? = some u := by
  induction css generalizing i with
  | nil => simp at hi
  | cons c css ih =>
    have hc := h c (by simp)
    cases i with
    | zero =>
      simp at hi; subst hi
      rw [List.flatten_cons, List.getElem?_append_left (by have := (List.getElem?_eq_some_iff.1 hj).1; simpa using this)]
      simpa using hj
    | succ i =>
      simp at hi
      rw [List.flatten_cons, List.getElem?_append_right (by rw [Nat.succ_mul]; omega)]
      have := ih (fun cs h' => h cs (by simp [h'])) hi
      rw [← this]; congr 1
      rw [Nat.succ_mul]; omega

section
variable {α : Type} {size e base : Nat} {R : World → (Nat → Prop) → List Value → α → Prop} {G : Nat → Prop}
theorem OwnG.nil (w : World) : OwnG size R e base w (.slice none 0 0) G [] :=
  ⟨[], rfl, World.ownsRow_nil _ _ _ _, by simp, by simp⟩
theorem OwnG.owns {w : World} {v : Value} {l : List α} (h : OwnG size R e base w v G l) : ∃ xs, w.ownsRow base e size v l.length xs :=
  let ⟨css, _, h2, _⟩ := h; ⟨css.flatten, h2⟩
theorem OwnG.block {w : World} {v : Value} {l : List α} (h : OwnG size R e base w v G l) : ∀ k, v.ownBlock = some k → base ≤ k ∧ k < w.heap.size :=
  let ⟨css, _, h2, _⟩ := h; h2.lt
/-- The row as a plain slice. -/
theorem OwnG.sl (hR : Good R) {F : Nat → Prop} {w : World} {v : Value} {l : List α} (h : OwnG size R e base w v G l) (hF : ∀ b, G b → F b) (hv : ∀ b, base ≤ b → b < w.heap.size → F b) : Sl size R w F v l := by
  obtain ⟨css, hlen, hown, hsz, hel⟩ := h
  have hown' := hown
  obtain ⟨hx, ⟨rfl, h0⟩ | ⟨g, cap, cur, rfl, hb, hg, hnc, hcm, hcs, htake⟩⟩ := hown
  · have : l = [] := List.eq_nil_of_length_eq_zero h0
    subst this
    exact Sl.nil _ _
  · have hlt : g < w.heap.size := (hown'.lt g rfl).2
    refine ⟨_, cap, rfl, hnc, hcm, fun h0 => ⟨g, 0, rfl, hv g hb hlt, fun i a hi => ?_⟩⟩
    have hil : i < l.length := (List.getElem?_eq_some_iff.1 hi).1
    have hci : css[i]? = some (css[i]'(by omega)) := List.getElem?_eq_getElem _
    refine ⟨css[i]'(by omega), hsz _ (List.getElem_mem _), fun j u hu => ?_, hR.keep (hel i a _ hi hci) (Same.refl _ _) hF⟩
    have := hown'.cells (g := g) rfl (i * size + j) u (flatten_get hsz hci hu)
    have hadd : (⟨g, 0, none⟩ : Addr).add (i * size + j) = ⟨g, i * size + j, none⟩ := by unfold Addr.add; split <;> simp_all
    rw [hadd] at this
    rw [Nat.zero_add]; exact this
/-- The row while the world turns elsewhere. -/
theorem OwnG.keep (hR : Good R) {w w' : World} {G' : Nat → Prop} {v : Value} {l : List α} (h : OwnG size R e base w v G l) (hG : Same G w w') (hGG : ∀ b, G b → G' b) (hs : ∀ b, v.ownBlock = some b → w'.heap[b]? = w.heap[b]?) : OwnG size R e base w' v G' l := by
  obtain ⟨css, hlen, hown, hsz, hel⟩ := h
  refine ⟨css, hlen, ?_, hsz, fun i a cs hi hc => hR.keep (hel i a cs hi hc) hG hGG⟩
  refine ⟨hown.1, ?_⟩
  rcases hown.2 with h0 | ⟨g, cap, cur, hv, hb, hg, hrest⟩
  · exact .inl h0
  · exact .inr ⟨g, cap, cur, hv, hb, (hs g (by rw [hv]; rfl)).trans hg, hrest⟩
theorem OwnG.below (hR : Good R) {w w' : World} {v : Value} {l : List α} (h : OwnG size R e base w v G l) (hb : Below w.heap.size w w') (hG : ∀ b, G b → b < w.heap.size) : OwnG size R e base w' v G l :=
  h.keep hR (Same.below hb hG) (fun _ h => h) fun b hv => hb.block b (h.block b hv).2
/-- Two rows of different element types lie apart. -/
theorem OwnG.apart {β : Type} {size' e' base' : Nat} {R' : World → (Nat → Prop) → List Value → β → Prop} {G' : Nat → Prop} {w : World} {v v' : Value} {l : List α} {l' : List β} (h : OwnG size R e base w v G l) (h' : OwnG size' R' e' base' w v' G' l') (hne : e ≠ e') :
    ∀ b, v.ownBlock = some b → v'.ownBlock ≠ some b := by
  obtain ⟨_, _, ⟨_, ho⟩, _⟩ := h
  obtain ⟨_, _, ⟨_, ho'⟩, _⟩ := h'
  intro b hb hb'
  rcases ho with ⟨rfl, _⟩ | ⟨g, cap, cur, rfl, _, hg, _⟩
  · simp [Value.ownBlock] at hb
  · rcases ho' with ⟨rfl, _⟩ | ⟨g', cap', cur', rfl, _, hg', _⟩
    · simp [Value.ownBlock] at hb'
    · simp only [Value.ownBlock, Option.some.injEq] at hb hb'
      subst hb; subst hb'
      rw [hg] at hg'
      simp only [Option.some.injEq, Obj.cells.injEq] at hg'
      exact hne hg'.2.1
/-- One element more, behind append's law. -/
theorem OwnG.snoc (hR : Good R) {w w' : World} {v' : Value} {l : List α} {a : α} {css : List (List Value)} {cs : List Value} (hlen : css.length = l.length) (hsz : ∀ cs ∈ css, cs.length = size)
    (hel : ∀ (i : Nat) (a : α) (cs : List Value), l[i]? = some a → css[i]? = some cs → R w G cs a)
    (hown' : w'.ownsRow base e size v' (l.length + 1) (css.flatten ++ cs)) (hG : Same G w w') (hcs : cs.length = size) (ha : R w G cs a) : OwnG size R e base w' v' G (l ++ [a]) := by
  refine ⟨css ++ [cs], by simp [hlen], by simpa using hown', fun c hc => ?_, fun i x c hi hc => ?_⟩
  · rcases List.mem_append.1 hc with h | h
    · exact hsz c h
    · simp at h; subst h; exact hcs
  · by_cases hil : i < l.length
    · rw [List.getElem?_append_left hil] at hi
      rw [List.getElem?_append_left (by omega)] at hc
      exact hR.keep (hel i x c hi hc) hG fun _ h => h
    · have hi' : i < (l ++ [a]).length := (List.getElem?_eq_some_iff.1 hi).1
      have : i = l.length := by simp at hi'; omega
      subst this
      rw [List.getElem?_append_right (Nat.le_refl _)] at hi
      rw [List.getElem?_append_right (by omega), hlen] at hc
      simp at hi hc
      subst hi; subst hc
      exact hR.keep ha hG fun _ h => h

theorem OwnSl.nil (w : World) : OwnSl size R e base w (.slice none 0 0) [] := OwnG.nil w
theorem OwnSl.sl (hR : Good R) {w : World} {v : Value} {l : List α} (h : OwnSl size R e base w v l) : Sl size R w (fun b => base ≤ b ∧ b < w.heap.size) v l :=
  OwnG.sl hR h (fun _ h => h.elim) fun _ h1 h2 => ⟨h1, h2⟩
theorem OwnSl.block {w : World} {v : Value} {l : List α} (h : OwnSl size R e base w v l) : ∀ k, v.ownBlock = some k → base ≤ k ∧ k < w.heap.size := OwnG.block h
theorem OwnSl.below (hR : Good R) {w w' : World} {v : Value} {l : List α} (h : OwnSl size R e base w v l) (hb : Below w.heap.size w w') : OwnSl size R e base w' v l :=
  OwnG.below hR h hb fun _ h => h.elim
theorem OwnSl.grown (hR : Good R) {w w' : World} {row : Option Nat} {v : Value} {l : List α} (h : OwnSl size R e base w v l) (hg : w.grownBy w' row) (hne : ∀ b, v.ownBlock = some b → row ≠ some b) : OwnSl size R e base w' v l :=
  OwnG.keep hR h (fun _ h => h.elim) (fun _ h => h) fun b hv => hg.block b (h.block b hv).2 fun e => hne b hv e.symm
theorem OwnSl.alloc (hR : Good R) {w : World} {v : Value} {l : List α} (h : OwnSl size R e base w v l) (o : Obj) : OwnSl size R e base (w.alloc o) v l :=
  h.below hR ((Below.refl _ _).alloc (Nat.le_refl _) o)
theorem OwnG.alloc (hR : Good R) {w : World} {v : Value} {l : List α} (h : OwnG size R e base w v G l) (hG : ∀ b, G b → b < w.heap.size) (o : Obj) : OwnG size R e base (w.alloc o) v G l :=
  h.below hR ((Below.refl _ _).alloc (Nat.le_refl _) o) hG
end

/-- What the program's table says of a slice type and its element type. -/
def ElemOf (P : Program) (t e : TypeId) (size bytes : Nat) : Prop :=
  ∃ i z, P.underlying t = some (.slice e) ∧ P.info? e = some i ∧ i.zero = some z ∧ i.size = size ∧ i.bytes = bytes ∧ z.cells.size = size ∧ 0 < size
theorem ElemOf.mk {P : Program} {t e : TypeId} {size bytes : Nat} {z : Value} (h1 : P.underlying t = some (.slice e)) (h2 : (P.info? e).map (fun i => (i.zero, i.size, i.bytes)) = some (some z, size, bytes))
    (h3 : z.cells.size = size) (h4 : 0 < size) : ElemOf P t e size bytes := by
  obtain ⟨i, a, b, c, d⟩ := info_parts h2
  exact ⟨i, z, h1, a, b, c, d, h3, h4⟩

theorem cells_new (w : World) (cs : List Value) (e : TypeId) (fr : Nat × Nat) : ∀ j u, cs[j]? = some u → (w.alloc (.cells cs.toArray e fr)).cell? ((⟨w.heap.size, 0, none⟩ : Addr).add j) = some u := by
  intro j u hu
  have hadd : (⟨w.heap.size, 0, none⟩ : Addr).add j = ⟨w.heap.size, j, none⟩ := by unfold Addr.add; split <;> simp_all
  rw [hadd, cell_of_row _ _ j cs.toArray e fr (heap_alloc_new w _)]
  simpa using hu
/-- A slice of one element, just laid. -/
theorem Sl.fresh1 {α : Type} {size : Nat} {R : World → (Nat → Prop) → List Value → α → Prop} (w : World) (F : Nat → Prop) (cs : List Value) (e : TypeId) (a : α) (hl : cs.length = size) (hF : F w.heap.size) (hr : R (w.alloc (.cells cs.toArray e)) F cs a) :
    Sl size R (w.alloc (.cells cs.toArray e)) F (.slice (some ⟨w.heap.size, 0, none⟩) 1 1) [a] := by
  refine ⟨_, 1, rfl, Nat.le_refl _, by decide, fun _ => ⟨w.heap.size, 0, rfl, hF, fun i b hi => ?_⟩⟩
  have : i = 0 := by have := (List.getElem?_eq_some_iff.1 hi).1; simp at this; exact this
  subst this
  simp at hi; subst hi
  refine ⟨cs, hl, fun j u hu => ?_, hr⟩
  have := cells_new w cs e (0, 0) j u hu
  have hadd : (⟨w.heap.size, 0, none⟩ : Addr).add j = ⟨w.heap.size, j, none⟩ := by unfold Addr.add; split <;> simp_all
  rw [hadd] at this
  rw [Nat.zero_add, Nat.zero_mul, Nat.zero_add]; exact this
theorem Sl.at1 {α : Type} {R : World → (Nat → Prop) → List Value → α → Prop} {w : World} {F : Nat → Prop} {A : Option Addr} {n c : Nat} {l : List α} (h : Sl 1 R w F (.slice A n c) l) {k : Nat} (hk : k < l.length) :
    ∃ b o u, A = some ⟨b, o, none⟩ ∧ F b ∧ w.cell? ⟨b, o + k, none⟩ = some u ∧ R w F [u] l[k] := by
  obtain ⟨b, o, cs, h1, h2, h3, h4, h5⟩ := h.at hk
  match cs, h3 with
  | [u], _ => exact ⟨b, o, u, h1, h2, by have := h4 0 u rfl; rwa [Nat.mul_one, Nat.add_zero] at this, h5⟩
theorem Sl.str_at {w : World} {F : Nat → Prop} {A : Option Addr} {n c : Nat} {l : List (List UInt8)} (h : Sl 1 elStr w F (.slice A n c) l) {k : Nat} (hk : k < l.length) :
    ∃ b o, A = some ⟨b, o, none⟩ ∧ F b ∧ w.cell? ⟨b, o + k, none⟩ = some (.string (S l[k])) := by
  obtain ⟨b, o, u, h1, h2, h3, h4⟩ := h.at1 hk
  have : u = .string (S l[k]) := by injection h4
  subst this
  exact ⟨b, o, h1, h2, h3⟩
theorem oneCells {cs : List Value} (h : cs.all (·.oneCell') = true) : ∀ u ∈ cs, u.oneCell' = true := List.all_eq_true.1 h
/-- append of one element onto a row of the call's own. -/
theorem wpList_append_g {P : Program} (w : World) {ops : Array Oper} {rest : List Oper} {o : Oper} {a : Act} {Q : Exit → Act → World → Prop} (hgd : o.guard = none) (s x : Operand) (t : TypeId)
    (ho : o.op = .call { callee := .builtin .append, args := #[s, x], argTypes := #[t, t] })
    {e : TypeId} {size bytes : Nat} (hE : ElemOf P t e size bytes) {α : Type} {R : World → (Nat → Prop) → List Value → α → Prop} (hR : Good R)
    (base : Nat) (v : Value) (G : Nat → Prop) (l : List α) (hs : a.eval s = v) (hown : OwnG size R e base w v G l)
    (ad : Addr) (c : Nat) (cs : List Value) (hx : a.eval x = .slice (some ad) 1 c) (el : α) (hl : cs.length = size) (hcell : ∀ j u, cs[j]? = some u → w.cell? (ad.add j) = some u)
    (h1 : ∀ u ∈ cs, u.oneCell' = true) (hG : ∀ b, G b → b < w.heap.size ∧ v.ownBlock ≠ some b) (hel : R w G cs el)
    (h63 : l.length + 1 ≤ maxLen) (hbytes : (l.length + 1) * bytes ≤ 140737488355328) (hbase : base ≤ w.heap.size)
    (h : ∀ v' w', OwnG size R e base w' v' G (l ++ [el]) → w.grownBy w' v.ownBlock → (v'.ownBlock = v.ownBlock ∨ v'.ownBlock = some w.heap.size) → wpList P ops Q rest (a.put o.dst v') w') : wpList P ops Q (o :: rest) a w := by
  obtain ⟨i, z, e1, e2, e3, e4, e5, e6, e7⟩ := hE
  obtain ⟨css, hlen, ho', hsz, hel'⟩ := hown
  obtain ⟨v', w', hr, h2, h3, _, h4⟩ := run_append_own_at (P := P) w base t o.type e i z size bytes e1 e2 e3 e4 e5 e6 e7 v l.length css.flatten ho' ad 1 c cs (by omega) hcell h1 h63 hbytes hbase
  refine wpList_plain hgd fun K hK => ?_
  unfold Oper.wp execOp
  simp only [ho, resolve, invoke, builtin, Sem.run_bind, Sem.run_pure, Result.andThen_ok, List.map_toArray, List.map_cons, List.map_nil, hs, hx, hr]
  exact hK _ _ (h v' w' (OwnG.snoc hR hlen hsz hel' h2 (Same.grown h3 fun b hb => ⟨(hG b hb).1, fun e => (hG b hb).2 e.symm⟩) hl hel) h3 h4)
theorem wpList_append_sl {P : Program} (w : World) {ops : Array Oper} {rest : List Oper} {o : Oper} {a : Act} {Q : Exit → Act → World → Prop} (hgd : o.guard = none) (s x : Operand) (t : TypeId)
    (ho : o.op = .call { callee := .builtin .append, args := #[s, x], argTypes := #[t, t] })
    {e : TypeId} {size bytes : Nat} (hE : ElemOf P t e size bytes) {α : Type} {R : World → (Nat → Prop) → List Value → α → Prop} (hR : Good R)
    (base : Nat) (v : Value) (l : List α) (hs : a.eval s = v) (hown : OwnSl size R e base w v l)
    (ad : Addr) (c : Nat) (cs : List Value) (hx : a.eval x = .slice (some ad) 1 c) (el : α) (hl : cs.length = size) (hcell : ∀ j u, cs[j]? = some u → w.cell? (ad.add j) = some u)
    (h1 : ∀ u ∈ cs, u.oneCell' = true) (hel : R w NoG cs el)
    (h63 : l.length + 1 ≤ maxLen) (hbytes : (l.length + 1) * bytes ≤ 140737488355328) (hbase : base ≤ w.heap.size)
    (h : ∀ v' w', OwnSl size R e base w' v' (l ++ [el]) → w.grownBy w' v.ownBlock → (v'.ownBlock = v.ownBlock ∨ v'.ownBlock = some w.heap.size) → wpList P ops Q rest (a.put o.dst v') w') : wpList P ops Q (o :: rest) a w :=
  wpList_append_g w hgd s x t ho hE hR base v NoG l hs hown ad c cs hx el hl hcell h1 (fun _ h => h.elim) hel h63 hbytes hbase h
/-- Behind such an append nothing below the row has turned. -/
theorem below_own {α : Type} {size e base B : Nat} {R : World → (Nat → Prop) → List Value → α → Prop} {G : Nat → Prop} {W w w' : World} {v : Value} {l : List α} (hb : Below B W w) (ho : OwnG size R e base w v G l) (hg : w.grownBy w' v.ownBlock) (h1 : B ≤ base) (h2 : base ≤ w.heap.size) : Below B W w' :=
  hb.grown hg (by omega) fun k hk => by have := ho.block k hk; omega

def elByte (_ : World) (_ : Nat → Prop) (cs : List Value) (c : UInt8) : Prop := cs = [.int .u8 (c.toNat : Int)]
theorem elByte_good : Good elByte := ⟨fun h _ _ => h⟩

/-- string(b) of a slice that reads as bytes. -/
theorem run_string_of {P : Program} {src dst e : TypeId} (hs : P.underlying src = some (.slice e)) (hd : P.underlying dst = some .string) (he : P.underlying e = some (.int .u8)) (w : World) {F : Nat → Prop} {v : Value} {l : List UInt8}
    (h : Sl 1 elByte w F v l) : (convert src dst v).run P w = .ok (.string (S l)) w := by
  obtain ⟨A, c, rfl, hl, hc, hA⟩ := h
  by_cases h0 : 0 < l.length
  · obtain ⟨b, o, rfl, hb, he'⟩ := hA h0
    have hnum : strOfNums (l.map fun c => (c.toNat : Int)) = S l := by
      simp [strOfNums, S, Function.comp_def]
    rw [← hnum]
    refine run_convert_bytes_arg w src e hs he b o l.length c _ (by simp) (fun i hi => ?_) dst hd
    obtain ⟨cs, h1, h2, h3⟩ := he' i l[i] (List.getElem?_eq_getElem hi)
    have h3' : cs = [.int .u8 (l[i].toNat : Int)] := h3
    have := h2 0 (.int .u8 (l[i].toNat : Int)) (by rw [h3']; rfl)
    rw [Nat.add_zero, Nat.mul_one] at this
    rw [this]
    simp [List.getD, List.getElem?_eq_getElem hi]
  · have : l = [] := List.eq_nil_of_length_eq_zero (by omega)
    subst this
    cases A with
    | none => exact run_convert_bytes_nil w src e hs he 0 c dst hd
    | some a =>
      rw [run_convert_bytes_string w src dst e _ _ c hs he hd, run_bytesToString w _ _ c [] (by simp [loadCells, loadCellsFrom])]
      rfl
end

section
/-! part B -/
open Go.RowKit

/-- Block g is just these cells, none frozen. -/
def Blk (w : World) (g : Nat) (t : TypeId) (cs : Array Value) : Prop := w.heap[g]? = some (.cells cs t (0, 0))
section
variable {w w' : World} {g : Nat} {t : TypeId} {cs : Array Value}
theorem Blk.lt (h : Blk w g t cs) : g < w.heap.size := by
  rcases Nat.lt_or_ge g w.heap.size with hlt | hge
  · exact hlt
  · unfold Blk at h; rw [Array.getElem?_eq_none hge] at h; cases h
theorem Blk.cell (h : Blk w g t cs) (i : Nat) : w.cell? ⟨g, i, none⟩ = cs[i]? := Lib.cell_of_heap h i
theorem Blk.frozen (h : Blk w g t cs) (i : Nat) : w.frozen? ⟨g, i, none⟩ = false := Lib.frozen_of_heap h i
theorem Blk.new (w : World) (t : TypeId) (cs : Array Value) : Blk (w.alloc (.cells cs t)) w.heap.size t cs := heap_alloc_new w _
theorem Blk.set_ (h : Blk w g t cs) (i : Nat) (u : Value) : Blk (w.setCell ⟨g, i, none⟩ u) g t (cs.setIfInBounds i u) := by
  unfold Blk at h ⊢
  simp [World.setCell, Array.getElem?_modify, h]
theorem Blk.far (h : Blk w g t cs) {p : Addr} (hp : g ≠ p.block) (u : Value) : Blk (w.setCell p u) g t cs := (Below.heap_setCell w p u g hp).trans h
theorem Blk.below {B : Nat} (h : Blk w g t cs) (hb : Below B w w') (hg : g < B) : Blk w' g t cs := (hb.block g hg).trans h
theorem Blk.alloc (h : Blk w g t cs) (o : Obj) : Blk (w.alloc o) g t cs := (Below.heap_alloc w o g h.lt).trans h
theorem Blk.keep {F : Nat → Prop} (h : Blk w g t cs) (hs : Same F w w') (hg : F g) : Blk w' g t cs := (hs g hg).trans h
theorem Blk.grown {row : Option Nat} (h : Blk w g t cs) (hb : w.grownBy w' row) (hg : row ≠ some g) : Blk w' g t cs := (hb.block g h.lt fun e => hg e.symm).trans h
end
/-- Only block g, and what is new, has turned. -/
def Only (g : Nat) (w w' : World) : Prop := w.grownBy w' (some g)
section
variable {a w w' : World} {g B : Nat}
theorem Only.refl (g : Nat) (w : World) : Only g w w := World.grownBy.refl w _
theorem Only.trans (h : Only g a w) (k : Only g w w') : Only g a w' :=
  ⟨k.os.trans h.os, k.tape.trans h.tape, k.output.trans h.output, Nat.le_trans h.size k.size, fun i hi hne => (k.block i (Nat.lt_of_lt_of_le hi h.size) hne).trans (h.block i hi hne)⟩
theorem Only.alloc (h : Only g a w) (o : Obj) : Only g a (w.alloc o) :=
  ⟨h.os, h.tape, h.output, Nat.le_trans h.size (by simp), fun i hi hne => (Below.heap_alloc w o i (Nat.lt_of_lt_of_le hi h.size)).trans (h.block i hi hne)⟩
theorem Only.setCell (h : Only g a w) {p : Addr} (hp : p.block = g ∨ a.heap.size ≤ p.block) (u : Value) : Only g a (w.setCell p u) :=
  ⟨h.os, h.tape, h.output, by simpa [World.setCell] using h.size, fun i hi hne => (Below.heap_setCell w p u i (by
    rintro rfl
    rcases hp with hp | hp
    · exact hne (by rw [hp])
    · omega)).trans (h.block i hi hne)⟩
theorem Only.drew (h : Only g a w) : Only g a w.drew := ⟨h.os, h.tape, h.output, h.size, h.block⟩
theorem Only.drewN (h : Only g a w) (n : Nat) : Only g a (w.drewN n) := ⟨h.os, h.tape, h.output, h.size, h.block⟩
theorem Only.of_below (h : Below a.heap.size a w) : Only g a w := ⟨h.os, h.tape, h.output, h.size, fun i hi _ => h.block i hi⟩
theorem Only.below (h : Only g a w) (hg : B ≤ g) (hB : B ≤ a.heap.size) : Below B a w := ⟨h.os, h.tape, h.output, h.size, fun k hk => h.block k (by omega) (by intro e; injection e with e; omega)⟩
theorem Only.same {F : Nat → Prop} (h : Only g a w) (hF : ∀ b, F b → b < a.heap.size ∧ b ≠ g) : Same F a w := fun b hb => h.block b (hF b hb).1 (by intro e; injection e with e; exact (hF b hb).2 e)
end
theorem Below.drewN_ {B : Nat} {a w : World} (h : Below B a w) (n : Nat) : Below B a (w.drewN n) := ⟨h.os, h.tape, h.output, h.size, h.block⟩
/-- A builder while the world turns elsewhere. -/
theorem builder_keep {T e : TypeId} {B b : Nat} {bs : List Value} {w w' : World} (h : Lib.IsBuilder T e B b bs w) (hb : Below w.heap.size w w') : Lib.IsBuilder T e B b bs w' := by
  have key : ∀ p, Lib.BuilderAt T e B b p bs w → Lib.BuilderAt T e B b p bs w' := by
    rintro p ⟨h1, v, h2, h3, h4⟩
    have hlt : b < w.heap.size := by
      rcases Nat.lt_or_ge b w.heap.size with hlt | hge
      · exact hlt
      · rw [Array.getElem?_eq_none hge] at h2; cases h2
    refine ⟨h1, v, (hb.block b hlt).trans h2, ?_, h4⟩
    refine ⟨h3.1, ?_⟩
    rcases h3.2 with h0 | ⟨g, cap, cur, hv, hbg, hg, hrest⟩
    · exact .inl h0
    · exact .inr ⟨g, cap, cur, hv, hbg, (hb.block g (Array.getElem?_eq_some_iff.1 hg).1).trans hg, hrest⟩
  rcases h with h | h
  · exact .inl (key _ h)
  · exact .inr (key _ h)
theorem Sl.take {α : Type} {size : Nat} {R : World → (Nat → Prop) → List Value → α → Prop} {w : World} {F : Nat → Prop} {A : Option Addr} {n c k : Nat} {l : List α} (h : Sl size R w F (.slice A n c) l) (hk : k ≤ l.length) : Sl size R w F (.slice A k c) (l.take k) := by
  obtain ⟨A', c', hv, hl, hc, hA⟩ := h
  injection hv with h1 h2 h3
  subst h1; subst h3
  have hlen : (l.take k).length = k := by simp; omega
  refine ⟨A, c, by rw [hlen], by omega, hc, fun h0 => ?_⟩
  obtain ⟨b, o, e, hF, hel⟩ := hA (by omega)
  refine ⟨b, o, e, hF, fun i a hi => ?_⟩
  rw [List.getElem?_take] at hi
  split at hi
  · exact hel i a hi
  · cases hi

theorem Blk.four {w : World} {g : Nat} {t : TypeId} {a b c d : Value} (h : Blk w g t #[a, b, c, d]) :
    w.cell? ⟨g, 0, none⟩ = some a ∧ w.cell? ⟨g, 1, none⟩ = some b ∧ w.cell? ⟨g, 2, none⟩ = some c ∧ w.cell? ⟨g, 3, none⟩ = some d ∧ w.frozen? ⟨g, 0, none⟩ = false ∧ w.frozen? ⟨g, 1, none⟩ = false ∧ w.frozen? ⟨g, 2, none⟩ = false ∧ w.frozen? ⟨g, 3, none⟩ = false :=
  ⟨h.cell 0, h.cell 1, h.cell 2, h.cell 3, h.frozen 0, h.frozen 1, h.frozen 2, h.frozen 3⟩
theorem Blk.three {w : World} {g : Nat} {t : TypeId} {a b c : Value} (h : Blk w g t #[a, b, c]) :
    w.cell? ⟨g, 0, none⟩ = some a ∧ w.cell? ⟨g, 1, none⟩ = some b ∧ w.cell? ⟨g, 2, none⟩ = some c ∧ w.frozen? ⟨g, 0, none⟩ = false ∧ w.frozen? ⟨g, 1, none⟩ = false ∧ w.frozen? ⟨g, 2, none⟩ = false :=
  ⟨h.cell 0, h.cell 1, h.cell 2, h.frozen 0, h.frozen 1, h.frozen 2⟩
theorem Blk.drew {w : World} {g : Nat} {t : TypeId} {cs : Array Value} (h : Blk w g t cs) : Blk w.drew g t cs := h
end

section
/-! part O -/
open Go.RowKit

abbrev Tab := Nat → World → Value → Prop
def Holds (V : Tab) (a : Act) (w : World) (d : Nat) : Prop := ∃ v, a.tmps[d]? = some v ∧ V d w v
/-- An operation yields a value of its slot's kind and turns nothing that was there. -/
def Meets (P : Program) (V : Tab) (o : Oper) (a : Act) (w : World) : Prop :=
  ∀ d, o.dst = some d → ∀ K Q, (∀ v w', Below w.heap.size w w' → V d w' v → K (a.put o.dst v) w') → o.wp P a w K Q

structure FreeR (P : Program) (ops : Array Oper) (V : Tab) (G : World → Prop) (needs : Nat → List Nat) (init : List Nat) (N : Nat) : Prop where
  back : ∀ (i : Nat) (o : Oper), ops[i]? = some o → ∀ e ∈ o.after, e.on < i
  dst : ∀ (i : Nat) (o : Oper), ops[i]? = some o → o.guard = none ∧ ∃ d, o.dst = some d ∧ d < N
  need : ∀ (i : Nat) (o : Oper), ops[i]? = some o → ∀ d ∈ needs i, d ∈ init ∨ ∃ e ∈ o.after, Region.binds .any e = true ∧ ∃ p, ops[e.on]? = some p ∧ p.dst = some d
  sV : ∀ d w w' v, V d w v → Below w.heap.size w w' → V d w' v
  sG : ∀ w w', G w → Below w.heap.size w w' → G w'
  step : ∀ (i : Nat) (o : Oper), ops[i]? = some o → ∀ a w, G w → (∀ x ∈ needs i, Holds V a w x) → Meets P V o a w

structure RIn (ops : Array Oper) (V : Tab) (G : World → Prop) (init : List Nat) (a0 : Act) (w0 : World) (listed : Array Bool) (a : Act) (w : World) : Prop where
  size : a.tmps.size = a0.tmps.size
  dfr : a.defers = a0.defers
  g : G w
  below : Below w0.heap.size w0 w
  ini : ∀ d ∈ init, Holds V a w d
  done : ∀ (i : Nat) (o : Oper) (d : Nat), ops[i]? = some o → listed.getD i false = true → o.dst = some d → Holds V a w d
  keep : ∀ k, (∀ (i : Nat) (o : Oper), ops[i]? = some o → o.dst ≠ some k) → a.tmps[k]? = a0.tmps[k]?

section
variable {P : Program} {ops : Array Oper} {V : Tab} {G : World → Prop} {needs : Nat → List Nat} {init : List Nat} {N : Nat} {Q : Exit → Act → World → Prop} {a0 : Act} {w0 : World}

theorem put_get {a : Act} {d k : Nat} {v : Value} : (a.put (some d) v).tmps[k]? = if d = k ∧ k < a.tmps.size then some v else a.tmps[k]? := by
  unfold Act.put
  dsimp only
  rw [Array.getElem?_setIfInBounds]
  by_cases h : d = k
  · subst h
    by_cases h2 : d < a.tmps.size
    · simp [h2]
    · rw [if_pos rfl, if_neg h2, if_neg (by simp [h2]), Array.getElem?_eq_none (Nat.not_lt.1 h2)]
  · simp [h]
theorem Holds.put {a : Act} {w w' : World} {d k : Nat} {v : Value} (hsV : ∀ d w w' v, V d w v → Below w.heap.size w w' → V d w' v) (h : Holds V a w k) (hb : Below w.heap.size w w') (hv : V d w' v) : Holds V (a.put (some d) v) w' k := by
  obtain ⟨u, h1, h2⟩ := h
  unfold Holds
  rw [put_get]
  split
  · rename_i hc; obtain ⟨rfl, _⟩ := hc; exact ⟨v, rfl, hv⟩
  · exact ⟨u, h1, hsV _ _ _ _ h2 hb⟩
theorem all_listed {listed : Array Bool} (hF : FreeR P ops V G needs init N) (hr : Region.ready .any ops listed = []) (hsz : listed.size = ops.size) : ∀ i, i < ops.size → listed.getD i false = true := by
  intro i
  induction i using Nat.strongRecOn with
  | ind i ih =>
    intro hi
    cases hl : listed.getD i false with
    | true => rfl
    | false =>
      exfalso
      have h2 : listed.getD i true = false := by
        have hlt : i < listed.size := by omega
        simp [hlt] at hl ⊢; exact hl
      have ho : ops[i]? = some ops[i] := Array.getElem?_eq_getElem hi
      have : i ∈ Region.ready .any ops listed := mem_ready.2 ⟨h2, _, ho, fun e he _ => ih e.on (hF.back i _ ho e he) (by have := hF.back i _ ho e he; omega)⟩
      rw [hr] at this
      cases this
theorem count_set : ∀ (l : List Bool) (i : Nat), l[i]? = some false → (l.set i true).count false + 1 = l.count false := by
  intro l
  induction l with
  | nil => intro i h; simp at h
  | cons b l ih =>
    intro i h
    cases i with
    | zero => simp at h; subst h; simp
    | succ i =>
      simp at h
      have := ih i h
      rw [List.set_cons_succ, List.count_cons, List.count_cons]
      omega
theorem wpAny_free (hF : FreeR P ops V G needs init N) (hN : N ≤ a0.tmps.size) (fin : ∀ a w, RIn ops V G init a0 w0 (Array.replicate ops.size true) a w → Q .normal a w) :
    ∀ (fuel : Nat) (listed : Array Bool) (a : Act) (w : World), listed.size = ops.size → listed.toList.count false ≤ fuel → RIn ops V G init a0 w0 listed a w → wpAny P .any ops Q fuel listed a w := by
  have hfin : ∀ (listed : Array Bool) (a : Act) (w : World), listed.size = ops.size → Region.ready .any ops listed = [] → RIn ops V G init a0 w0 listed a w → Q .normal a w := by
    intro listed a w hsz hr h
    refine fin a w ⟨h.size, h.dfr, h.g, h.below, h.ini, fun i o d ho _ hd => h.done i o d ho (all_listed hF hr hsz i (Array.getElem?_eq_some_iff.1 ho).1) hd, h.keep⟩
  intro fuel
  induction fuel with
  | zero =>
    intro listed a w hsz hc h
    have hr : Region.ready .any ops listed = [] := by
      cases hr : Region.ready .any ops listed with
      | nil => rfl
      | cons j t =>
        exfalso
        have hj : j ∈ Region.ready .any ops listed := by rw [hr]; simp
        obtain ⟨h1, o, ho, _⟩ := mem_ready.1 hj
        have hlt : j < listed.size := by have := (Array.getElem?_eq_some_iff.1 ho).1; omega
        have h2 : listed[j]? = some false := by
          rw [Array.getElem?_eq_getElem hlt]; simp [hlt] at h1; rw [h1]
        have : false ∈ listed.toList := Array.mem_toList_iff.2 (Array.mem_of_getElem? h2)
        have := List.count_pos_iff.2 this
        omega
    exact ⟨hr, hfin listed a w hsz hr h⟩
  | succ fuel ih =>
    intro listed a w hsz hc h
    refine ⟨fun hr => hfin listed a w hsz hr h, fun i hi => ?_⟩
    obtain ⟨h1, o, ho, hall⟩ := mem_ready.1 hi
    obtain ⟨hg, d, hd, hdN⟩ := hF.dst i o ho
    have hlt : i < listed.size := by have := (Array.getElem?_eq_some_iff.1 ho).1; omega
    have h2 : listed[i]? = some false := by
      rw [Array.getElem?_eq_getElem hlt]; simp [hlt] at h1; rw [h1]
    have hcnt := count_set listed.toList i (by rw [Array.getElem?_toList]; exact h2)
    unfold wpOp
    rw [ho]
    dsimp only
    have hw : Region.wanted o (yielded ops a.tmps) = true := by unfold Region.wanted; rw [hg]
    rw [hw, if_pos rfl]
    refine .inl (hF.step i o ho a w h.g (fun x hx => ?_) d hd _ _ fun v w' hb hv => ?_)
    · rcases hF.need i o ho x hx with hx | ⟨e, he, hbi, p, hp, hpd⟩
      · exact h.ini x hx
      · exact h.done e.on p x hp (hall e he hbi) hpd
    · rw [hd]
      refine ih _ _ _ (by simpa using hsz) (by rw [Array.toList_setIfInBounds]; omega) ⟨by unfold Act.put; simpa using h.size, h.dfr, hF.sG _ _ h.g hb, h.below.trans (hb.mono h.below.size), fun x hx => (h.ini x hx).put hF.sV hb hv, fun j p x hj hl hx => ?_, fun k hk => ?_⟩
      · by_cases hji : j = i
        · subst hji
          rw [ho] at hj; obtain rfl := Option.some.inj hj
          have hdx : d = x := Option.some.inj (hd.symm.trans hx)
          subst hdx
          refine ⟨v, ?_, hv⟩
          rw [put_get, if_pos ⟨rfl, by rw [h.size]; exact Nat.lt_of_lt_of_le hdN hN⟩]
        · have hl' : listed.getD j false = true := by rw [getD_set_ne false (Ne.symm hji)] at hl; exact hl
          exact (h.done j p x hj hl' hx).put hF.sV hb hv
      · rw [put_get, if_neg (fun hc => hk i o ho (by rw [hd, hc.1]))]
        exact h.keep k hk
/-- **The region**: whatever order is drawn. -/
theorem wp_region_free {id : Nat} (hm : P.follows .mixedOrders = true) (hF : FreeR P ops V G needs init N) (hN : N ≤ a0.tmps.size) (hG : G w0) (hini : ∀ d ∈ init, Holds V a0 w0 d)
    (fin : ∀ a w, RIn ops V G init a0 w0 (Array.replicate ops.size true) a w → Q .normal a w) : (Code.region id ops true).wp P Q a0 w0 := by
  have hb : Below w0.heap.size w0 { w0 with drawn := w0.drawn + 1 } := Below.drew (Below.refl _ _)
  refine wp_region_any hm (wpAny_free hF hN fin _ _ _ _ (by simp) (by simp) ⟨rfl, rfl, hF.sG _ _ hG hb, hb, fun d hd => ?_, fun i o d ho hl => ?_, fun _ _ => rfl⟩)
  · obtain ⟨v, h1, h2⟩ := hini d hd
    exact ⟨v, h1, hF.sV _ _ _ _ h2 hb⟩
  · exfalso
    have hlt := (Array.getElem?_eq_some_iff.1 ho).1
    simp [hlt] at hl
theorem RIn.slot {listed : Array Bool} {a : Act} {w : World} (h : RIn ops V G init a0 w0 listed a w) (i : Nat) (o : Oper) (d : Nat) (ho : ops[i]? = some o) (hl : listed.getD i false = true) (hd : o.dst = some d) : Holds V a w d := h.done i o d ho hl hd

theorem eval_tmp {a : Act} {d : Nat} {v : Value} (h : a.tmps[d]? = some v) : a.eval (.tmp d) = v := by
  show a.tmps.getD d undef = v
  rw [Array.getD_eq_getD_getElem?, h]; rfl

theorem meets_value {o : Oper} {a : Act} {w : World} {v : Value} (hr : (execOp a.eval o).run P w = .ok (.value v) w) (hv : ∀ d, o.dst = some d → V d w v) : Meets P V o a w := by
  intro d hd K Q hK
  unfold Oper.wp
  rw [hr]
  exact hK v w (Below.refl _ _) (hv d hd)
theorem meets_move {o : Oper} {a : Act} {w : World} {x : Operand} (ho : o.op = .move x ∨ o.op = .assign x) (hv : ∀ d, o.dst = some d → V d w (a.eval x)) : Meets P V o a w := by
  refine meets_value (v := a.eval x) ?_ hv
  unfold execOp
  rcases ho with ho | ho <;> simp only [ho, Sem.run_pure]
theorem meets_field {o : Oper} {a : Act} {w : World} {s : TypeId} {x : Operand} {f : Nat} {p q : Addr} (ho : o.op = .fieldAddr s x f) (hx : a.eval x = .pointer (some p))
    (hr : (Instr.fieldAt s (.pointer (some p)) f).run P w = .ok (.pointer (some q)) w) (hv : ∀ d, o.dst = some d → V d w (.pointer (some q))) : Meets P V o a w := by
  refine meets_value (v := .pointer (some q)) ?_ hv
  unfold execOp
  simp only [ho, hx, Sem.run_bind, hr, Result.andThen_ok, Sem.run_pure]
theorem meets_load {o : Oper} {a : Act} {w : World} {t : TypeId} {x : Operand} {p : Addr} {v : Value} (ho : o.op = .load t x) (hx : a.eval x = .pointer (some p))
    (hr : (Instr.loadAt t (.pointer (some p))).run P w = .ok v w) (hv : ∀ d, o.dst = some d → V d w v) : Meets P V o a w := by
  refine meets_value (v := v) ?_ hv
  unfold execOp
  simp only [ho, hx, Sem.run_bind, hr, Result.andThen_ok, Sem.run_pure]
theorem loadAt_cell {t : TypeId} {w : World} {p : Addr} {v : Value} (ht : (isAgg t).run P w = .ok false w) (hc : w.cell? p = some v) : (Instr.loadAt t (.pointer (some p))).run P w = .ok v w := by
  simp [Instr.loadAt, Instr.sureAddr, loadVar, ht, hc]
theorem meets_build {o : Oper} {a : Act} {w : World} {t e : TypeId} {len : Nat} {parts : Array (Nat × Operand)} (ho : o.op = .buildSlice t len parts) (cells : Array Value)
    (hr : (Instr.buildSlice t len (parts.map fun (i, x) => (i, a.eval x))).run P w = .ok (.slice (some ⟨w.heap.size, 0, none⟩) len len) (w.alloc (.cells cells e)))
    (hv : ∀ d, o.dst = some d → V d (w.alloc (.cells cells e)) (.slice (some ⟨w.heap.size, 0, none⟩) len len)) : Meets P V o a w := by
  intro d hd K Q hK
  unfold Oper.wp execOp
  simp only [ho, Sem.run_bind, hr, Result.andThen_ok, Sem.run_pure]
  exact hK _ _ (Below.alloc (Below.refl _ _) (Nat.le_refl _) _) (hv d hd)
theorem enter_run {f : FuncId} {fn : Func} {c : Code} (hf : P.funcs[f]? = some fn) (hname : (fn.name == "runtime.NumGoroutine") = false) (hb : fn.body = some c) (args : Array Value) (w : World) :
    (callFunc f args).run P w = .ok (.enter f args) w := by
  have h1 : fn.name ≠ "runtime.NumGoroutine" := by simpa using hname
  simp [callFunc, hf, h1, hb]
theorem meets_call {o : Oper} {a : Act} {w : World} {c : Call} {g : Operand} {f : FuncId} {fn : Func} {args : Array Value} (ho : o.op = .call c) (hc : c.callee = .value g) (hg : a.eval g = .func (.func f) #[] #[]) (ha : c.args.map a.eval = args)
    (hf : P.funcs[f]? = some fn) (hname : (fn.name == "runtime.NumGoroutine") = false) (hb : fn.body.isSome = true)
    (hk : ∀ d, o.dst = some d → Calls P f args w fun e w' => ∃ v, e = .returned v ∧ Below w.heap.size w w' ∧ V d w' v) : Meets P V o a w := by
  intro d hd K Q hK
  unfold Oper.wp execOp
  obtain ⟨b, hb⟩ := Option.isSome_iff_exists.1 hb
  have hr := enter_run (P := P) hf hname hb args w
  simp only [ho, resolve, hc, hg, ha, Deferred.ofValue, invoke, Sem.run_bind, Sem.run_pure, Result.andThen_ok, Array.append_empty, Array.empty_append, hr]
  refine (hk d hd).mono ?_
  rintro e w' ⟨v, rfl, h1, h2⟩
  exact hK v w' h1 h2
end
end
end Go.Proofs.Ytajcnjehjkpieaa
