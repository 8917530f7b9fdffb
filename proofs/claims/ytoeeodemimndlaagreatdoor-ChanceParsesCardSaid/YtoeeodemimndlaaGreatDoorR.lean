/- Words for memory: what a slice of structs reads as, what a row of the call's own reads as; no program is named here but by its model. -/
import Derived.WalkKit
import Derived.WalkSpells
import Derived.WalkLawsBesides
import Derived.Lib.Hide
import Derived.Lib.ConvBytes
import Derived.Deep.QuietTactic
import Derived.BigQuiet
import Derived.Deep.Draws
import Derived.Maps.AppendAt
import Derived.Deep.AppendLies
import Derived.Deep.DeepCutAuto
import Derived.StillTailTactics
set_option linter.unusedSimpArgs false
set_option linter.unusedVariables false
namespace Go.Proofs.YtoeeodemimndlaaGreatDoor
open Go.RowKit

/-- A string out of its bytes. -/
def S (l : List UInt8) : ByteArray := ⟨l.toArray⟩
@[simp] theorem S_data (l : List UInt8) : (S l).data.toList = l := rfl
@[simp] theorem S_toList (l : List UInt8) : (S l).toList = l := by rw [ByteArray.toList_eq]; rfl
@[simp] theorem S_size (l : List UInt8) : (S l).size = l.length := rfl
theorem S_of (s : ByteArray) : S s.data.toList = s := rfl
theorem S_inj {a b : List UInt8} (h : S a = S b) : a = b := by rw [← S_data a, h, S_data]

theorem ret_str {x : ByteArray} {l : List UInt8} (h : x.data.toList = l) : Ending.returned (.string x) = .returned (.string (S l)) := by rw [← h]; rfl
theorem ret_b {a b : Bool} (h : a = b) : Ending.returned (.bool a) = .returned (.bool b) := by rw [h]
theorem ret_i {k : IntKind} {a b : Int} (h : a = b) : Ending.returned (.int k a) = .returned (.int k b) := by rw [h]
theorem ret_s {a b : ByteArray} (h : a = b) : Ending.returned (.string a) = .returned (.string b) := by rw [h]

/-- The blocks of F hold in w' what they held in w. -/
def Same (F : Nat → Prop) (w w' : World) : Prop := ∀ b, F b → w'.heap[b]? = w.heap[b]?
theorem Same.refl (F : Nat → Prop) (w : World) : Same F w w := fun _ _ => rfl
theorem Same.trans {F : Nat → Prop} {a b c : World} (h : Same F a b) (k : Same F b c) : Same F a c := fun x hx => (k x hx).trans (h x hx)
theorem Same.sub {F G : Nat → Prop} {a b : World} (h : Same F a b) (k : ∀ x, G x → F x) : Same G a b := fun x hx => h x (k x hx)
theorem Same.cell {F : Nat → Prop} {w w' : World} (h : Same F w w') {b o : Nat} {p : Option Nat} (hb : F b) : w'.cell? ⟨b, o, p⟩ = w.cell? ⟨b, o, p⟩ :=
  World.cell?_of_block (w := w) (h b hb)
theorem Same.of_below {B : Nat} {w w' : World} (h : Below B w w') : Same (· < B) w w' := fun b hb => h.block b hb
theorem Same.below {B : Nat} {F : Nat → Prop} {w w' : World} (h : Below B w w') (k : ∀ x, F x → x < B) : Same F w w' := fun b hb => h.block b (k b hb)
theorem Same.grown {row : Option Nat} {F : Nat → Prop} {w w' : World} (h : w.grownBy w' row) (k : ∀ x, F x → x < w.heap.size ∧ some x ≠ row) : Same F w w' := fun b hb => h.block b (k b hb).1 (k b hb).2

/-- What one element's cells read as, and that this hangs on the blocks of F alone. -/
structure Good {α : Type} (R : World → (Nat → Prop) → List Value → α → Prop) : Prop where
  keep : ∀ {w w' : World} {F G : Nat → Prop} {cs : List Value} {a : α}, R w F cs a → Same F w w' → (∀ b, F b → G b) → R w' G cs a

/-- The slice v reads as the list l: elements of 'size' cells; all blocks that are met are in F. -/
def Sl {α : Type} (size : Nat) (R : World → (Nat → Prop) → List Value → α → Prop) (w : World) (F : Nat → Prop) (v : Value) (l : List α) : Prop :=
  ∃ A c, v = .slice A l.length c ∧ l.length ≤ c ∧ c ≤ maxLen ∧ (0 < l.length → ∃ b o, A = some ⟨b, o, none⟩ ∧ F b ∧
    ∀ i a, l[i]? = some a → ∃ cs : List Value, cs.length = size ∧ (∀ j u, cs[j]? = some u → w.cell? ⟨b, o + i * size + j, none⟩ = some u) ∧ R w F cs a)

section
variable {α : Type} {size : Nat} {R : World → (Nat → Prop) → List Value → α → Prop}
theorem Sl.keep (hR : Good R) {w w' : World} {F G : Nat → Prop} {v : Value} {l : List α} (h : Sl size R w F v l) (hs : Same F w w') (hG : ∀ b, F b → G b) : Sl size R w' G v l := by
  obtain ⟨A, c, hv, hl, hc, hA⟩ := h
  refine ⟨A, c, hv, hl, hc, fun h0 => ?_⟩
  obtain ⟨b, o, rfl, hb, he⟩ := hA h0
  refine ⟨b, o, rfl, hG b hb, fun i a hi => ?_⟩
  obtain ⟨cs, h1, h2, h3⟩ := he i a hi
  exact ⟨cs, h1, fun j u hu => (hs.cell hb).trans (h2 j u hu), hR.keep h3 hs hG⟩
theorem Sl.good (hR : Good R) : Good (fun w F (cs : List Value) (l : List α) => ∃ v, cs = [v] ∧ Sl size R w F v l) :=
  ⟨fun ⟨v, hv, h⟩ hs hG => ⟨v, hv, h.keep hR hs hG⟩⟩
theorem Sl.below (hR : Good R) {B : Nat} {w w' : World} {v : Value} {l : List α} (h : Sl size R w (· < B) v l) (hb : Below B w w') : Sl size R w' (· < B) v l :=
  h.keep hR (Same.of_below hb) fun _ h => h
theorem Sl.nil (w : World) (F : Nat → Prop) : Sl size R w F (.slice none 0 0) [] := ⟨none, 0, rfl, Nat.le_refl _, by decide, fun h => absurd h (by simp)⟩
/-- An element that is there. -/
theorem Sl.at {w : World} {F : Nat → Prop} {A : Option Addr} {n c : Nat} {l : List α} (h : Sl size R w F (.slice A n c) l) {k : Nat} (hk : k < l.length) :
    ∃ b o cs, A = some ⟨b, o, none⟩ ∧ F b ∧ cs.length = size ∧ (∀ j u, cs[j]? = some u → w.cell? ⟨b, o + k * size + j, none⟩ = some u) ∧ R w F cs l[k] := by
  obtain ⟨A', c', hv, hl, hc, hA⟩ := h
  injection hv with h1 h2 h3
  subst h1
  obtain ⟨b, o, rfl, hb, he⟩ := hA (by omega)
  obtain ⟨cs, h1, h2, h3⟩ := he k l[k] (List.getElem?_eq_getElem hk)
  exact ⟨b, o, cs, rfl, hb, h1, h2, h3⟩
theorem Sl.shape {w : World} {F : Nat → Prop} {v : Value} {l : List α} (h : Sl size R w F v l) : ∃ A c, v = .slice A l.length c ∧ l.length ≤ c ∧ c ≤ 9223372036854775807 := by
  obtain ⟨A, c, hv, hl, hc, _⟩ := h
  exact ⟨A, c, hv, hl, by unfold maxLen at hc; omega⟩
theorem Sl.zero {w w' : World} {F G : Nat → Prop} {v : Value} (h : Sl size R w F v []) : Sl size R w' G v [] := by
  obtain ⟨A, c, hv, hl, hc, _⟩ := h
  exact ⟨A, c, hv, hl, hc, fun h => absurd h (by simp)⟩
end

/-- Elements: numbers, strings. -/
def elStr (_ : World) (_ : Nat → Prop) (cs : List Value) (s : List UInt8) : Prop := cs = [.string (S s)]
theorem elStr_good : Good elStr := ⟨fun h _ _ => h⟩
def elInt (_ : World) (_ : Nat → Prop) (cs : List Value) (x : Int) : Prop := cs = [.int .i64 x]
theorem elInt_good : Good elInt := ⟨fun h _ _ => h⟩

/-- A row of the call's own that reads as the list l; what its elements reach lies in the blocks of G. -/
def OwnG {α : Type} (size : Nat) (R : World → (Nat → Prop) → List Value → α → Prop) (e base : Nat) (w : World) (v : Value) (G : Nat → Prop) (l : List α) : Prop :=
  ∃ css : List (List Value), css.length = l.length ∧ w.ownsRow base e size v l.length css.flatten ∧ (∀ cs ∈ css, cs.length = size) ∧
    ∀ (i : Nat) (a : α) (cs : List Value), l[i]? = some a → css[i]? = some cs → R w G cs a
def NoG : Nat → Prop := fun _ => False
/-- The same where the elements reach nothing. -/
def OwnSl {α : Type} (size : Nat) (R : World → (Nat → Prop) → List Value → α → Prop) (e base : Nat) (w : World) (v : Value) (l : List α) : Prop := OwnG size R e base w v NoG l

theorem flatten_get {css : List (List Value)} {size : Nat} (h : ∀ cs ∈ css, cs.length = size) {i j : Nat} {cs : List Value} {u : Value} (hi : css[i]? = some cs) (hj : cs[j]? = some u) :
    css.flatten[i * size + j]? = some u := by
  induction css generalizing i with
  | nil => simp at hi
  | cons c css ih =>
    have hc := h c (by simp)
    cases i with
    | zero =>
      simp at hi; subst hi
      rw [List.flatten_cons, List.getElem?_append_left (by have := (List.getElem?_eq_some_iff.1 hj).1; simpa using this)]
      simpa using hj
    | succ i =>
      simp at hi
      rw [List.flatten_cons, List.getElem?_append_right (by rw [Nat.succ_mul]; omega)]
      have := ih (fun cs h' => h cs (by simp [h'])) hi
      rw [← this]; congr 1
      rw [Nat.succ_mul]; omega

section
variable {α : Type} {size e base : Nat} {R : World → (Nat → Prop) → List Value → α → Prop} {G : Nat → Prop}
theorem OwnG.nil (w : World) : OwnG size R e base w (.slice none 0 0) G [] :=
  ⟨[], rfl, World.ownsRow_nil _ _ _ _, by simp, by simp⟩
theorem OwnG.owns {w : World} {v : Value} {l : List α} (h : OwnG size R e base w v G l) : ∃ xs, w.ownsRow base e size v l.length xs :=
  let ⟨css, _, h2, _⟩ := h; ⟨css.flatten, h2⟩
theorem OwnG.block {w : World} {v : Value} {l : List α} (h : OwnG size R e base w v G l) : ∀ k, v.ownBlock = some k → base ≤ k ∧ k < w.heap.size :=
  let ⟨css, _, h2, _⟩ := h; h2.lt
/-- The row as a plain slice. -/
theorem OwnG.sl (hR : Good R) {F : Nat → Prop} {w : World} {v : Value} {l : List α} (h : OwnG size R e base w v G l) (hF : ∀ b, G b → F b) (hv : ∀ b, base ≤ b → b < w.heap.size → F b) : Sl size R w F v l := by
  obtain ⟨css, hlen, hown, hsz, hel⟩ := h
  have hown' := hown
  obtain ⟨hx, ⟨rfl, h0⟩ | ⟨g, cap, cur, rfl, hb, hg, hnc, hcm, hcs, htake⟩⟩ := hown
  · have : l = [] := List.eq_nil_of_length_eq_zero h0
    subst this
    exact Sl.nil _ _
  · have hlt : g < w.heap.size := (hown'.lt g rfl).2
    refine ⟨_, cap, rfl, hnc, hcm, fun h0 => ⟨g, 0, rfl, hv g hb hlt, fun i a hi => ?_⟩⟩
    have hil : i < l.length := (List.getElem?_eq_some_iff.1 hi).1
    have hci : css[i]? = some (css[i]'(by omega)) := List.getElem?_eq_getElem _
    refine ⟨css[i]'(by omega), hsz _ (List.getElem_mem _), fun j u hu => ?_, hR.keep (hel i a _ hi hci) (Same.refl _ _) hF⟩
    have := hown'.cells (g := g) rfl (i * size + j) u (flatten_get hsz hci hu)
    have hadd : (⟨g, 0, none⟩ : Addr).add (i * size + j) = ⟨g, i * size + j, none⟩ := by unfold Addr.add; split <;> simp_all
    rw [hadd] at this
    rw [Nat.zero_add]; exact this
/-- The row while the world turns elsewhere. -/
theorem OwnG.keep (hR : Good R) {w w' : World} {G' : Nat → Prop} {v : Value} {l : List α} (h : OwnG size R e base w v G l) (hG : Same G w w') (hGG : ∀ b, G b → G' b) (hs : ∀ b, v.ownBlock = some b → w'.heap[b]? = w.heap[b]?) : OwnG size R e base w' v G' l := by
  obtain ⟨css, hlen, hown, hsz, hel⟩ := h
  refine ⟨css, hlen, ?_, hsz, fun i a cs hi hc => hR.keep (hel i a cs hi hc) hG hGG⟩
  refine ⟨hown.1, ?_⟩
  rcases hown.2 with h0 | ⟨g, cap, cur, hv, hb, hg, hrest⟩
  · exact .inl h0
  · exact .inr ⟨g, cap, cur, hv, hb, (hs g (by rw [hv]; rfl)).trans hg, hrest⟩
theorem OwnG.below (hR : Good R) {w w' : World} {v : Value} {l : List α} (h : OwnG size R e base w v G l) (hb : Below w.heap.size w w') (hG : ∀ b, G b → b < w.heap.size) : OwnG size R e base w' v G l :=
  h.keep hR (Same.below hb hG) (fun _ h => h) fun b hv => hb.block b (h.block b hv).2
/-- Two rows of different element types lie apart. -/
theorem OwnG.apart {β : Type} {size' e' base' : Nat} {R' : World → (Nat → Prop) → List Value → β → Prop} {G' : Nat → Prop} {w : World} {v v' : Value} {l : List α} {l' : List β} (h : OwnG size R e base w v G l) (h' : OwnG size' R' e' base' w v' G' l') (hne : e ≠ e') :
    ∀ b, v.ownBlock = some b → v'.ownBlock ≠ some b := by
  obtain ⟨_, _, ⟨_, ho⟩, _⟩ := h
  obtain ⟨_, _, ⟨_, ho'⟩, _⟩ := h'
  intro b hb hb'
  rcases ho with ⟨rfl, _⟩ | ⟨g, cap, cur, rfl, _, hg, _⟩
  · simp [Value.ownBlock] at hb
  · rcases ho' with ⟨rfl, _⟩ | ⟨g', cap', cur', rfl, _, hg', _⟩
    · simp [Value.ownBlock] at hb'
    · simp only [Value.ownBlock, Option.some.injEq] at hb hb'
      subst hb; subst hb'
      rw [hg] at hg'
      simp only [Option.some.injEq, Obj.cells.injEq] at hg'
      exact hne hg'.2.1
/-- One element more, behind append's law. -/
theorem OwnG.snoc (hR : Good R) {w w' : World} {v' : Value} {l : List α} {a : α} {css : List (List Value)} {cs : List Value} (hlen : css.length = l.length) (hsz : ∀ cs ∈ css, cs.length = size)
    (hel : ∀ (i : Nat) (a : α) (cs : List Value), l[i]? = some a → css[i]? = some cs → R w G cs a)
    (hown' : w'.ownsRow base e size v' (l.length + 1) (css.flatten ++ cs)) (hG : Same G w w') (hcs : cs.length = size) (ha : R w G cs a) : OwnG size R e base w' v' G (l ++ [a]) := by
  refine ⟨css ++ [cs], by simp [hlen], by simpa using hown', fun c hc => ?_, fun i x c hi hc => ?_⟩
  · rcases List.mem_append.1 hc with h | h
    · exact hsz c h
    · simp at h; subst h; exact hcs
  · by_cases hil : i < l.length
    · rw [List.getElem?_append_left hil] at hi
      rw [List.getElem?_append_left (by omega)] at hc
      exact hR.keep (hel i x c hi hc) hG fun _ h => h
    · have hi' : i < (l ++ [a]).length := (List.getElem?_eq_some_iff.1 hi).1
      have : i = l.length := by simp at hi'; omega
      subst this
      rw [List.getElem?_append_right (Nat.le_refl _)] at hi
      rw [List.getElem?_append_right (by omega), hlen] at hc
      simp at hi hc
      subst hi; subst hc
      exact hR.keep ha hG fun _ h => h

theorem OwnSl.nil (w : World) : OwnSl size R e base w (.slice none 0 0) [] := OwnG.nil w
theorem OwnSl.sl (hR : Good R) {w : World} {v : Value} {l : List α} (h : OwnSl size R e base w v l) : Sl size R w (fun b => base ≤ b ∧ b < w.heap.size) v l :=
  OwnG.sl hR h (fun _ h => h.elim) fun _ h1 h2 => ⟨h1, h2⟩
theorem OwnSl.block {w : World} {v : Value} {l : List α} (h : OwnSl size R e base w v l) : ∀ k, v.ownBlock = some k → base ≤ k ∧ k < w.heap.size := OwnG.block h
theorem OwnSl.below (hR : Good R) {w w' : World} {v : Value} {l : List α} (h : OwnSl size R e base w v l) (hb : Below w.heap.size w w') : OwnSl size R e base w' v l :=
  OwnG.below hR h hb fun _ h => h.elim
theorem OwnSl.grown (hR : Good R) {w w' : World} {row : Option Nat} {v : Value} {l : List α} (h : OwnSl size R e base w v l) (hg : w.grownBy w' row) (hne : ∀ b, v.ownBlock = some b → row ≠ some b) : OwnSl size R e base w' v l :=
  OwnG.keep hR h (fun _ h => h.elim) (fun _ h => h) fun b hv => hg.block b (h.block b hv).2 fun e => hne b hv e.symm
theorem OwnSl.alloc (hR : Good R) {w : World} {v : Value} {l : List α} (h : OwnSl size R e base w v l) (o : Obj) : OwnSl size R e base (w.alloc o) v l :=
  h.below hR ((Below.refl _ _).alloc (Nat.le_refl _) o)
theorem OwnG.alloc (hR : Good R) {w : World} {v : Value} {l : List α} (h : OwnG size R e base w v G l) (hG : ∀ b, G b → b < w.heap.size) (o : Obj) : OwnG size R e base (w.alloc o) v G l :=
  h.below hR ((Below.refl _ _).alloc (Nat.le_refl _) o) hG
end

/-- What the program's table says of a slice type and its element type. -/
def ElemOf (P : Program) (t e : TypeId) (size bytes : Nat) : Prop :=
  ∃ i z, P.underlying t = some (.slice e) ∧ P.info? e = some i ∧ i.zero = some z ∧ i.size = size ∧ i.bytes = bytes ∧ z.cells.size = size ∧ 0 < size
theorem ElemOf.mk {P : Program} {t e : TypeId} {size bytes : Nat} {z : Value} (h1 : P.underlying t = some (.slice e)) (h2 : (P.info? e).map (fun i => (i.zero, i.size, i.bytes)) = some (some z, size, bytes))
    (h3 : z.cells.size = size) (h4 : 0 < size) : ElemOf P t e size bytes := by
  obtain ⟨i, a, b, c, d⟩ := info_parts h2
  exact ⟨i, z, h1, a, b, c, d, h3, h4⟩

theorem cells_new (w : World) (cs : List Value) (e : TypeId) (fr : Nat × Nat) : ∀ j u, cs[j]? = some u → (w.alloc (.cells cs.toArray e fr)).cell? ((⟨w.heap.size, 0, none⟩ : Addr).add j) = some u := by
  intro j u hu
  have hadd : (⟨w.heap.size, 0, none⟩ : Addr).add j = ⟨w.heap.size, j, none⟩ := by unfold Addr.add; split <;> simp_all
  rw [hadd, cell_of_row _ _ j cs.toArray e fr (heap_alloc_new w _)]
  simpa using hu
/-- A slice of one element, just laid. -/
theorem Sl.fresh1 {α : Type} {size : Nat} {R : World → (Nat → Prop) → List Value → α → Prop} (w : World) (F : Nat → Prop) (cs : List Value) (e : TypeId) (a : α) (hl : cs.length = size) (hF : F w.heap.size) (hr : R (w.alloc (.cells cs.toArray e)) F cs a) :
    Sl size R (w.alloc (.cells cs.toArray e)) F (.slice (some ⟨w.heap.size, 0, none⟩) 1 1) [a] := by
  refine ⟨_, 1, rfl, Nat.le_refl _, by decide, fun _ => ⟨w.heap.size, 0, rfl, hF, fun i b hi => ?_⟩⟩
  have : i = 0 := by have := (List.getElem?_eq_some_iff.1 hi).1; simp at this; exact this
  subst this
  simp at hi; subst hi
  refine ⟨cs, hl, fun j u hu => ?_, hr⟩
  have := cells_new w cs e (0, 0) j u hu
  have hadd : (⟨w.heap.size, 0, none⟩ : Addr).add j = ⟨w.heap.size, j, none⟩ := by unfold Addr.add; split <;> simp_all
  rw [hadd] at this
  rw [Nat.zero_add, Nat.zero_mul, Nat.zero_add]; exact this
theorem Sl.at1 {α : Type} {R : World → (Nat → Prop) → List Value → α → Prop} {w : World} {F : Nat → Prop} {A : Option Addr} {n c : Nat} {l : List α} (h : Sl 1 R w F (.slice A n c) l) {k : Nat} (hk : k < l.length) :
    ∃ b o u, A = some ⟨b, o, none⟩ ∧ F b ∧ w.cell? ⟨b, o + k, none⟩ = some u ∧ R w F [u] l[k] := by
  obtain ⟨b, o, cs, h1, h2, h3, h4, h5⟩ := h.at hk
  match cs, h3 with
  | [u], _ => exact ⟨b, o, u, h1, h2, by have := h4 0 u rfl; rwa [Nat.mul_one, Nat.add_zero] at this, h5⟩
theorem Sl.str_at {w : World} {F : Nat → Prop} {A : Option Addr} {n c : Nat} {l : List (List UInt8)} (h : Sl 1 elStr w F (.slice A n c) l) {k : Nat} (hk : k < l.length) :
    ∃ b o, A = some ⟨b, o, none⟩ ∧ F b ∧ w.cell? ⟨b, o + k, none⟩ = some (.string (S l[k])) := by
  obtain ⟨b, o, u, h1, h2, h3, h4⟩ := h.at1 hk
  have : u = .string (S l[k]) := by injection h4
  subst this
  exact ⟨b, o, h1, h2, h3⟩
theorem oneCells {cs : List Value} (h : cs.all (·.oneCell') = true) : ∀ u ∈ cs, u.oneCell' = true := List.all_eq_true.1 h
/-- append of one element onto a row of the call's own. -/
theorem wpList_append_g {P : Program} (w : World) {ops : Array Oper} {rest : List Oper} {o : Oper} {a : Act} {Q : Exit → Act → World → Prop} (hgd : o.guard = none) (s x : Operand) (t : TypeId)
    (ho : o.op = .call { callee := .builtin .append, args := #[s, x], argTypes := #[t, t] })
    {e : TypeId} {size bytes : Nat} (hE : ElemOf P t e size bytes) {α : Type} {R : World → (Nat → Prop) → List Value → α → Prop} (hR : Good R)
    (base : Nat) (v : Value) (G : Nat → Prop) (l : List α) (hs : a.eval s = v) (hown : OwnG size R e base w v G l)
    (ad : Addr) (c : Nat) (cs : List Value) (hx : a.eval x = .slice (some ad) 1 c) (el : α) (hl : cs.length = size) (hcell : ∀ j u, cs[j]? = some u → w.cell? (ad.add j) = some u)
    (h1 : ∀ u ∈ cs, u.oneCell' = true) (hG : ∀ b, G b → b < w.heap.size ∧ v.ownBlock ≠ some b) (hel : R w G cs el)
    (h63 : l.length + 1 ≤ maxLen) (hbytes : (l.length + 1) * bytes ≤ 140737488355328) (hbase : base ≤ w.heap.size)
    (h : ∀ v' w', OwnG size R e base w' v' G (l ++ [el]) → w.grownBy w' v.ownBlock → (v'.ownBlock = v.ownBlock ∨ v'.ownBlock = some w.heap.size) → wpList P ops Q rest (a.put o.dst v') w') : wpList P ops Q (o :: rest) a w := by
  obtain ⟨i, z, e1, e2, e3, e4, e5, e6, e7⟩ := hE
  obtain ⟨css, hlen, ho', hsz, hel'⟩ := hown
  obtain ⟨v', w', hr, h2, h3, _, h4⟩ := run_append_own_at (P := P) w base t o.type e i z size bytes e1 e2 e3 e4 e5 e6 e7 v l.length css.flatten ho' ad 1 c cs (by omega) hcell h1 h63 hbytes hbase
  refine wpList_plain hgd fun K hK => ?_
  unfold Oper.wp execOp
  simp only [ho, resolve, invoke, builtin, Sem.run_bind, Sem.run_pure, Result.andThen_ok, List.map_toArray, List.map_cons, List.map_nil, hs, hx, hr]
  exact hK _ _ (h v' w' (OwnG.snoc hR hlen hsz hel' h2 (Same.grown h3 fun b hb => ⟨(hG b hb).1, fun e => (hG b hb).2 e.symm⟩) hl hel) h3 h4)
theorem wpList_append_sl {P : Program} (w : World) {ops : Array Oper} {rest : List Oper} {o : Oper} {a : Act} {Q : Exit → Act → World → Prop} (hgd : o.guard = none) (s x : Operand) (t : TypeId)
    (ho : o.op = .call { callee := .builtin .append, args := #[s, x], argTypes := #[t, t] })
    {e : TypeId} {size bytes : Nat} (hE : ElemOf P t e size bytes) {α : Type} {R : World → (Nat → Prop) → List Value → α → Prop} (hR : Good R)
    (base : Nat) (v : Value) (l : List α) (hs : a.eval s = v) (hown : OwnSl size R e base w v l)
    (ad : Addr) (c : Nat) (cs : List Value) (hx : a.eval x = .slice (some ad) 1 c) (el : α) (hl : cs.length = size) (hcell : ∀ j u, cs[j]? = some u → w.cell? (ad.add j) = some u)
    (h1 : ∀ u ∈ cs, u.oneCell' = true) (hel : R w NoG cs el)
    (h63 : l.length + 1 ≤ maxLen) (hbytes : (l.length + 1) * bytes ≤ 140737488355328) (hbase : base ≤ w.heap.size)
    (h : ∀ v' w', OwnSl size R e base w' v' (l ++ [el]) → w.grownBy w' v.ownBlock → (v'.ownBlock = v.ownBlock ∨ v'.ownBlock = some w.heap.size) → wpList P ops Q rest (a.put o.dst v') w') : wpList P ops Q (o :: rest) a w :=
  wpList_append_g w hgd s x t ho hE hR base v NoG l hs hown ad c cs hx el hl hcell h1 (fun _ h => h.elim) hel h63 hbytes hbase h
/-- Behind such an append nothing below the row has turned. -/
theorem below_own {α : Type} {size e base B : Nat} {R : World → (Nat → Prop) → List Value → α → Prop} {G : Nat → Prop} {W w w' : World} {v : Value} {l : List α} (hb : Below B W w) (ho : OwnG size R e base w v G l) (hg : w.grownBy w' v.ownBlock) (h1 : B ≤ base) (h2 : base ≤ w.heap.size) : Below B W w' :=
  hb.grown hg (by omega) fun k hk => by have := ho.block k hk; omega

def elByte (_ : World) (_ : Nat → Prop) (cs : List Value) (c : UInt8) : Prop := cs = [.int .u8 (c.toNat : Int)]
theorem elByte_good : Good elByte := ⟨fun h _ _ => h⟩

/-- string(b) of a slice that reads as bytes. -/
theorem run_string_of {P : Program} {src dst e : TypeId} (hs : P.underlying src = some (.slice e)) (hd : P.underlying dst = some .string) (he : P.underlying e = some (.int .u8)) (w : World) {F : Nat → Prop} {v : Value} {l : List UInt8}
    (h : Sl 1 elByte w F v l) : (convert src dst v).run P w = .ok (.string (S l)) w := by
  obtain ⟨A, c, rfl, hl, hc, hA⟩ := h
  by_cases h0 : 0 < l.length
  · obtain ⟨b, o, rfl, hb, he'⟩ := hA h0
    have hnum : strOfNums (l.map fun c => (c.toNat : Int)) = S l := by
      simp [strOfNums, S, Function.comp_def]
    rw [← hnum]
    refine run_convert_bytes_arg w src e hs he b o l.length c _ (by simp) (fun i hi => ?_) dst hd
    obtain ⟨cs, h1, h2, h3⟩ := he' i l[i] (List.getElem?_eq_getElem hi)
    have h3' : cs = [.int .u8 (l[i].toNat : Int)] := h3
    have := h2 0 (.int .u8 (l[i].toNat : Int)) (by rw [h3']; rfl)
    rw [Nat.add_zero, Nat.mul_one] at this
    rw [this]
    simp [List.getD, List.getElem?_eq_getElem hi]
  · have : l = [] := List.eq_nil_of_length_eq_zero (by omega)
    subst this
    cases A with
    | none => exact run_convert_bytes_nil w src e hs he 0 c dst hd
    | some a =>
      rw [run_convert_bytes_string w src dst e _ _ c hs he hd, run_bytesToString w _ _ c [] (by simp [loadCells, loadCellsFrom])]
      rfl
end Go.Proofs.YtoeeodemimndlaaGreatDoor
