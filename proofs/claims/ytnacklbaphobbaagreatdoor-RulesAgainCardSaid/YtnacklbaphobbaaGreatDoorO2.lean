/- Kinds of slots for the regions that lay lists of words and lines; what the operations make of them; closures and rows. -/
import Derived.Test.YtnacklbaphobbaaGreatDoorR
import Derived.Test.YtnacklbaphobbaaGreatDoorU11
import Derived.Test.YtnacklbaphobbaaGreatDoorQG
import Derived.Test.YtnacklbaphobbaaGreatDoorN3
set_option linter.unusedSimpArgs false
set_option linter.unusedVariables false
namespace Go.Proofs.YtnacklbaphobbaaGreatDoor
open Go.RowKit

/-- The operations of a region of a function's text. -/
def findR (n : Nat) : Code → Option (Array Oper)
  | .region id ops _ => if id = n then some ops else none
  | .seq a b => match findR n a with
    | some x => some x
    | none => findR n b
  | .cond _ a b => match findR n a with
    | some x => some x
    | none => findR n b
  | .block _ c => findR n c
  | .loop c => findR n c
  | .scope c => findR n c
  | _ => none
def backB (ops : Array Oper) : Bool := (List.range ops.size).all fun i => match ops[i]? with
  | some o => o.after.toList.all fun e => decide (e.on < i)
  | none => true
def dstB (ops : Array Oper) (N : Nat) : Bool := (List.range ops.size).all fun i => match ops[i]? with
  | some o => o.guard.isNone && (match o.dst with | some d => decide (d < N) | none => false)
  | none => true
def needB (ops : Array Oper) (needs : List (List Nat)) (init : List Nat) : Bool := (List.range ops.size).all fun i => match ops[i]? with
  | some o => (needs.getD i []).all fun d => init.contains d || o.after.toList.any fun e => Region.binds .any e && (match ops[e.on]? with | some p => p.dst == some d | none => false)
  | none => true
theorem back_of {ops : Array Oper} (h : backB ops = true) : ∀ (i : Nat) (o : Oper), ops[i]? = some o → ∀ e ∈ o.after, e.on < i := by
  intro i o ho e he
  have := List.all_eq_true.1 h i (List.mem_range.2 (Array.getElem?_eq_some_iff.1 ho).1)
  rw [ho] at this
  exact of_decide_eq_true (List.all_eq_true.1 this e (Array.mem_toList_iff.2 he))
theorem dst_of {ops : Array Oper} {N : Nat} (h : dstB ops N = true) : ∀ (i : Nat) (o : Oper), ops[i]? = some o → o.guard = none ∧ ∃ d, o.dst = some d ∧ d < N := by
  intro i o ho
  have := List.all_eq_true.1 h i (List.mem_range.2 (Array.getElem?_eq_some_iff.1 ho).1)
  rw [ho] at this
  simp only [Bool.and_eq_true, Option.isNone_iff_eq_none] at this
  refine ⟨this.1, ?_⟩
  have h2 := this.2
  cases hd : o.dst with
  | none => rw [hd] at h2; cases h2
  | some d => rw [hd] at h2; exact ⟨d, rfl, of_decide_eq_true h2⟩
theorem need_of {ops : Array Oper} {needs : List (List Nat)} {init : List Nat} (h : needB ops needs init = true) : ∀ (i : Nat) (o : Oper), ops[i]? = some o → ∀ d ∈ needs.getD i [], d ∈ init ∨ ∃ e ∈ o.after, Region.binds .any e = true ∧ ∃ p, ops[e.on]? = some p ∧ p.dst = some d := by
  intro i o ho d hd
  have := List.all_eq_true.1 h i (List.mem_range.2 (Array.getElem?_eq_some_iff.1 ho).1)
  rw [ho] at this
  have := List.all_eq_true.1 this d hd
  rcases Bool.or_eq_true_iff.1 this with h1 | h1
  · exact .inl (by simpa using h1)
  · obtain ⟨e, he, h2⟩ := List.any_eq_true.1 h1
    rw [Bool.and_eq_true] at h2
    refine .inr ⟨e, Array.mem_toList_iff.1 he, h2.1, ?_⟩
    cases hp : ops[e.on]? with
    | none => rw [hp] at h2; cases h2.2
    | some p => rw [hp] at h2; exact ⟨p, rfl, by simpa using h2.2⟩
theorem op_of {ops : Array Oper} {i : Nat} {o : Oper} {x : Op} {d : Option Tmp} (h : (ops[i]?).map (fun o => (o.op, o.dst)) = some (x, d)) (ho : ops[i]? = some o) : o.op = x ∧ o.dst = d := by
  rw [ho] at h
  simpa using h

def elStrs (w : World) (F : Nat → Prop) (cs : List Value) (l : List (List UInt8)) : Prop := ∃ v, cs = [v] ∧ Sl 1 elStr w F v l
theorem elStrs_good : Good elStrs := Sl.good elStr_good
inductive Kd where
  | val (v : Value)
  | strs (l : List (List UInt8))
  | line (l : List (List UInt8))
  | rows (ls : List Lin)
  | strss (l : List (List (List UInt8)))
  | non
/-- The blocks from B on. -/
abbrev Fr (B : Nat) (w : World) : Nat → Prop := fun b => B ≤ b ∧ b < w.heap.size
def Kd.ok (B : Nat) (w0 : World) : Kd → World → Value → Prop
  | .val u, _, v => v = u
  | .strs l, w, v => Sl 1 elStr w (Fr B w) v l
  | .line l, w, v => ∃ A n c, v = .agg #[.int .i64 0, .slice A n c] ∧ Sl 3 elFld w (Fr B w) (.slice A n c) (l.map wordF)
  | .rows ls, w, v => SplitInv B w0 w v noD ls []
  | .strss l, w, v => Sl 1 elStrs w (Fr B w) v l
  | .non, _, _ => False
theorem Fr.mono {B : Nat} {w w' : World} (hb : Below w.heap.size w w') : ∀ b, Fr B w b → Fr B w' b := fun b h => ⟨h.1, Nat.lt_of_lt_of_le h.2 hb.size⟩
theorem Sl.fr {α : Type} {size : Nat} {R : World → (Nat → Prop) → List Value → α → Prop} (hR : Good R) {B : Nat} {w w' : World} {v : Value} {l : List α} (h : Sl size R w (Fr B w) v l) (hb : Below w.heap.size w w') : Sl size R w' (Fr B w') v l :=
  h.keep hR (Same.below hb fun _ h => h.2) (Fr.mono hb)
theorem Kd.below {B : Nat} {w0 w w' : World} {v : Value} : ∀ {k : Kd}, k.ok B w0 w v → Below w.heap.size w w' → k.ok B w0 w' v
  | .val _, h, _ => h
  | .strs _, h, hb => Sl.fr elStr_good h hb
  | .line _, ⟨A, n, c, h1, h2⟩, hb => ⟨A, n, c, h1, Sl.fr elFld_good h2 hb⟩
  | .rows _, h, hb => SplitInv.below h hb
  | .strss _, h, hb => Sl.fr elStrs_good h hb
  | .non, h, _ => h.elim
/-- The kinds as a list by slot. -/
def tabK (B : Nat) (w0 : World) (K : List (Nat × Kd)) : Tab := fun d w v => ((K.lookup d).getD .non).ok B w0 w v
theorem tab_below {B : Nat} {w0 : World} {K : List (Nat × Kd)} : ∀ d w w' v, tabK B w0 K d w v → Below w.heap.size w w' → tabK B w0 K d w' v := fun d w w' v h hb => Kd.below h hb
section
variable {B : Nat} {w0 : World} {K : List (Nat × Kd)} {a : Act} {w : World} {d : Nat}
theorem holds_val {u : Value} (h : Holds (tabK B w0 K) a w d) (hk : K.lookup d = some (.val u)) : a.tmps[d]? = some u ∧ a.eval (.tmp d) = u := by
  obtain ⟨v, h1, h2⟩ := h
  unfold tabK at h2
  rw [hk] at h2
  have : v = u := h2
  subst this
  exact ⟨h1, eval_tmp h1⟩
theorem holds_strs {l : List (List UInt8)} (h : Holds (tabK B w0 K) a w d) (hk : K.lookup d = some (.strs l)) : ∃ v, a.eval (.tmp d) = v ∧ Sl 1 elStr w (Fr B w) v l := by
  obtain ⟨v, h1, h2⟩ := h
  unfold tabK at h2
  rw [hk] at h2
  exact ⟨v, eval_tmp h1, h2⟩
theorem holds_line {l : List (List UInt8)} (h : Holds (tabK B w0 K) a w d) (hk : K.lookup d = some (.line l)) : ∃ A n c, a.eval (.tmp d) = .agg #[.int .i64 0, .slice A n c] ∧ Sl 3 elFld w (Fr B w) (.slice A n c) (l.map wordF) := by
  obtain ⟨v, h1, h2⟩ := h
  unfold tabK at h2
  rw [hk] at h2
  obtain ⟨A, n, c, rfl, h3⟩ := h2
  exact ⟨A, n, c, eval_tmp h1, h3⟩
theorem holds_rows {ls : List Lin} (h : Holds (tabK B w0 K) a w d) (hk : K.lookup d = some (.rows ls)) : ∃ v, a.tmps[d]? = some v ∧ SplitInv B w0 w v noD ls [] := by
  obtain ⟨v, h1, h2⟩ := h
  unfold tabK at h2
  rw [hk] at h2
  exact ⟨v, h1, h2⟩
theorem holds_strss {l : List (List (List UInt8))} (h : Holds (tabK B w0 K) a w d) (hk : K.lookup d = some (.strss l)) : ∃ v, a.tmps[d]? = some v ∧ Sl 1 elStrs w (Fr B w) v l := by
  obtain ⟨v, h1, h2⟩ := h
  unfold tabK at h2
  rw [hk] at h2
  exact ⟨v, h1, h2⟩
theorem tab_is {k : Kd} {v : Value} (hk : K.lookup d = some k) (h : k.ok B w0 w v) : tabK B w0 K d w v := by unfold tabK; rw [hk]; exact h
theorem tab_o {o : Oper} {k : Kd} {v : Value} (hd : o.dst = some d) (hk : K.lookup d = some k) (h : k.ok B w0 w v) : ∀ d', o.dst = some d' → tabK B w0 K d' w v := by
  intro d' h'
  have : d = d' := Option.some.inj (hd.symm.trans h')
  subst this
  exact tab_is hk h
end

/-- A literal of strings. -/
theorem strs_lit (w : World) (B : Nat) (hB : B ≤ w.heap.size) (l : List (List UInt8)) (e : TypeId) (hm : l.length ≤ maxLen) :
    Sl 1 elStr (w.alloc (.cells (l.map fun s => Value.string (S s)).toArray e)) (Fr B (w.alloc (.cells (l.map fun s => Value.string (S s)).toArray e))) (.slice (some ⟨w.heap.size, 0, none⟩) l.length l.length) l := by
  refine ⟨_, l.length, rfl, Nat.le_refl _, hm, fun h0 => ⟨w.heap.size, 0, rfl, ⟨hB, by simp⟩, fun i a hi => ⟨[.string (S a)], rfl, fun j u hu => ?_, rfl⟩⟩⟩
  have : j = 0 := by have := (List.getElem?_eq_some_iff.1 hu).1; simp at this; exact this
  subst this
  simp at hu; subst hu
  have hk := Blk.new w e (l.map fun s => Value.string (S s)).toArray
  rw [Nat.mul_one, Nat.zero_add, Nat.add_zero, hk.cell]
  simp [hi]
/-- A literal of rows of words. -/
theorem strss_lit (w : World) (B : Nat) (hB : B ≤ w.heap.size) (l : List (List (List UInt8))) (vs : List Value) (e : TypeId) (hl : vs.length = l.length) (hm : l.length ≤ maxLen)
    (hel : ∀ (i : Nat) (a : List (List UInt8)) (v : Value), l[i]? = some a → vs[i]? = some v → Sl 1 elStr w (Fr B w) v a) :
    Sl 1 elStrs (w.alloc (.cells vs.toArray e)) (Fr B (w.alloc (.cells vs.toArray e))) (.slice (some ⟨w.heap.size, 0, none⟩) l.length l.length) l := by
  refine ⟨_, l.length, rfl, Nat.le_refl _, hm, fun h0 => ⟨w.heap.size, 0, rfl, ⟨hB, by simp⟩, fun i a hi => ?_⟩⟩
  have hil := (List.getElem?_eq_some_iff.1 hi).1
  have hv : vs[i]? = some (vs[i]'(by omega)) := List.getElem?_eq_getElem _
  refine ⟨[vs[i]'(by omega)], rfl, fun j u hu => ?_, _, rfl, Sl.fr elStr_good (hel i a _ hi hv) (Below.alloc (Below.refl _ _) (Nat.le_refl _) _)⟩
  have : j = 0 := by have := (List.getElem?_eq_some_iff.1 hu).1; simp at this; exact this
  subst this
  simp at hu; subst hu
  have hk := Blk.new w e vs.toArray
  rw [Nat.mul_one, Nat.zero_add, Nat.add_zero, hk.cell]
  simp
/-- A literal of lines. -/
theorem rows_lit (w w0 : World) (B : Nat) (hB : B ≤ w.heap.size) (hb : Below B w0 w) (ls : List Lin) (css : List (List Value)) (hl : css.length = ls.length) (hsz : ∀ cs ∈ css, cs.length = 2) (hm : ls.length ≤ maxLen)
    (hel : ∀ (i : Nat) (x : Lin) (cs : List Value), ls[i]? = some x → css[i]? = some cs → elLin w (Fr B w) cs x) :
    SplitInv B w0 (w.alloc (.cells css.flatten.toArray 55)) (.slice (some ⟨w.heap.size, 0, none⟩) ls.length ls.length) noD ls [] := by
  have hf := flat_len hsz
  have hal : Below w.heap.size w (w.alloc (.cells css.flatten.toArray 55)) := Below.alloc (Below.refl _ _) (Nat.le_refl _) _
  refine ⟨⟨css, hl, ⟨by rw [hf, hl], .inr ⟨w.heap.size, ls.length, css.flatten.toArray, rfl, hB, heap_alloc_new w _, Nat.le_refl _, hm, by simp only [List.size_toArray]; rw [hf, hl], ?_⟩⟩, hsz, fun i x cs hi hc => ?_⟩, OwnSl.nil _, hb.trans (hal.mono hB), by simp; omega⟩
  · rw [List.take_of_length_le (by rw [hf, hl]; exact Nat.le_refl _)]
  · refine elLin_good.keep (hel i x cs hi hc) (Same.below hal fun b h => h.2) fun b h => ⟨h.1, by simp; have := h.2; omega, ?_, by simp [noD, Value.ownBlock]⟩
    intro e
    have : w.heap.size = b := by simpa [Value.ownBlock] using e
    have := h.2; omega
theorem list_cons {α : Type} {n : Nat} {l : List α} (h : l.length = n + 1) : ∃ x t, l = x :: t ∧ t.length = n := by
  cases l with
  | nil => simp at h
  | cons x t => exact ⟨x, t, rfl, by simpa using h⟩
theorem wp_region_at {P : Program} {ops ops' : Array Oper} {V : Tab} {G : World → Prop} {needs : Nat → List Nat} {init : List Nat} {N : Nat} {Q : Exit → Act → World → Prop} {a0 : Act} {w0 : World} {id : Nat} (he : ops = ops') (hm : P.follows .mixedOrders = true) (hF : FreeR P ops' V G needs init N) (hN : N ≤ a0.tmps.size) (hG : G w0) (hini : ∀ d ∈ init, Holds V a0 w0 d)
    (fin : ∀ a w, RIn ops' V G init a0 w0 (Array.replicate ops'.size true) a w → Q .normal a w) : (Code.region id ops true).wp P Q a0 w0 := by
  subst he
  exact wp_region_free hm hF hN hG hini fin
theorem RIn.at {ops : Array Oper} {V : Tab} {G : World → Prop} {init : List Nat} {a0 a : Act} {w0 w : World} (h : RIn ops V G init a0 w0 (Array.replicate ops.size true) a w) (i d : Nat) (hd : (ops[i]?).bind (·.dst) = some d) : Holds V a w d := by
  cases ho : ops[i]? with
  | none => rw [ho] at hd; cases hd
  | some o =>
    rw [ho] at hd
    have hlt := (Array.getElem?_eq_some_iff.1 ho).1
    exact h.done i o d ho (by simp [hlt]) hd
def keptB (ops : Array Oper) (k : Nat) : Bool := ops.toList.all fun o => !(o.dst == some k)
theorem RIn.kept {ops : Array Oper} {V : Tab} {G : World → Prop} {init : List Nat} {a0 a : Act} {w0 w : World} {l : Array Bool} (h : RIn ops V G init a0 w0 l a w) (k : Nat) (hk : keptB ops k = true) : a.tmps[k]? = a0.tmps[k]? :=
  h.keep k fun i o ho e => by
    have := List.all_eq_true.1 hk o (Array.mem_toList_iff.2 (Array.mem_of_getElem? ho))
    rw [e] at this
    simp at this
end Go.Proofs.YtnacklbaphobbaaGreatDoor
