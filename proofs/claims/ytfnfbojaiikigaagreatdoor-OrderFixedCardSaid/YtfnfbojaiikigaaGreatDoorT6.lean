/- The contract of text.Split. Condition: the world holds the library's variables. -/
import Derived.Test.YtfnfbojaiikigaaGreatDoorT4
import Derived.Test.YtfnfbojaiikigaaGreatDoorG
import Derived.Test.YtfnfbojaiikigaaGreatDoorPP
set_option linter.unusedSimpArgs false
set_option linter.unusedVariables false
namespace Go.Proofs.YtfnfbojaiikigaaGreatDoor
open Go.RowKit

/-- What a function that hands back one slice of strings leaves. -/
def StrsPost (w : World) (l : List (List UInt8)) (e : Ending) (w' : World) : Prop :=
  ∃ v, e = .returned v ∧ Sl 1 elStr w' (fun b => w.heap.size ≤ b ∧ b < w'.heap.size) v l ∧ Below w.heap.size w w'
theorem str_Split (c : UInt8) (s : ByteArray) (w : World) (hg : Glob w) (hs : s.size < 4294967281) :
    Calls Tryz.prog 78 #[.string s, .string ⟨#[c]⟩] w (StrsPost w (pieces c s.data.toList)) := by
  refine (Tryz.strings_Split_shaped s ⟨#[c]⟩ w hg.shaped hs (Nat.le_refl 1)).mono ?_
  rintro e w' ⟨rfl, rfl⟩
  have hp := splitB_pieces c _ s rfl
  have hlen := Lib.splitB_all ⟨#[c]⟩ (Nat.le_refl 1) 0 _ s rfl
  have hcnt := Lib.countB_le ⟨#[c]⟩ (Nat.le_refl 1) _ s (Nat.le_refl _)
  generalize Lib.splitB ⟨#[c]⟩ 0 (Lib.countB s ⟨#[c]⟩) s = l at *
  refine ⟨_, rfl, ?_, (Below.refl _ _).alloc (Nat.le_refl _) _⟩
  rw [← hp, ← hlen]
  have hlm : (l.map (·.data.toList)).length = l.length := by simp
  refine ⟨_, l.length, by rw [hlm], by simp, by unfold maxLen; omega, fun h0 => ⟨w.heap.size, 0, rfl, by simp, fun i a hi => ?_⟩⟩
  rw [List.getElem?_map] at hi
  obtain ⟨b, hb, rfl⟩ := Option.map_eq_some_iff.1 hi
  refine ⟨[.string b], rfl, fun j u hu => ?_, rfl⟩
  have hj : j = 0 := by have := (List.getElem?_eq_some_iff.1 hu).1; simp at this; exact this
  subst hj
  simp at hu; subst hu
  have := cells_new w (l.map Value.string) 9 (0, 0) i (.string b) (by simp [hb])
  have hadd : (⟨w.heap.size, 0, none⟩ : Addr).add i = ⟨w.heap.size, i, none⟩ := by unfold Addr.add; split <;> simp_all
  rw [hadd] at this
  rw [Nat.zero_add, Nat.mul_one, Nat.add_zero]; exact this

/-- What a function that hands back lines and diagnostics leaves. -/
def SplitPost (w : World) (q : List Lin × List Dia) (e : Ending) (w' : World) : Prop :=
  ∃ v d, e = .returned (.tuple #[v, d]) ∧ Sl 2 elLin w' (fun b => w.heap.size ≤ b ∧ b < w'.heap.size) v q.1 ∧ Sl 3 elDia w' (fun b => w.heap.size ≤ b ∧ b < w'.heap.size) d q.2 ∧ Below w.heap.size w w'
theorem split_done {w w' : World} {q : List Lin × List Dia} {v d : Value} (h1 : Sl 2 elLin w' (fun b => w.heap.size ≤ b ∧ b < w'.heap.size) v q.1) (h2 : Sl 3 elDia w' (fun b => w.heap.size ≤ b ∧ b < w'.heap.size) d q.2) (hb : Below w.heap.size w w') :
    SplitPost w q (.returned (.tuple #[v, d])) w' := ⟨v, d, rfl, h1, h2, hb⟩

/-- The loop's two rows. -/
def lineG (base : Nat) (w : World) (v d : Value) : Nat → Prop := fun b => base ≤ b ∧ b < w.heap.size ∧ v.ownBlock ≠ some b ∧ d.ownBlock ≠ some b
section
variable {base : Nat} {w1 w w' : World} {v d v' d' : Value} {out : List Lin} {ds : List Dia}
end

end Go.Proofs.YtfnfbojaiikigaaGreatDoor
