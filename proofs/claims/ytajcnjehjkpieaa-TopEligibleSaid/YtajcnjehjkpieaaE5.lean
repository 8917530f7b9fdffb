/- register.Squad: the row of the players, sorted and made compact. -/
import Derived.Test.YtajcnjehjkpieaaE2
import Derived.Test.YtajcnjehjkpieaaShelf
import Derived.Sort.OwnSorted
set_option linter.unusedSimpArgs false
set_option linter.unusedVariables false
namespace Go.Proofs.Ytajcnjehjkpieaa
open Go.RowKit

theorem flat_strs : ∀ (css : List (List Value)) (l : List (List UInt8)), css.length = l.length → (∀ (i : Nat) (a : List UInt8) (cs : List Value), l[i]? = some a → css[i]? = some cs → cs = [encStr a]) → css.flatten = l.map encStr
  | [], [], _, _ => rfl
  | cs :: css, a :: l, h, h2 => by
    rw [List.flatten_cons, List.map_cons, h2 0 a cs rfl rfl, flat_strs css l (by simpa using h) fun i b c h3 h4 => h2 (i + 1) b c (by simpa using h3) (by simpa using h4)]
    rfl
  | [], _ :: _, h, _ => by simp at h
  | _ :: _, [], h, _ => by simp at h
theorem own_strs {B g cap : Nat} {W : World} {l : List (List UInt8)} (h : OwnSl 1 elStr 9 B W (.slice (some ⟨g, 0, none⟩) l.length cap) l) :
    ∃ cur, W.heap[g]? = some (.cells cur 9 (0, 0)) ∧ cur.toList.take l.length = l.map encStr ∧ B ≤ g ∧ l.length ≤ cap ∧ cap ≤ maxLen ∧ cur.size = cap * 1 := by
  obtain ⟨css, hlen, ho, hsz, hel⟩ := h
  rcases ho.2 with ⟨hv, _⟩ | ⟨g', cap', cur, hv, hB, hb, h1, h2, h3, h4⟩
  · cases hv
  · injection hv with e1 _ e3
    injection e1 with e1
    injection e1 with e1
    subst e1 e3
    refine ⟨cur, hb, ?_, hB, h1, h2, h3⟩
    rw [Nat.mul_one] at h4
    rw [h4]
    exact flat_strs css l hlen fun i a cs h5 h6 => hel i a cs h5 h6
def byLe : List UInt8 → List UInt8 → Bool := fun x y => decide (x ≤ y)
theorem row_Sort {B g cap : Nat} {W : World} {l : List (List UInt8)} (h : OwnSl 1 elStr 9 B W (.slice (some ⟨g, 0, none⟩) l.length cap) l) (hl : l.length < 4611686018427387904) :
    Calls Try.prog 28 #[.slice (some ⟨g, 0, none⟩) l.length cap] W fun e w' => e = .returned (.tuple #[]) ∧ Only g W w' ∧ g < w'.heap.size ∧ Sort.Holds encStr w' g 0 (l.mergeSort fun x y => decide (x ≤ y)).toArray := by
  obtain ⟨cur, hb, ht, hB, h1, h2, h3⟩ := own_strs h
  have hg : g < W.heap.size := (Array.getElem?_eq_some_iff.1 hb).1
  refine (Try.slices_Sort_string g 0 cap l W (holds_of_block hb ht) hg hl).mono ?_
  rintro e w' ⟨rfl, n, os, rfl⟩
  have hr := ownsRow_sorted (n := n) (os := os) (ss := l) (ts := l.mergeSort fun x y => decide (x ≤ y)) (by simp) hB hb h1 h2 h3
  refine ⟨rfl, grownBy_sorted _, ?_, ?_⟩
  · simp only [Sort.grow, Array.size_append]; simp [Sort.putRow, Sort.mapBlock, Sort.ahead]; omega
  · rcases hr.2 with ⟨hv, _⟩ | ⟨g', cap', cur', hv, _, hb', _, _, _, h4⟩
    · cases hv
    · injection hv with e1 _ e3
      injection e1 with e1
      injection e1 with e1
      subst e1 e3
      refine holds_of_block hb' ?_
      rw [List.length_mergeSort]
      rwa [Nat.mul_one] at h4
theorem row_Compact {g cap : Nat} {W : World} {zs : List (List UInt8)} (hH : Sort.Holds encStr W g 0 zs.toArray) (hg : g < W.heap.size) (h1 : zs.length ≤ cap) (h2 : cap ≤ maxLen) :
    Calls Try.prog 29 #[.slice (some ⟨g, 0, none⟩) zs.length cap] W fun e w' => e = .returned (.slice (some ⟨g, 0, none⟩) (Lib.compact zs).length cap) ∧ Only g W w' ∧ Sl 1 elStr w' (fun b => b = g) (.slice (some ⟨g, 0, none⟩) (Lib.compact zs).length cap) (Lib.compact zs) := by
  have hle : (Lib.compact zs).length ≤ zs.length := by
    unfold Lib.compact Lib.compactUpTo
    rw [List.length_map]
    exact Nat.le_trans (List.length_filter_le _ _) (by simp)
  refine (Try.slices_Compact_string g 0 cap zs W hH (by unfold maxLen at h2; omega) h1).mono ?_
  rintro e w' ⟨rfl, q, rfl⟩
  have hs : (Lib.compact zs ++ List.replicate (zs.length - (Lib.compact zs).length) ([] : List UInt8)).toArray.size = zs.toArray.size := by simp; omega
  refine ⟨rfl, ?_, _, cap, rfl, by omega, h2, fun _ => ⟨g, 0, rfl, rfl, fun i a hi => ?_⟩⟩
  · refine ⟨rfl, rfl, rfl, by simp [Sort.putRow, Sort.mapBlock, Sort.ahead], fun k hk hne => ?_⟩
    have : g ≠ k := fun e => hne (by rw [e])
    simp [Sort.putRow, Sort.mapBlock, Sort.ahead, Array.getElem?_modify, this]
  · have hil := (List.getElem?_eq_some_iff.1 hi).1
    have hc := Sort.cell?_putRow encStr (Sort.ahead W q) g 0 _ _ (Sort.holds_ahead _ _ _ _ _ _ hH) hs i (by rw [hs]; simp; omega)
    refine ⟨[.string (S a)], rfl, fun j u hj => ?_, rfl⟩
    have hj0 : j = 0 := by have := (List.getElem?_eq_some_iff.1 hj).1; simp at this; omega
    subst hj0
    have hu : Value.string (S a) = u := by simpa using hj
    subst hu
    rw [Nat.mul_one, Nat.add_zero, hc]
    have : (Lib.compact zs ++ List.replicate (zs.length - (Lib.compact zs).length) ([] : List UInt8)).toArray[i]! = a := by
      rw [getElem!_pos _ i (by simp; omega)]
      simp only [List.getElem_toArray]
      rw [List.getElem_append_left hil]
      exact (List.getElem?_eq_some_iff.1 hi).2
    rw [this]
    rfl
end Go.Proofs.Ytajcnjehjkpieaa
