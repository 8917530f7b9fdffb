/- The walk of TextQuotes: a string's quoted form and what Unquote reads in it are the reference's; Unquote reads the quoted form of a printed string back. Condition: the string is at most 1048576 bytes long. -/
import Derived.Test.YtakgmdagjaenpaaDoorM2
import Derived.Test.YtakgmdagjaenpaaDoorN1
import Derived.Test.YtakgmdagjaenpaaDoorF3
import Derived.IntWalk
set_option linter.unusedSimpArgs false
set_option linter.unusedVariables false
namespace Go.Proofs.YtakgmdagjaenpaaDoor
open Go.RowKit

theorem all_next {s : ByteArray} {j : Nat} (h : j < s.size) : (s.data.toList.take (j + 1)).all printedB = ((s.data.toList.take j).all printedB && printedB s[j]) := by
  have h' : j < s.data.toList.length := by simpa using h
  rw [List.take_add_one, List.getElem?_eq_getElem h', Option.toList_some, List.all_append]
  simp only [List.all_cons, List.all_nil, Bool.and_true]
  rfl
set_option maxRecDepth 100000 in
set_option maxHeartbeats 4000000 in
theorem law_Quotes (s : ByteArray) (w : World) (hg : GlobN w) (_ : s.size ≤ maxLen) (hs : s.size ≤ 1048576) :
    Calls Tryd.prog 4 #[.string s] w fun e w' => e = .returned (.bool true) ∧ Below w.heap.size w w' := by
  have HAW := Lib.hid (law03_awake w hg)
  obtain ⟨b, hb⟩ : ∃ b, b = s.data.toList.all printedB := ⟨_, rfl⟩
  obtain ⟨A, n, hAn⟩ : ∃ A n, StrErr (unquoteS s.data.toList) = .returned (.tuple #[.string A, .int .i64 n]) := ⟨_, _, rfl⟩
  obtain ⟨Q, hQ⟩ : ∃ Q, Q = S (quoteS s.data.toList) := ⟨_, rfl⟩
  have hQ2 : Q.size ≤ 2 * s.size + 2 := by
    have h1 := quoteS_le s.data.toList
    have h2 : s.data.toList.length = s.size := by simp
    have h3 : Q.size = (quoteS s.data.toList).length := by rw [hQ]; simp [S, ByteArray.size]
    omega
  have hz : StrErr (unquoteS Q.data.toList) = .returned (.tuple #[.string (if b then s else ⟨#[]⟩), .int .i64 (if b then 0 else 4)]) := by
    rw [hQ, S_data]
    cases b with
    | true =>
      rw [unquote_good hb.symm]
      have : S s.data.toList = s := by cases s; simp [S]
      simp [StrErr, this]
    | false =>
      rw [unquote_bad hb.symm]
      rfl
  have k1 : ∀ W, Below w.heap.size w W → Calls Tryd.prog 8 #[.string s] W fun e W' => e = .returned (.tuple #[.string A, .int .i64 n]) ∧ Below w.heap.size w W' := fun W hW => by
    refine (text_Unquote s W (by omega)).mono ?_
    rintro e W' ⟨rfl, h⟩
    exact ⟨hAn, hW.trans (h.mono hW.size)⟩
  have k2 : ∀ W, Below w.heap.size w W → Calls Tryd.prog 9 #[.string s] W fun e W' => e = .returned (.tuple #[.string A, .int .i64 n]) ∧ Below w.heap.size w W' := fun W hW => by
    refine (ref_Unquote s W (by omega)).mono ?_
    rintro e W' ⟨rfl, rfl⟩
    exact ⟨hAn, hW⟩
  have k3 : ∀ W, Below w.heap.size w W → Calls Tryd.prog 7 #[.string s] W fun e W' => e = .returned (.string Q) ∧ Below w.heap.size w W' := fun W hW => by
    refine (text_Quote s W (hg.below hW).glob (by omega)).mono ?_
    rintro e W' ⟨rfl, h⟩
    exact ⟨by rw [hQ], hW.trans (h.mono hW.size)⟩
  have k4 : ∀ W, Below w.heap.size w W → Calls Tryd.prog 10 #[.string s] W fun e W' => e = .returned (.string Q) ∧ Below w.heap.size w W' := fun W hW => by
    refine (ref_Quote s W (by omega)).mono ?_
    rintro e W' ⟨rfl, rfl⟩
    exact ⟨by rw [hQ], hW⟩
  have k5 : ∀ W, Below w.heap.size w W → Calls Tryd.prog 8 #[.string Q] W fun e W' => e = .returned (.tuple #[.string (if b then s else ⟨#[]⟩), .int .i64 (if b then 0 else 4)]) ∧ Below w.heap.size w W' := fun W hW => by
    refine (text_Unquote Q W (by omega)).mono ?_
    rintro e W' ⟨rfl, h⟩
    exact ⟨hz, hW.trans (h.mono hW.size)⟩
  have K1 := Lib.hid k1
  have K2 := Lib.hid k2
  have K3 := Lib.hid k3
  have K4 := Lib.hid k4
  have K5 := Lib.hid k5
  have HB := Lib.hid hb
  clear k1 k2 k3 k4 k5 hz hQ2 hQ hAn hb hg
  go_enter Tryd.func4, Tryd.ntmps4
  go_wp2_with (first
    | (go_at_call 5; refine HAW.out.mono ?_; rintro e w1 ⟨rfl, hb1⟩; have HB1 := Lib.hid hb1; clear hb1)
    | (go_at_call 8; refine (K1.out _ HB1.out).mono ?_; rintro e w2 ⟨rfl, hb2⟩; have HB2 := Lib.hid hb2; clear hb2)
    | (go_at_call 9; refine (K2.out _ HB2.out).mono ?_; rintro e w3 ⟨rfl, hb3⟩; have HB3 := Lib.hid hb3; clear hb3)
    | (go_at_call 7; refine (K3.out _ HB3.out).mono ?_; rintro e w4 ⟨rfl, hb4⟩; have HB4 := Lib.hid hb4; clear hb4)
    | (go_at_call 10; refine (K4.out _ HB4.out).mono ?_; rintro e w5 ⟨rfl, hb5⟩; have HB5 := Lib.hid hb5; clear hb5))

  go_loopw [7, 40] (fun p i wr => ∃ j : Nat, j ≤ s.size ∧ i = .int .i64 j ∧ p = .bool ((s.data.toList.take j).all printedB) ∧ Below w.heap.size w wr) (fun _ i _ => s.size - (intOf i).toNat)
  case atStart => exact ⟨0, Nat.zero_le _, rfl, rfl, HB5.out⟩
  case round =>
    obtain ⟨j, hj, rfl, rfl, hbw⟩ := hrel
    have HBW := Lib.hid hbw
    clear hbw
    by_cases hjl : j < s.size
    · have hn := all_next hjl
      obtain ⟨p, hp⟩ : ∃ p, p = (s.data.toList.take j).all printedB := ⟨_, rfl⟩
      obtain ⟨c, hc⟩ : ∃ c, c = s[j] := ⟨_, rfl⟩
      rw [← hp, ← hc] at hn
      have HN := Lib.hid hn
      have HC := Lib.hid hc
      clear hn
      rw [← hp]
      clear hp
      cases p <;> (go_wp2 <;> go_roundw)
      all_goals first
        | (simp [intOf]; omega)
        | exact ⟨j + 1, by omega, by go_num, by
            rw [HN.out, HC.out]
            first
              | rfl
              | (refine congrArg Value.bool ?_
                 rw [Bool.true_and, Bool.eq_iff_iff, printedB_iff]
                 simp only [decide_eq_true_eq, Bool.false_eq_true, false_iff]
                 omega), HBW.out⟩
    · obtain rfl : j = s.size := by omega
      have hbb : (s.data.toList.take s.size).all printedB = b := by rw [HB.out, List.take_of_length_le (by simp)]
      rw [hbb]
      clear hbb
      cases b
      all_goals go_wp2_with (first
        | (go_at_call 7; refine (K3.out _ HBW.out).mono ?_; rintro e w6 ⟨rfl, hb6⟩; have HB6 := Lib.hid hb6; clear hb6)
        | (go_at_call 8; refine (K5.out _ HB6.out).mono ?_; rintro e w7 ⟨rfl, hb7⟩; have HB7 := Lib.hid hb7; clear hb7))
      all_goals go_ret
      all_goals exact ⟨rfl, HB7.out⟩
end Go.Proofs.YtakgmdagjaenpaaDoor
