/- The contracts of Unquote, the program's and the reference's. Conditions: the string is at most 2 to the 47th less some bytes long. -/
import Derived.Test.YtakgmdagjaenpaaDoorP33
import Derived.Test.YtakgmdagjaenpaaDoorT3
import Derived.Test.YtakgmdagjaenpaaDoorF5
set_option linter.unusedSimpArgs false
set_option linter.unusedVariables false
namespace Go.Proofs.YtakgmdagjaenpaaDoor
open Go.RowKit

theorem isEmpty_true {s : ByteArray} (h : s.size = 0) : s.toList.isEmpty = true := by rw [ByteArray.toList_eq, List.isEmpty_iff, ← List.length_eq_zero_iff]; simpa using h
theorem isEmpty_false {s : ByteArray} (h : s.size ≠ 0) : s.toList.isEmpty = false := by rw [Bool.eq_false_iff]; intro h'; rw [ByteArray.toList_eq, List.isEmpty_iff, ← List.length_eq_zero_iff] at h'; exact h (by simpa using h')
theorem head_get {s : ByteArray} (h : 0 < s.size) : s.data.toList.head? = some s[0] := by
  have : s.data.toList = s[0] :: s.data.toList.drop 1 := by have := drop_cons s 0 h; simpa using this
  rw [this]; rfl
theorem unquoteS_nil {s : ByteArray} (h : s.size = 0) : unquoteS s.data.toList = ([], 4) := by
  have : s.data.toList = [] := List.eq_nil_of_length_eq_zero (by simpa using h)
  rw [this]; rfl
theorem unquoteS_no {s : ByteArray} (h : 0 < s.size) (hc : s[0] ≠ 34) : unquoteS s.data.toList = ([], 4) := by
  unfold unquoteS
  rw [head_get h, if_neg (fun e => hc (Option.some.inj e))]
theorem unquoteS_at {s : ByteArray} (h : 0 < s.size) (hc : s[0] = 34) : unquoteS s.data.toList = if (quotedAt s 1 []).2.2 = true ∧ (quotedAt s 1 []).2.1 = s.size then ((quotedAt s 1 []).1, 0) else ([], 4) := by
  unfold unquoteS quotedAt
  rw [head_get h, hc, if_pos rfl, show s.data.toList.length = s.size by simp]
def StrErr (r : List UInt8 × Int) : Ending := .returned (.tuple #[.string (S r.1), .int .i64 r.2])
set_option maxRecDepth 100000 in
set_option maxHeartbeats 1000000 in
theorem text_Unquote (s : ByteArray) (w : World) (hs : s.size ≤ 140737488351232) :
    Calls Tryd.prog 8 #[.string s] w fun e w' => e = StrErr (unquoteS s.data.toList) ∧ Below w.heap.size w w' := by
  obtain ⟨r, hr⟩ : ∃ r, r = unquoteS s.data.toList := ⟨_, rfl⟩
  rw [← hr]
  by_cases hz : s.size = 0
  · have e0 := isEmpty_true hz
    rw [unquoteS_nil hz] at hr
    have HR := Lib.hid hr
    clear hr hz
    go_enter Tryd.func8, Tryd.ntmps8
    go_wp2
    go_ret2
    exact ⟨by rw [HR.out] <;> rfl, Below.refl _ _⟩
  · have e0 := isEmpty_false hz
    have h0 : 0 < s.size := Nat.pos_of_ne_zero hz
    by_cases hc : s[0] = 34
    · have e1 : ((s[0].toNat : Int) != 34) = false := by rw [hc]; rfl
      have hq := text_quoted s 0 w h0 hs
      rw [unquoteS_at h0 hc] at hr
      obtain ⟨⟨t, q, ok⟩, hqe⟩ : ∃ x, x = quotedAt s 1 [] := ⟨_, rfl⟩
      have hqe' : quotedAt s (0 + 1) [] = (t, q, ok) := hqe.symm
      rw [hqe'] at hq
      rw [← hqe] at hr
      have HQ := Lib.hid hq
      clear hq hqe hqe' hz hc
      cases ok
      · rw [if_neg (by simp)] at hr
        have HR := Lib.hid hr
        clear hr
        go_enter Tryd.func8, Tryd.ntmps8
        go_wp2_with (go_at_call 16; refine HQ.out.mono ?_; rintro e w2 ⟨rfl, hb⟩)
        go_ret2
        exact ⟨by rw [HR.out] <;> rfl, hb⟩
      · by_cases hl : q = s.size
        · have e2 : ((q : Int) != (s.size : Int)) = false := by rw [hl]; simp
          rw [if_pos ⟨rfl, hl⟩] at hr
          have HR := Lib.hid hr
          clear hr hl
          go_enter Tryd.func8, Tryd.ntmps8
          go_wp2_with (go_at_call 16; refine HQ.out.mono ?_; rintro e w2 ⟨rfl, hb⟩)
          go_ret2
          exact ⟨by rw [HR.out] <;> rfl, hb⟩
        · have e2 : ((q : Int) != (s.size : Int)) = true := by rw [bne_iff_ne]; omega
          rw [if_neg (fun h => hl h.2)] at hr
          have HR := Lib.hid hr
          clear hr hl
          go_enter Tryd.func8, Tryd.ntmps8
          go_wp2_with (go_at_call 16; refine HQ.out.mono ?_; rintro e w2 ⟨rfl, hb⟩)
          go_ret2
          exact ⟨by rw [HR.out] <;> rfl, hb⟩
    · have e1 : ((s[0].toNat : Int) != 34) = true := by rw [bne_iff_ne]; intro h; exact hc (UInt8.toNat_inj.1 (by have e : (34 : UInt8).toNat = 34 := rfl; omega))
      rw [unquoteS_no h0 hc] at hr
      have HR := Lib.hid hr
      clear hr hz hc
      go_enter Tryd.func8, Tryd.ntmps8
      go_wp2
      go_ret2
      exact ⟨by rw [HR.out] <;> rfl, Below.refl _ _⟩
set_option maxRecDepth 100000 in
set_option maxHeartbeats 1000000 in
theorem ref_Unquote (s : ByteArray) (w : World) (hs : s.size ≤ 140737488351232) :
    Calls Tryd.prog 9 #[.string s] w fun e w' => e = StrErr (unquoteS s.data.toList) ∧ w = w' := by
  obtain ⟨r, hr⟩ : ∃ r, r = unquoteS s.data.toList := ⟨_, rfl⟩
  rw [← hr]
  by_cases hz : s.size = 0
  · have e0 := isEmpty_true hz
    rw [unquoteS_nil hz] at hr
    have HR := Lib.hid hr
    clear hr hz
    go_enter Tryd.func9, Tryd.ntmps9
    go_wp2
    go_ret2
    exact ⟨by rw [HR.out] <;> rfl, rfl⟩
  · have e0 := isEmpty_false hz
    have h0 : 0 < s.size := Nat.pos_of_ne_zero hz
    by_cases hc : s[0] = 34
    · have e1 : ((s[0].toNat : Int) != 34) = false := by rw [hc]; rfl
      have hq := ref_quoted s 0 w h0 hs
      rw [unquoteS_at h0 hc] at hr
      obtain ⟨⟨t, q, ok⟩, hqe⟩ : ∃ x, x = quotedAt s 1 [] := ⟨_, rfl⟩
      have hqe' : quotedAt s (0 + 1) [] = (t, q, ok) := hqe.symm
      rw [hqe'] at hq
      rw [← hqe] at hr
      clear hqe hqe' hz hc
      cases ok
      · rw [if_neg (by simp)] at hr
        have HR := Lib.hid hr
        simp only [rqV, Bool.false_eq_true, if_false] at hq
        have HQ := Lib.hid hq
        have g1 : decide ((0 : Int) ≤ (q : Int)) = true := decide_eq_true (by omega)
        have g2 : decide (0 ≤ q) = true := decide_eq_true (by omega)
        clear hr hq
        go_enter Tryd.func9, Tryd.ntmps9
        go_wp2_with (go_at_call 17; refine HQ.out.mono ?_; rintro e w2 ⟨rfl, hb⟩; subst hb)
        go_ret2
        exact ⟨by rw [HR.out] <;> rfl, rfl⟩
      · simp only [rqV, if_true] at hq
        have HQ := Lib.hid hq
        by_cases hl : q = s.size
        · have e2 : ((q : Int) != (s.size : Int)) = false := by rw [hl]; simp
          rw [if_pos ⟨rfl, hl⟩] at hr
          have HR := Lib.hid hr
          clear hr hl hq
          go_enter Tryd.func9, Tryd.ntmps9
          go_wp2_with (go_at_call 17; refine HQ.out.mono ?_; rintro e w2 ⟨rfl, hb⟩; subst hb)
          go_ret2
          exact ⟨by rw [HR.out] <;> rfl, rfl⟩
        · have e2 : ((q : Int) != (s.size : Int)) = true := by rw [bne_iff_ne]; omega
          rw [if_neg (fun h => hl h.2)] at hr
          have HR := Lib.hid hr
          clear hr hl hq
          go_enter Tryd.func9, Tryd.ntmps9
          go_wp2_with (go_at_call 17; refine HQ.out.mono ?_; rintro e w2 ⟨rfl, hb⟩; subst hb)
          go_ret2
          exact ⟨by rw [HR.out] <;> rfl, rfl⟩
    · have e1 : ((s[0].toNat : Int) != 34) = true := by rw [bne_iff_ne]; intro h; exact hc (UInt8.toNat_inj.1 (by have e : (34 : UInt8).toNat = 34 := rfl; omega))
      rw [unquoteS_no h0 hc] at hr
      have HR := Lib.hid hr
      clear hr hz hc
      go_enter Tryd.func9, Tryd.ntmps9
      go_wp2
      go_ret2
      exact ⟨by rw [HR.out] <;> rfl, rfl⟩
end Go.Proofs.YtakgmdagjaenpaaDoor
