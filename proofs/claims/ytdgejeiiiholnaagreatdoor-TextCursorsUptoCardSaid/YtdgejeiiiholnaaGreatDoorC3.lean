/- The contracts of the cursor's Keyword, Ident, OneOf, Reject and Close. -/
import Derived.Test.YtdgejeiiiholnaaGreatDoorC2
import Derived.Test.YtdgejeiiiholnaaGreatDoorS1
set_option linter.unusedSimpArgs false
set_option linter.unusedVariables false
namespace Go.Proofs.YtdgejeiiiholnaaGreatDoor
open Go.RowKit

theorem CurAt.last {w : World} {F : Nat → Prop} {g : Nat} {c : Cur} (h : CurAt w F g c) : w.cell? ⟨g, 3, none⟩ = some (.int .i64 c.last) := let ⟨_, hb, _⟩ := h.blk; hb.cell 3
def KeyPost (w : World) (F : Nat → Prop) (g : Nat) (r : Cur × Bool) (x : Ending) (w' : World) : Prop := x = .returned (.bool r.2) ∧ CurAt w' F g r.1 ∧ Only g w w'
def StrCur (w : World) (F : Nat → Prop) (g : Nat) (r : Cur × List UInt8) (x : Ending) (w' : World) : Prop := x = .returned (.string (S r.2)) ∧ CurAt w' F g r.1 ∧ Only g w w'
def IntCur (w : World) (F : Nat → Prop) (g : Nat) (r : Cur × Int) (x : Ending) (w' : World) : Prop := x = .returned (.int .i64 r.2) ∧ CurAt w' F g r.1 ∧ Only g w w'

set_option maxRecDepth 100000 in
set_option maxHeartbeats 2000000 in
theorem cur_Keyword (c : Cur) (kw : ByteArray) (F : Nat → Prop) (g : Nat) (w : World) (h : CurAt w F g c) :
    Calls Tryz.prog 25 #[.pointer (some ⟨g, 0, none⟩), .string kw] w (KeyPost w F g (c.keyword kw.data.toList)) := by
  obtain ⟨q, hq⟩ : ∃ q, q = c.keyword kw.data.toList := ⟨_, rfl⟩
  rw [← hq]
  unfold Cur.keyword at hq
  have hrd := cur_read c false F g w h
  obtain ⟨⟨c', t, ok⟩, hr⟩ : ∃ r, r = c.read false := ⟨_, rfl⟩
  rw [← hr] at hrd hq
  have HRD := Lib.hid hrd
  have HQ := Lib.hid hq
  clear hrd hr hq h
  cases ok
  · go_enter Tryz.func25, Tryz.ntmps25
    go_wp2_with (go_at_call 63; refine HRD.out.mono ?_; rintro e w2 ⟨rfl, hc2, ho2⟩)
    go_ret
    rw [HQ.out]
    exact ⟨by simp, by simpa using hc2, ho2⟩
  · by_cases ht : t = kw.data.toList
    · have e1 : (t == kw.toList) = true := by rw [ByteArray.toList_eq]; exact beq_iff_eq.2 ht
      have HT := Lib.hid ht
      clear ht
      go_enter Tryz.func25, Tryz.ntmps25
      go_wp2_with (go_at_call 63; refine HRD.out.mono ?_; rintro e w2 ⟨rfl, hc2, ho2⟩)
      go_ret
      rw [HQ.out, if_neg (fun h => h.2 HT.out)]
      exact ⟨ret_b (by simp [HT.out]), hc2, ho2⟩
    · have e1 : (t == kw.toList) = false := by rw [ByteArray.toList_eq]; exact beq_eq_false_iff_ne.2 ht
      have HT := Lib.hid ht
      clear ht
      go_enter Tryz.func25, Tryz.ntmps25
      go_wp2_with (first | (go_at_call 63; refine HRD.out.mono ?_; rintro e w2 ⟨rfl, hc2, ho2⟩; have c3 := hc2.last; have HC2 := Lib.hid hc2; clear hc2) | (go_at_call 62; refine (cur_fail c' 4 c'.last F g _ HC2.out).mono ?_; rintro e w3 ⟨rfl, hc3, ho3⟩))
      go_ret
      rw [HQ.out, if_pos ⟨trivial, HT.out⟩]
      exact ⟨ret_b (by simp [HT.out]), hc3, ho2.trans ho3⟩

set_option maxRecDepth 100000 in
set_option maxHeartbeats 2000000 in
theorem cur_Ident (c : Cur) (F : Nat → Prop) (g : Nat) (w : World) (h : CurAt w F g c) (hlen : ∀ f ∈ c.fields, f.text.length ≤ 1000000000) :
    Calls Tryz.prog 27 #[.pointer (some ⟨g, 0, none⟩)] w (StrCur w F g c.ident) := by
  obtain ⟨q, hq⟩ : ∃ q, q = c.ident := ⟨_, rfl⟩
  rw [← hq]
  unfold Cur.ident at hq
  have hrd := cur_read c false F g w h
  have htl := Cur.read_text c false hlen
  obtain ⟨⟨c', t, ok⟩, hr⟩ : ∃ r, r = c.read false := ⟨_, rfl⟩
  rw [← hr] at hrd hq htl
  have HRD := Lib.hid hrd
  have HQ := Lib.hid hq
  clear hrd hr hq h hlen
  dsimp only at htl
  cases ok
  · go_enter Tryz.func27, Tryz.ntmps27
    go_wp2_with (go_at_call 63; refine HRD.out.mono ?_; rintro e w2 ⟨rfl, hc2, ho2⟩)
    go_ret
    rw [HQ.out, if_neg (by simp)]
    exact ⟨rfl, hc2, ho2⟩
  · cases hn : nameS t
    · have HN := Lib.hid hn
      go_enter Tryz.func27, Tryz.ntmps27
      go_wp2_with (first | (go_at_call 63; refine HRD.out.mono ?_; rintro e w2 ⟨rfl, hc2, ho2⟩; have HC2 := Lib.hid hc2; clear hc2) | (go_at_call 65; refine (text_Name (S t) _ (by simp only [S_size, maxLen]; omega)).mono ?_; rintro e w3 ⟨rfl, hb3⟩; have hc3 := HC2.out.below hb3; have c3 := hc3.last; have HC3 := Lib.hid hc3; clear hc3) | (go_at_call 62; refine (cur_fail c' 5 c'.last F g _ HC3.out).mono ?_; rintro e w4 ⟨rfl, hc4, ho4⟩))
      go_ret
      rw [HQ.out, if_pos ⟨trivial, HN.out⟩]
      exact ⟨rfl, hc4, (ho2.trans (Only.of_below hb3)).trans ho4⟩
    · have HN := Lib.hid hn
      go_enter Tryz.func27, Tryz.ntmps27
      go_wp2_with (first | (go_at_call 63; refine HRD.out.mono ?_; rintro e w2 ⟨rfl, hc2, ho2⟩; have HC2 := Lib.hid hc2; clear hc2) | (go_at_call 65; refine (text_Name (S t) _ (by simp only [S_size, maxLen]; omega)).mono ?_; rintro e w3 ⟨rfl, hb3⟩))
      go_ret
      rw [HQ.out, if_neg (by rw [HN.out]; simp)]
      exact ⟨rfl, HC2.out.below hb3, ho2.trans (Only.of_below hb3)⟩

set_option maxRecDepth 100000 in
set_option maxHeartbeats 2000000 in
theorem cur_OneOf (c : Cur) (v : Value) (l : List (List UInt8)) (G F : Nat → Prop) (g : Nat) (w : World) (h : CurAt w F g c) (hl : Sl 1 elStr w G v l) (hG : ∀ b, G b → b < w.heap.size ∧ b ≠ g) :
    Calls Tryz.prog 26 #[.pointer (some ⟨g, 0, none⟩), v] w (IntCur w F g (c.oneOf l)) := by
  obtain ⟨q, hq⟩ : ∃ q, q = c.oneOf l := ⟨_, rfl⟩
  rw [← hq]
  unfold Cur.oneOf at hq
  have hrd := cur_read c false F g w h
  obtain ⟨⟨c', t, ok⟩, hr⟩ : ∃ r, r = c.read false := ⟨_, rfl⟩
  rw [← hr] at hrd hq
  have HRD := Lib.hid hrd
  have HQ := Lib.hid hq
  have HL := Lib.hid hl
  have HGG := Lib.hid hG
  clear hrd hr hq h hl hG
  cases ok
  · go_enter Tryz.func26, Tryz.ntmps26
    go_wp2_with (go_at_call 63; refine HRD.out.mono ?_; rintro e w2 ⟨rfl, hc2, ho2⟩)
    go_ret
    rw [HQ.out, if_neg (by simp)]
    exact ⟨rfl, hc2, ho2⟩
  · obtain ⟨ix, hix⟩ : ∃ ix, ix = indexS l t := ⟨_, rfl⟩
    rw [← hix] at HQ
    have HIX := Lib.hid hix
    clear hix
    by_cases h0 : ix < 0
    · go_enter Tryz.func26, Tryz.ntmps26
      go_wp2_with (first | (go_at_call 63; refine HRD.out.mono ?_; rintro e w2 ⟨rfl, hc2, ho2⟩; have HC2 := Lib.hid hc2; clear hc2) | (go_at_call 64; refine (str_Index v l (S t) _ _ (HL.out.keep elStr_good (ho2.same HGG.out) fun _ h => h)).mono ?_; rintro e w3 ⟨rfl, rfl⟩; rw [S_data, ← HIX.out]; have c3 := HC2.out.last) | (go_at_call 62; refine (cur_fail c' 4 c'.last F g _ HC2.out).mono ?_; rintro e w4 ⟨rfl, hc4, ho4⟩))
      go_ret
      rw [HQ.out, if_pos trivial, if_pos h0]
      exact ⟨rfl, hc4, ho2.trans ho4⟩
    · go_enter Tryz.func26, Tryz.ntmps26
      go_wp2_with (first | (go_at_call 63; refine HRD.out.mono ?_; rintro e w2 ⟨rfl, hc2, ho2⟩; have HC2 := Lib.hid hc2; clear hc2) | (go_at_call 64; refine (str_Index v l (S t) _ _ (HL.out.keep elStr_good (ho2.same HGG.out) fun _ h => h)).mono ?_; rintro e w3 ⟨rfl, rfl⟩; rw [S_data, ← HIX.out]))
      go_ret
      rw [HQ.out, if_pos trivial, if_neg (by omega)]
      exact ⟨rfl, HC2.out, ho2⟩

set_option maxRecDepth 100000 in
set_option maxHeartbeats 2000000 in
theorem cur_Reject (c : Cur) (n : Int) (F : Nat → Prop) (g : Nat) (w : World) (h : CurAt w F g c) :
    Calls Tryz.prog 23 #[.pointer (some ⟨g, 0, none⟩), .int .i64 n] w fun x w' => x = .returned (.tuple #[]) ∧ CurAt w' F g (c.reject n) ∧ Only g w w' := by
  have c3 := h.last
  have H := Lib.hid h
  clear h
  by_cases hn : n = 0
  · have e0 : (n != 0) = false := by rw [hn]; rfl
    have HN := Lib.hid hn
    clear hn
    go_enter Tryz.func23, Tryz.ntmps23
    go_wp2
    go_end0
    exact ⟨rfl, by unfold Cur.reject; rw [if_pos HN.out]; exact H.out, Only.refl _ _⟩
  · have e0 : (n != 0) = true := by rw [bne_iff_ne]; exact hn
    have HN := Lib.hid hn
    clear hn
    go_enter Tryz.func23, Tryz.ntmps23
    go_wp2_with (go_at_call 62; refine (cur_fail c n c.last F g _ H.out).mono ?_; rintro e w2 ⟨rfl, hc2, ho2⟩)
    go_end0
    exact ⟨rfl, by unfold Cur.reject; rw [if_neg HN.out]; exact hc2, ho2⟩
end Go.Proofs.YtdgejeiiiholnaaGreatDoor
