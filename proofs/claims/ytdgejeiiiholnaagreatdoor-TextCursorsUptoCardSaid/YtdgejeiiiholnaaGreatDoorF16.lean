/- The reference's cursor: Word, String, Int. -/
import Derived.Test.YtdgejeiiiholnaaGreatDoorF11
import Derived.Test.YtdgejeiiiholnaaGreatDoorF15
import Derived.Test.YtdgejeiiiholnaaGreatDoorP35
set_option linter.unusedSimpArgs false
set_option linter.unusedVariables false
namespace Go.Proofs.YtdgejeiiiholnaaGreatDoor
open Go.RowKit

set_option maxRecDepth 100000 in
set_option maxHeartbeats 2000000 in
theorem rcur_Word (c : Cur) (F : Nat → Prop) (g : Nat) (w : World) (h : RCurAt w F g c) :
    Calls Tryz.prog 55 #[.pointer (some ⟨g, 0, none⟩)] w (RStrCur w F g (c.word false)) := by
  obtain ⟨q, hq⟩ : ∃ q, q = c.word false := ⟨_, rfl⟩
  rw [← hq]
  unfold Cur.word at hq
  obtain ⟨⟨c', t, ok⟩, hr⟩ : ∃ r, r = c.read false := ⟨_, rfl⟩
  rw [← hr] at hq
  have HQ := Lib.hid hq
  cases ok
  · have hrd := rcur_next_none h hr
    have ht0 := read_none hr
    have HRD := Lib.hid hrd
    have HT := Lib.hid ht0
    clear hrd hr hq h ht0
    go_enter Tryz.func55, Tryz.ntmps55
    go_wp2_with (go_at_call 96; refine HRD.out.mono ?_; rintro e w2 ⟨rfl, hc2, ho2⟩)
    go_ret
    rw [HQ.out]
    exact ⟨by rw [HT.out]; rfl, hc2.alloc _, ho2.alloc _⟩
  · have hrd := rcur_next_some h hr
    have HRD := Lib.hid hrd
    clear hrd hr hq h
    go_enter Tryz.func55, Tryz.ntmps55
    go_wp2_with (go_at_call 96; refine HRD.out.mono ?_; rintro e w2 ⟨rfl, hc2, ho2⟩)
    go_ret
    rw [HQ.out]
    exact ⟨rfl, hc2.alloc _, ho2.alloc _⟩
set_option maxRecDepth 100000 in
set_option maxHeartbeats 2000000 in
theorem rcur_String (c : Cur) (F : Nat → Prop) (g : Nat) (w : World) (h : RCurAt w F g c) :
    Calls Tryz.prog 60 #[.pointer (some ⟨g, 0, none⟩)] w (RStrCur w F g (c.word true)) := by
  obtain ⟨q, hq⟩ : ∃ q, q = c.word true := ⟨_, rfl⟩
  rw [← hq]
  unfold Cur.word at hq
  obtain ⟨⟨c', t, ok⟩, hr⟩ : ∃ r, r = c.read true := ⟨_, rfl⟩
  rw [← hr] at hq
  have HQ := Lib.hid hq
  cases ok
  · have hrd := rcur_next_none h hr
    have ht0 := read_none hr
    have HRD := Lib.hid hrd
    have HT := Lib.hid ht0
    clear hrd hr hq h ht0
    go_enter Tryz.func60, Tryz.ntmps60
    go_wp2_with (go_at_call 96; refine HRD.out.mono ?_; rintro e w2 ⟨rfl, hc2, ho2⟩)
    go_ret
    rw [HQ.out]
    exact ⟨by rw [HT.out]; rfl, hc2.alloc _, ho2.alloc _⟩
  · have hrd := rcur_next_some h hr
    have HRD := Lib.hid hrd
    clear hrd hr hq h
    go_enter Tryz.func60, Tryz.ntmps60
    go_wp2_with (go_at_call 96; refine HRD.out.mono ?_; rintro e w2 ⟨rfl, hc2, ho2⟩)
    go_ret
    rw [HQ.out]
    exact ⟨rfl, hc2.alloc _, ho2.alloc _⟩
set_option maxRecDepth 100000 in
set_option maxHeartbeats 2000000 in
theorem rcur_Int (c : Cur) (lo hi : Int) (F : Nat → Prop) (g : Nat) (w : World) (h : RCurAt w F g c) (hlen : ∀ f ∈ c.fields, f.text.length ≤ 1000000000) :
    Calls Tryz.prog 59 #[.pointer (some ⟨g, 0, none⟩), .int .i64 lo, .int .i64 hi] w (RIntCur w F g (c.int lo hi)) := by
  obtain ⟨q, hq⟩ : ∃ q, q = c.int lo hi := ⟨_, rfl⟩
  rw [← hq]
  unfold Cur.int at hq
  have htl := Cur.read_text c false hlen
  obtain ⟨⟨c', t, ok⟩, hr⟩ : ∃ r, r = c.read false := ⟨_, rfl⟩
  rw [← hr] at hq htl
  dsimp only at htl hq
  cases ok
  · have hrd := rcur_next_none h hr
    rw [if_neg (by simp)] at hq
    have HQ := Lib.hid hq
    have HRD := Lib.hid hrd
    clear hrd hr hq h hlen
    go_enter Tryz.func59, Tryz.ntmps59
    go_wp2_with (go_at_call 96; refine HRD.out.mono ?_; rintro e w2 ⟨rfl, hc2, ho2⟩)
    go_ret
    rw [HQ.out]
    exact ⟨rfl, hc2.alloc _, ho2.alloc _⟩
  · have hrd := rcur_next_some h hr
    have he0 := read_err hr
    rw [if_pos rfl] at hq
    have kn0 : ∀ W, Calls Tryz.prog 98 #[.string (S t), .int .i64 lo, .int .i64 hi] W fun e W' => e = .returned (.tuple #[.int .i64 (numberS t lo hi).1, .int .i64 (numberS t lo hi).2]) ∧ Below W.heap.size W W' := fun W => by
      have := ref_Number (S t) lo hi W (by simp only [S_size, maxLen]; omega)
      rw [S_data] at this
      exact this
    obtain ⟨⟨v, er⟩, hv⟩ : ∃ z, z = numberS t lo hi := ⟨_, rfl⟩
    rw [← hv] at hq kn0
    have KN := Lib.hid kn0
    have HRD := Lib.hid hrd
    have HE := Lib.hid he0
    dsimp only at hq
    clear hrd hr h hlen hv kn0 htl he0
    by_cases hz : er = 0
    · have e1 : (er != 0) = false := by rw [hz]; rfl
      rw [if_pos hz] at hq
      have HQ := Lib.hid hq
      clear hq hz
      go_enter Tryz.func59, Tryz.ntmps59
      go_wp2_with (first
        | (go_at_call 96; refine HRD.out.mono ?_; rintro e w2 ⟨rfl, hc2, ho2⟩; have HC2 := Lib.hid (hc2.alloc (.cells #[.string (S t), .int .i64 c'.last, .bool false] 33)); have HO2 := Lib.hid (ho2.alloc (.cells #[.string (S t), .int .i64 c'.last, .bool false] 33)); clear hc2 ho2)
        | (go_at_call 98; refine (KN.out _).mono ?_; rintro e w3 ⟨rfl, hb3⟩; have HC3 := Lib.hid (HC2.out.below hb3); have HO3 := Lib.hid (HO2.out.trans (Only.of_below hb3)); clear hb3))
      go_ret
      rw [HQ.out]
      exact ⟨rfl, HC3.out, HO3.out⟩
    · have e1 : (er != 0) = true := by rw [bne_iff_ne]; exact hz
      rw [if_neg hz] at hq
      have HQ := Lib.hid hq
      clear hq hz
      go_enter Tryz.func59, Tryz.ntmps59
      go_wp2_with (first
        | (go_at_call 96; refine HRD.out.mono ?_; rintro e w2 ⟨rfl, hc2, ho2⟩; have hk2 := Blk.new w2 33 #[.string (S t), .int .i64 c'.last, .bool false]; have HK2 := Lib.hid hk2; have HC2 := Lib.hid (hc2.alloc (.cells #[.string (S t), .int .i64 c'.last, .bool false] 33)); have HO2 := Lib.hid (ho2.alloc (.cells #[.string (S t), .int .i64 c'.last, .bool false] 33)); clear hc2 ho2 hk2)
        | (go_at_call 98; refine (KN.out _).mono ?_; rintro e w3 ⟨rfl, hb3⟩; have hk3 := HK2.out.below hb3 HK2.out.lt; obtain ⟨_, y1, _⟩ := hk3.three; clear hk3; have HC3 := Lib.hid (HC2.out.below hb3); have HO3 := Lib.hid (HO2.out.trans (Only.of_below hb3)); clear hb3)
        | (go_at_call 97; refine (rcur_fail c' er c'.last F g _ HC3.out HE.out).mono ?_; rintro e w4 ⟨rfl, hc4, ho4⟩))
      go_ret
      rw [HQ.out]
      exact ⟨rfl, hc4, HO3.out.trans ho4⟩
end Go.Proofs.YtdgejeiiiholnaaGreatDoor
