/- The reference's cursor: OneOf, Keyword. -/
import Derived.Test.YtnacklbaphobbaaGreatDoorF10
set_option linter.unusedSimpArgs false
set_option linter.unusedVariables false
namespace Go.Proofs.YtnacklbaphobbaaGreatDoor
open Go.RowKit

set_option maxRecDepth 100000 in
set_option maxHeartbeats 2000000 in
theorem rcur_OneOf (c : Cur) (v : Value) (l : List (List UInt8)) (G F : Nat → Prop) (g : Nat) (w : World) (h : RCurAt w F g c) (hl : Sl 1 elStr w G v l) (hG : ∀ b, G b → b < w.heap.size ∧ b ≠ g) :
    Calls Tryz.prog 81 #[.pointer (some ⟨g, 0, none⟩), v] w (RIntCur w F g (c.oneOf l)) := by
  obtain ⟨q, hq⟩ : ∃ q, q = c.oneOf l := ⟨_, rfl⟩
  rw [← hq]
  unfold Cur.oneOf at hq
  obtain ⟨⟨c', t, ok⟩, hr⟩ : ∃ r, r = c.read false := ⟨_, rfl⟩
  rw [← hr] at hq
  obtain ⟨A, cp, rfl, hcl1, hcl2⟩ := hl.shape
  have HQ := Lib.hid hq
  have HL := Lib.hid hl
  have HGG := Lib.hid hG
  cases ok
  · have hrd := rcur_next_none h hr
    have HRD := Lib.hid hrd
    clear hrd hr hq h hl hG
    go_enter Tryz.func81, Tryz.ntmps81
    go_wp2_with (go_at_call 102; refine HRD.out.mono ?_; rintro e w2 ⟨rfl, hc2, ho2⟩)
    go_ret
    rw [HQ.out, if_neg (by simp)]
    exact ⟨rfl, hc2.alloc _, ho2.alloc _⟩
  · have hrd := rcur_next_some h hr
    have he0 := read_err hr
    have HRD := Lib.hid hrd
    have HE := Lib.hid he0
    clear hrd hr hq h hl hG he0
    go_enter Tryz.func81, Tryz.ntmps81
    go_wp2_with (go_at_call 102; refine HRD.out.mono ?_; rintro e w2 ⟨rfl, hc2, ho2⟩; have hl2 := HL.out.keep elStr_good (ho2.same HGG.out) fun _ h => h; have hz2 := ho2.size; have HC2 := Lib.hid hc2; have HO2 := Lib.hid ho2; have HL2 := Lib.hid hl2; have HZ2 := Lib.hid hz2; clear hc2 ho2 hl2 hz2)
    go_loop [18] (fun i => ∃ k : Nat, k ≤ l.length ∧ i = .int .i64 k ∧ Hid (indexS l t = indexF t (l.drop k) k)) (fun i => l.length - (intOf i).toNat)
    case atStart => exact ⟨0, Nat.zero_le _, rfl, by unfold Hid; rfl⟩
    case round =>
      obtain ⟨k, hk, rfl, htk⟩ := hrel
      by_cases hlt : k < l.length
      · obtain ⟨b, o, rfl, hbF, hcell⟩ := HL2.out.str_at hlt
        have hbz : b < w2.heap.size := Nat.lt_of_lt_of_le (HGG.out b hbF).1 HZ2.out
        have hc1 : (w2.alloc (.cells #[.string (S t), .int .i64 c'.last, .bool false] 83)).cell? ⟨b, o + k, none⟩ = some (.string (S l[k])) := (World.cell?_alloc_lt w2 _ ⟨b, o + k, none⟩ hbz).trans hcell
        have hst := htk.out
        rw [List.drop_eq_getElem_cons hlt, indexF] at hst
        obtain ⟨p, hp⟩ : ∃ p, p = l[k] := ⟨_, rfl⟩
        rw [← hp] at hc1 hst
        clear hp hcell htk
        by_cases he : p = t
        · have e1 : (p == t) = true := by rw [he]; simp
          rw [if_pos he] at hst
          have HS := Lib.hid hst
          clear hst he
          go_wp2
          go_ret
          rw [HQ.out, if_pos trivial]
          dsimp only
          rw [HS.out, if_neg (by omega)]
          exact ⟨rfl, HC2.out.alloc _, HO2.out.alloc _⟩
        · have e1 : (p == t) = false := beq_eq_false_iff_ne.2 he
          rw [if_neg he] at hst
          have HS := Lib.hid hst
          clear hst he
          go_wp2
          go_round
          case rel => exact ⟨k + 1, by omega, by go_num, HS.out⟩
          case measure => simp [intOf]; omega
      · have hst := htk.out
        rw [List.drop_of_length_le (by omega), indexF] at hst
        have HS := Lib.hid hst
        clear hst htk
        go_wp2_with (go_at_call 103; refine (rcur_fail c' 4 c'.last F g _ (HC2.out.alloc _) HE.out).mono ?_; rintro e w4 ⟨rfl, hc4, ho4⟩)
        go_ret
        rw [HQ.out, if_pos trivial]
        dsimp only
        rw [HS.out, if_pos (by decide)]
        exact ⟨rfl, hc4, (HO2.out.alloc _).trans ho4⟩
/-- A list of one text, just laid. -/
theorem fresh_one (w : World) (s : ByteArray) : Sl 1 elStr (w.alloc (.cells #[.string s] 9)) (fun b => b = w.heap.size) (.slice (some ⟨w.heap.size, 0, none⟩) 1 1) [s.data.toList] :=
  Sl.fresh1 w _ [.string s] 9 (R := elStr) (size := 1) s.data.toList rfl rfl rfl
theorem oneOf_one (c : Cur) (kw : List UInt8) : (c.oneOf [kw]).1 = (c.keyword kw).1 ∧ ((c.oneOf [kw]).2 == 0) = (c.keyword kw).2 := by
  unfold Cur.oneOf Cur.keyword indexS indexF indexF
  obtain ⟨⟨c', t, ok⟩, hr⟩ : ∃ r, r = c.read false := ⟨_, rfl⟩
  rw [← hr]
  cases ok
  · simp
  · by_cases h : kw = t
    · subst h; simp
    · have h' : ¬ t = kw := fun e => h e.symm
      simp [h, h']
set_option maxRecDepth 100000 in
set_option maxHeartbeats 2000000 in
theorem rcur_Keyword (c : Cur) (kw : ByteArray) (F : Nat → Prop) (g : Nat) (w : World) (h : RCurAt w F g c) :
    Calls Tryz.prog 53 #[.pointer (some ⟨g, 0, none⟩), .string kw] w (RKeyPost w F g (c.keyword kw.data.toList)) := by
  have h1 := rcur_OneOf c _ [kw.data.toList] (fun b => b = w.heap.size) F g _ (h.alloc _) (fresh_one w kw) (fun b hb => ⟨by rw [hb]; simp, by have := h.lt; omega⟩)
  obtain ⟨e1, e2⟩ := oneOf_one c kw.data.toList
  obtain ⟨⟨c1, i⟩, hr⟩ : ∃ r, r = c.oneOf [kw.data.toList] := ⟨_, rfl⟩
  rw [← hr] at h1 e1 e2
  have HE1 := Lib.hid e1
  have HE2 := Lib.hid e2
  have H1 := Lib.hid h1
  clear h h1 e1 e2 hr
  go_enter Tryz.func53, Tryz.ntmps53
  go_wp2_with (go_at_call 81; refine H1.out.mono ?_; rintro e w2 ⟨rfl, hc2, ho2⟩)
  go_ret
  exact ⟨ret_b HE2.out, by rw [← HE1.out]; exact hc2, ((Only.refl g w).alloc _).trans ho2⟩
end Go.Proofs.YtnacklbaphobbaaGreatDoor
