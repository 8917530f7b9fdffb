/- The contracts of the reference's most and dot (chapter 43). -/
import Derived.Test.YtfnfbojaiikigaaGreatDoorJ6
import Derived.BigQuiet
set_option linter.unusedSimpArgs false
set_option linter.unusedVariables false
namespace Go.Proofs.YtfnfbojaiikigaaGreatDoor
open Go.RowKit

theorem mostK_step {d : List Otc} {k : Nat} (hk : k < d.length) : mostK d (k + 1) = if d[k].wick = false ∧ 0 < d[k].runs ∧ 0 < d[k].wt ∧ (mostK d k < 0 ∨ ((d[(mostK d k).toNat]?).map (·.runs)).getD 0 < d[k].runs) then (k : Int) else mostK d k := by
  rw [mostK, List.getElem?_eq_getElem hk]
theorem dotF_step (t : Bool) {d : List Otc} {k : Nat} (hk : k < d.length) : dotF t (d.drop k) k = if d[k].runs = 0 ∧ d[k].wick = t ∧ 0 < d[k].wt then (k : Int) else dotF t (d.drop (k + 1)) (k + 1) := by
  rw [List.drop_eq_getElem_cons hk, dotF]
set_option maxRecDepth 100000 in
set_option maxHeartbeats 4000000 in
theorem r_dot (d : List Otc) (v : Value) (t : Bool) (F : Nat → Prop) (w : World) (h : Sl 3 elOtc w F v d) (hF : ∀ b, F b → b < w.heap.size) : Calls Tryz.prog 194 #[v, .bool t] w fun e w' => e = .returned (.int .i64 (dotS d t)) ∧ Below w.heap.size w w' := by
  obtain ⟨z, hz⟩ : ∃ z, z = dotS d t := ⟨_, rfl⟩
  rw [← hz]
  obtain ⟨A, c, rfl, hc, hc2⟩ := h.shape
  have H := Lib.hid h
  have HF := Lib.hid hF
  have HZ := Lib.hid (show dotF t (d.drop 0) 0 = z from by rw [hz, List.drop_zero]; rfl)
  clear h hF hz
  go_enter Tryz.func194, Tryz.ntmps194
  go_wp2
  go_loopw [9] (fun i wr => ∃ k : Nat, k ≤ d.length ∧ i = .int .i64 k ∧ Hid (Below w.heap.size w wr) ∧ Hid (dotF t (d.drop k) k = z)) (fun i _ => d.length - (intOf i).toNat)
  case atStart => exact ⟨0, Nat.zero_le _, rfl, Lib.hid (Below.refl _ _), HZ⟩
  case round =>
    obtain ⟨k, hk, rfl, HB, hz⟩ := hrel
    by_cases hlt : k < d.length
    · obtain ⟨b, o, rfl, hbl, y0', y1', y2'⟩ := otc_at H.out hlt
      have hst := dotF_step t hlt
      rw [hz.out] at hst
      obtain ⟨⟨pr, pw, pt⟩, hp⟩ : ∃ p, p = d[k] := ⟨_, rfl⟩
      rw [← hp] at y0' y1' y2' hst
      have y0 := (HB.out.cell (p := ⟨b, o + k * 3, none⟩) (HF.out _ hbl)).trans y0'
      have y1 := (HB.out.cell (p := ⟨b, o + k * 3 + 1, none⟩) (HF.out _ hbl)).trans y1'
      have y2 := (HB.out.cell (p := ⟨b, o + k * 3 + 2, none⟩) (HF.out _ hbl)).trans y2'
      dsimp only at y0 y1 y2 hst
      clear y0' y1' y2' hp hz HZ
      rcases boorJ (pr == 0) with e1 | e1
      · have h1 : pr = 0 := by simpa using e1
        rcases boorJ (pw == t) with e2 | e2
        · have h2 : pw = t := by simpa using e2
          rcases boorJ (decide (0 < pt)) with e3 | e3
          · have h3 : 0 < pt := of_decide_eq_true e3
            have HST := Lib.hid (show z = (k : Int) from by rw [hst, if_pos ⟨h1, h2, h3⟩])
            clear hst h1 h2 h3
            go_wp2
            go_ret
            exact ⟨by rw [HST.out]; rfl, Below.alloc HB.out HB.out.size _⟩
          · have h3 : ¬ 0 < pt := of_decide_eq_false e3
            have HST := Lib.hid (show dotF t (d.drop (k + 1)) (k + 1) = z from by rw [hst, if_neg (by exact fun h => h3 h.2.2)])
            clear hst h1 h2 h3
            go_wp2
            go_roundw
            case rel => exact ⟨k + 1, by omega, by go_num, Lib.hid (Below.alloc HB.out HB.out.size _), HST⟩
            case measure => simp [intOf]; omega
        · have h2 : ¬ pw = t := by simpa using e2
          have HST := Lib.hid (show dotF t (d.drop (k + 1)) (k + 1) = z from by rw [hst, if_neg (by exact fun h => h2 h.2.1)])
          clear hst h1 h2
          go_wp2
          go_roundw
          case rel => exact ⟨k + 1, by omega, by go_num, Lib.hid (Below.alloc HB.out HB.out.size _), HST⟩
          case measure => simp [intOf]; omega
      · have h1 : ¬ pr = 0 := by simpa using e1
        have HST := Lib.hid (show dotF t (d.drop (k + 1)) (k + 1) = z from by rw [hst, if_neg (by exact fun h => h1 h.1)])
        clear hst h1
        go_wp2
        go_roundw
        case rel => exact ⟨k + 1, by omega, by go_num, Lib.hid (Below.alloc HB.out HB.out.size _), HST⟩
        case measure => simp [intOf]; omega
    · obtain rfl : k = d.length := by omega
      have hs := hz.out
      rw [List.drop_of_length_le (Nat.le_refl _)] at hs
      have HST := Lib.hid (show z = -1 from hs.symm)
      clear hs hz hlt HZ
      go_wp2
      go_ret
      exact ⟨by rw [HST.out]; rfl, HB.out⟩
set_option maxRecDepth 100000 in
set_option maxHeartbeats 4000000 in
theorem r_most (d : List Otc) (v : Value) (F : Nat → Prop) (w : World) (h : Sl 3 elOtc w F v d) (hF : ∀ b, F b → b < w.heap.size) : Calls Tryz.prog 192 #[v] w fun e w' => e = .returned (.int .i64 (mostS d)) ∧ Below w.heap.size w w' := by
  obtain ⟨z, hz⟩ : ∃ z, z = mostS d := ⟨_, rfl⟩
  rw [← hz]
  obtain ⟨A, c, rfl, hc, hc2⟩ := h.shape
  have H := Lib.hid h
  have HF := Lib.hid hF
  have HZ := Lib.hid (show z = mostK d d.length from hz)
  clear h hF hz
  go_enter Tryz.func192, Tryz.ntmps192
  go_wp2
  go_loopw [8, 3] (fun i mv wr => ∃ (k : Nat) (m : Int), k ≤ d.length ∧ i = .int .i64 k ∧ mv = .int .i64 m ∧ Hid (Below w.heap.size w wr) ∧ Hid (m = mostK d k)) (fun i _ _ => d.length - (intOf i).toNat)
  case atStart => exact ⟨0, -1, Nat.zero_le _, rfl, rfl, Lib.hid (Below.refl _ _), Lib.hid rfl⟩
  case round =>
    obtain ⟨k, m, hk, rfl, rfl, HB, hm⟩ := hrel
    by_cases hlt : k < d.length
    · obtain ⟨b, o, rfl, hbl, y0', y1', y2'⟩ := otc_at H.out hlt
      have hst := mostK_step hlt
      obtain ⟨⟨pr, pw, pt⟩, hp⟩ : ∃ p, p = d[k] := ⟨_, rfl⟩
      rw [← hp] at y0' y1' y2' hst
      have y0 := (HB.out.cell (p := ⟨b, o + k * 3, none⟩) (HF.out _ hbl)).trans y0'
      have y1 := (HB.out.cell (p := ⟨b, o + k * 3 + 1, none⟩) (HF.out _ hbl)).trans y1'
      have y2 := (HB.out.cell (p := ⟨b, o + k * 3 + 2, none⟩) (HF.out _ hbl)).trans y2'
      dsimp only at y0 y1 y2 hst
      clear y0' y1' y2' hp
      rcases mostK_at d k (by omega) with ⟨h1, _⟩ | ⟨i, hi, hik, h1, _, _⟩
      · obtain rfl : m = -1 := by rw [hm.out, h1]
        rw [h1] at hst
        clear hm h1
        rcases boorJ pw with rfl | rfl
        ·
          have HST := Lib.hid (show (-1 : Int) = mostK d (k + 1) from by rw [hst, if_neg (by rintro ⟨h, _⟩; cases h)])
          clear hst 
          go_wp2_with fail
          go_quiet (fail)
          go_wp2_with fail
          go_roundw
          case rel => exact ⟨k + 1, _, by omega, by go_num, rfl, Lib.hid (Below.drewN_ (Below.alloc HB.out HB.out.size _) _), HST⟩
          case measure => simp [intOf]; omega
        · rcases boorJ (decide (0 < pr)) with e2 | e2
          · have h2 : 0 < pr := of_decide_eq_true e2
            rcases boorJ (decide (0 < pt)) with e3 | e3
            · have h3 : 0 < pt := of_decide_eq_true e3
              have HST := Lib.hid (show (k : Int) = mostK d (k + 1) from by rw [hst, if_pos ⟨rfl, h2, h3, .inl (by omega)⟩])
              clear hst h2 h3
              go_wp2_with fail
              go_quiet (fail)
              go_wp2_with fail
              go_roundw
              case rel => exact ⟨k + 1, _, by omega, by go_num, rfl, Lib.hid (Below.drewN_ (Below.alloc HB.out HB.out.size _) _), HST⟩
              case measure => simp [intOf]; omega
            · have h3 : ¬ 0 < pt := of_decide_eq_false e3
              have HST := Lib.hid (show (-1 : Int) = mostK d (k + 1) from by rw [hst, if_neg (fun h => h3 h.2.2.1)])
              clear hst h2 h3
              go_wp2_with fail
              go_quiet (fail)
              go_wp2_with fail
              go_roundw
              case rel => exact ⟨k + 1, _, by omega, by go_num, rfl, Lib.hid (Below.drewN_ (Below.alloc HB.out HB.out.size _) _), HST⟩
              case measure => simp [intOf]; omega
          · have h2 : ¬ 0 < pr := of_decide_eq_false e2
            have HST := Lib.hid (show (-1 : Int) = mostK d (k + 1) from by rw [hst, if_neg (fun h => h2 h.2.1)])
            clear hst h2
            go_wp2_with fail
            go_quiet (fail)
            go_wp2_with fail
            go_roundw
            case rel => exact ⟨k + 1, _, by omega, by go_num, rfl, Lib.hid (Below.drewN_ (Below.alloc HB.out HB.out.size _) _), HST⟩
            case measure => simp [intOf]; omega
      · obtain rfl : m = (i : Int) := by rw [hm.out, h1]
        rw [h1, Int.toNat_natCast, List.getElem?_eq_getElem hi] at hst
        obtain ⟨b9, o9, hb9, _, z0', _, _⟩ := otc_at H.out hi
        simp only [Option.some.injEq, Addr.mk.injEq, and_true] at hb9
        obtain ⟨rfl, rfl⟩ := hb9
        obtain ⟨⟨qr, qw, qt⟩, hq⟩ : ∃ q, q = d[i] := ⟨_, rfl⟩
        rw [← hq] at z0' hst
        dsimp only [Option.map_some, Option.getD_some] at z0' hst
        have HZ0 := Lib.hid z0'
        have ei : (i : Int) < (d.length : Int) := by omega
        have e0 : decide ((i : Int) < 0) = false := decide_eq_false (by omega)
        clear hm h1 z0' hq
        rcases boorJ pw with rfl | rfl
        ·
          have HST := Lib.hid (show ((i : Int) : Int) = mostK d (k + 1) from by rw [hst, if_neg (by rintro ⟨h, _⟩; cases h)])
          clear hst 
          go_wp2_with fail
          go_quiet (fail)
          go_wp2_with fail
          go_roundw
          case rel => exact ⟨k + 1, _, by omega, by go_num, rfl, Lib.hid (Below.drewN_ (Below.alloc HB.out HB.out.size _) _), HST⟩
          case measure => simp [intOf]; omega
        · rcases boorJ (decide (0 < pr)) with e2 | e2
          · have h2 : 0 < pr := of_decide_eq_true e2
            rcases boorJ (decide (0 < pt)) with e3 | e3
            · have h3 : 0 < pt := of_decide_eq_true e3
              rcases boorJ (decide (qr < pr)) with e4 | e4
              · have h4 : qr < pr := of_decide_eq_true e4
                have HST := Lib.hid (show (k : Int) = mostK d (k + 1) from by rw [hst, if_pos ⟨rfl, h2, h3, .inr h4⟩])
                clear hst h2 h3 h4
                go_wp2_with fail
                have z0 := ((Below.alloc HB.out HB.out.size (.cells #[.int .i64 pr, .bool false, .int .i64 pt] 46)).cell (p := ⟨b, o + i * 3, none⟩) (HF.out _ hbl)).trans HZ0.out
                go_quiet (fail)
                go_wp2_with fail
                go_roundw
                case rel => exact ⟨k + 1, _, by omega, by go_num, rfl, Lib.hid (Below.drewN_ (Below.alloc HB.out HB.out.size _) _), HST⟩
                case measure => simp [intOf]; omega
              · have h4 : ¬ qr < pr := of_decide_eq_false e4
                have HST := Lib.hid (show ((i : Int) : Int) = mostK d (k + 1) from by rw [hst, if_neg (fun h => h.2.2.2.elim (fun h => by omega) h4)])
                clear hst h2 h3 h4
                go_wp2_with fail
                have z0 := ((Below.alloc HB.out HB.out.size (.cells #[.int .i64 pr, .bool false, .int .i64 pt] 46)).cell (p := ⟨b, o + i * 3, none⟩) (HF.out _ hbl)).trans HZ0.out
                go_quiet (fail)
                go_wp2_with fail
                go_roundw
                case rel => exact ⟨k + 1, _, by omega, by go_num, rfl, Lib.hid (Below.drewN_ (Below.alloc HB.out HB.out.size _) _), HST⟩
                case measure => simp [intOf]; omega
            · have h3 : ¬ 0 < pt := of_decide_eq_false e3
              have HST := Lib.hid (show ((i : Int) : Int) = mostK d (k + 1) from by rw [hst, if_neg (fun h => h3 h.2.2.1)])
              clear hst h2 h3
              go_wp2_with fail
              go_quiet (fail)
              go_wp2_with fail
              go_roundw
              case rel => exact ⟨k + 1, _, by omega, by go_num, rfl, Lib.hid (Below.drewN_ (Below.alloc HB.out HB.out.size _) _), HST⟩
              case measure => simp [intOf]; omega
          · have h2 : ¬ 0 < pr := of_decide_eq_false e2
            have HST := Lib.hid (show ((i : Int) : Int) = mostK d (k + 1) from by rw [hst, if_neg (fun h => h2 h.2.1)])
            clear hst h2
            go_wp2_with fail
            go_quiet (fail)
            go_wp2_with fail
            go_roundw
            case rel => exact ⟨k + 1, _, by omega, by go_num, rfl, Lib.hid (Below.drewN_ (Below.alloc HB.out HB.out.size _) _), HST⟩
            case measure => simp [intOf]; omega
    · obtain rfl : k = d.length := by omega
      have HST := Lib.hid (show z = m from by rw [HZ.out, hm.out])
      clear hm hlt HZ
      go_wp2
      go_ret
      exact ⟨by rw [HST.out]; rfl, HB.out⟩
end Go.Proofs.YtfnfbojaiikigaaGreatDoor
