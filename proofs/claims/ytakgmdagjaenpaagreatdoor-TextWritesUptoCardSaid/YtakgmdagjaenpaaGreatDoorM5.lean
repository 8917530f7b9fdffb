/- The walk of TextWrites: the text of lines is the reference's; lines that were split, written and split again have the same fields, numbered from 1 on. Condition: the text of the lines that came in is at most 1000000000 bytes long. -/
import Derived.Test.YtakgmdagjaenpaaGreatDoorM3
import Derived.Test.YtakgmdagjaenpaaGreatDoorP33
import Derived.Test.YtakgmdagjaenpaaGreatDoorF3
import Derived.IntWalk
set_option linter.unusedSimpArgs false
set_option linter.unusedVariables false
namespace Go.Proofs.YtakgmdagjaenpaaGreatDoor
open Go.RowKit

theorem backF_len : ∀ (ls : List Lin) (n : Int), (backF ls n).length = ls.length := by
  intro ls
  induction ls with
  | nil => intro n; rfl
  | cons x ls ih => intro n; rw [backF, List.length_cons, ih, List.length_cons]
theorem backF_at {ls : List Lin} {k : Nat} (h : k < ls.length) (h' : k < (backF ls 1).length) : (backF ls 1)[k] = ⟨(k : Int) + 1, placeF ls[k].fields 0⟩ := by
  have := backF_get ls 1 k
  rw [List.getElem?_eq_getElem h, List.getElem?_eq_getElem h'] at this
  simp only [Option.map_some, Option.some.injEq] at this
  rw [this, Int.add_comm]
theorem placeF_at {fs : List Fld} {j : Nat} (h : j < fs.length) (h' : j < (placeF fs 0).length) : (placeF fs 0)[j].text = fs[j].text ∧ (placeF fs 0)[j].quoted = fs[j].quoted := by
  have := placeF_get fs 0 j
  rw [List.getElem?_eq_getElem h, List.getElem?_eq_getElem h'] at this
  simp only [Option.map_some, Option.some.injEq, Prod.mk.injEq] at this
  exact this
set_option maxRecDepth 100000 in
set_option maxHeartbeats 4000000 in
theorem law_Writes (s : ByteArray) (lv : Value) (ls : List Lin) (w : World) (hg : GlobN w) (hs : s.size ≤ maxLen) (hl : Sl 2 elLin w (· < w.heap.size) lv ls) (hsz : ls.length ≤ 50 → (writeS ls).length ≤ 1000000000) :
    Calls Tryz.prog 5 #[.string s, lv] w fun e w' => e = .returned (.bool true) ∧ Below w.heap.size w w' := by
  unfold maxLen at hs
  have HAW := Lib.hid (law03_awake w hg)
  obtain ⟨Al, cl, rfl, hcl, hcl2⟩ := hl.shape
  by_cases h5 : (1000 : Int) < (s.size : Int)
  · clear hg hl hsz
    go_enter Tryz.func5, Tryz.ntmps5
    go_wp2_with (go_at_call 13; refine HAW.out.mono ?_; rintro e w1 ⟨rfl, hb1⟩; have HB1 := Lib.hid hb1; clear hb1)
    go_ret
    exact ⟨rfl, HB1.out⟩
  · by_cases h6 : (50 : Int) < (ls.length : Int)
    · clear hg hl hsz
      go_enter Tryz.func5, Tryz.ntmps5
      go_wp2_with (go_at_call 13; refine HAW.out.mono ?_; rintro e w1 ⟨rfl, hb1⟩; have HB1 := Lib.hid hb1; clear hb1)
      go_ret
      exact ⟨rfl, HB1.out⟩
    · have h5' : (s.size : Int) ≤ 1000 := by omega
      have h6' : (ls.length : Int) ≤ 50 := by omega
      have hwl := hsz (by omega)
      obtain ⟨q, hq⟩ : ∃ q, q = splitS s.data.toList := ⟨_, rfl⟩
      have hsl : s.data.toList.length = s.size := by simp
      have hag := split_again (s := s.data.toList) (by omega)
      have hwr := splitS_write s.data.toList
      rw [← hq] at hag hwr
      obtain ⟨u, hu⟩ : ∃ u, u = writeS q.1 := ⟨_, rfl⟩
      obtain ⟨x, hx⟩ : ∃ x, x = writeS ls := ⟨_, rfl⟩
      rw [← hu] at hag hwr
      have k0 : ∀ W, Below w.heap.size w W → Calls Tryz.prog 18 #[.slice Al ls.length cl] W fun e W' => e = .returned (.string (S x)) ∧ Below w.heap.size w W' := fun W hW => by
        refine (text_Write _ ls W (hg.below hW).glob (hl.keep elLin_good (Same.of_below hW) fun b h => Nat.lt_of_lt_of_le h hW.size) hwl).mono ?_
        rintro e W' ⟨rfl, hb⟩
        exact ⟨by rw [hx], hW.trans (hb.mono hW.size)⟩
      have k1 : ∀ W, Below w.heap.size w W → Calls Tryz.prog 19 #[.slice Al ls.length cl] W fun e W' => e = .returned (.string (S x)) ∧ Below w.heap.size w W' := fun W hW => by
        refine (ref_Write _ ls W (hl.keep elLin_good (Same.of_below hW) fun b h => Nat.lt_of_lt_of_le h hW.size) hwl).mono ?_
        rintro e W' ⟨rfl, hb⟩
        exact ⟨by rw [hx], hW.trans (hb.mono hW.size)⟩
      have k2 : ∀ W, Below w.heap.size w W → Calls Tryz.prog 14 #[.string s] W fun e W' => ∃ A c d, e = .returned (.tuple #[.slice A q.1.length c, d]) ∧ LD w W' q (.slice A q.1.length c) d ∧ q.1.length ≤ c ∧ c ≤ 9223372036854775807 := fun W hW => by
        refine (text_Split s W (hg.below hW).glob (by omega)).mono ?_
        intro e W' h
        rw [← hq] at h
        obtain ⟨v, d, rfl, h1, _⟩ := LD.of hW h
        obtain ⟨A, c, rfl, hc, hc2⟩ := h1.ln.shape
        exact ⟨A, c, d, rfl, h1, hc, hc2⟩
      have k3 : ∀ W A c d, LD w W q (.slice A q.1.length c) d → Calls Tryz.prog 18 #[.slice A q.1.length c] W fun e W' => e = .returned (.string (S u)) ∧ LD w W' q (.slice A q.1.length c) d := fun W A c d hW => by
        refine (text_Write _ q.1 W (hg.below hW.bel).glob hW.ln (by rw [← hu]; omega)).mono ?_
        rintro e W' ⟨rfl, hb⟩
        exact ⟨by rw [hu], hW.below hb⟩
      have k4 : ∀ W A c d, LD w W q (.slice A q.1.length c) d → Calls Tryz.prog 14 #[.string (S u)] W fun e W' => ∃ A' c' D' d', e = .returned (.tuple #[.slice A' q.1.length c', .slice D' 0 d']) ∧ LD w W' q (.slice A q.1.length c) d ∧ LD w W' (backF q.1 1, []) (.slice A' q.1.length c') (.slice D' 0 d') ∧ q.1.length ≤ c' ∧ c' ≤ 9223372036854775807 := fun W A c d hW => by
        refine (text_Split (S u) W (hg.below hW.bel).glob (by rw [S_size]; omega)).mono ?_
        intro e W' h
        rw [S_data, hag] at h
        obtain ⟨v, dv, rfl, h1, h2⟩ := LD.of hW.bel h
        obtain ⟨A', c', rfl, hc, hc2⟩ := h1.ln.shape
        obtain ⟨D', d', rfl, _⟩ := h1.di.shape
        simp only [backF_len] at h1 hc ⊢
        exact ⟨A', c', D', d', rfl, hW.below h2, h1, hc, hc2⟩
      have hql : q.1.length ≤ 262145 := by rw [hq]; exact (splitS_ok s.data.toList).2.1
      have K0 := Lib.hid k0
      have K1 := Lib.hid k1
      have K2 := Lib.hid k2
      have K3 := Lib.hid k3
      have K4 := Lib.hid k4
      clear k0 k1 k2 k3 k4 hag hwr hu hx hq hsl hwl hg hl hsz
      go_enter Tryz.func5, Tryz.ntmps5
      go_wp2_with (first
        | (go_at_call 13; refine HAW.out.mono ?_; rintro e w1 ⟨rfl, hb1⟩; have HB1 := Lib.hid hb1; clear hb1)
        | (go_at_call 18; ((with_reducible refine (K0.out _ HB1.out).mono ?_); rintro e w2 ⟨rfl, hb2⟩; have HB2 := Lib.hid hb2; clear hb2 HB1))
        | (go_at_call 19; refine (K1.out _ HB2.out).mono ?_; rintro e w3 ⟨rfl, hb3⟩; have HB3 := Lib.hid hb3; clear hb3)
        | (go_at_call 14; ((with_reducible refine (K2.out _ HB3.out).mono ?_); rintro e w4 ⟨A, c, d, rfl, h4, hc, hc2⟩; have H4 := Lib.hid h4; clear h4 HB3))
        | (go_at_call 18; ((with_reducible refine (K3.out _ _ _ _ H4.out).mono ?_); rintro e w5 ⟨rfl, h5⟩; have H5 := Lib.hid h5; clear h5))
        | (go_at_call 14; refine (K4.out _ _ _ _ H5.out).mono ?_; rintro e w6 ⟨A', c', D', d', rfl, h6, h6', hc', hc2'⟩; have H6 := Lib.hid h6; have H6' := Lib.hid h6'; clear h6 h6'))
      go_loopw [51] (fun i wr => ∃ k : Nat, k ≤ q.1.length ∧ i = .int .i64 k ∧ LD w wr q (.slice A q.1.length c) d ∧ LD w wr (backF q.1 1, []) (.slice A' q.1.length c') (.slice D' 0 d')) (fun i _ => q.1.length - (intOf i).toNat)
      case atStart => exact ⟨0, Nat.zero_le _, rfl, H6.out, H6'.out⟩
      case round =>
        obtain ⟨k, hk, rfl, hr, hr'⟩ := hrel
        have HR := Lib.hid hr
        have HR' := Lib.hid hr'
        by_cases hlt : k < q.1.length
        · have hlt' : k < (backF q.1 1).length := by rw [backF_len]; exact hlt
          obtain ⟨b, o, A2, c2, rfl, hbF, y0, y1, hs2, hs3, hs4⟩ := lin_at hr.ln hlt
          obtain ⟨b', o', A2', c2', rfl, hbF', z0, z1, ht2, ht3, ht4⟩ := lin_at hr'.ln hlt'
          rw [backF_at hlt hlt'] at z0 z1 ht2 ht3
          obtain ⟨⟨xn, fs⟩, hx⟩ : ∃ x, x = q.1[k] := ⟨_, rfl⟩
          rw [← hx] at y0 y1 z0 z1 hs2 hs3 ht2 ht3
          dsimp only at y0 y1 z0 z1 hs2 hs3 ht2 ht3
          rw [placeF_len] at z1 ht2 ht3
          have HS := Lib.hid hs2
          have HT := Lib.hid ht2
          have s1 : IntKind.i64.wrap ((k : Int) + 1) = (k : Int) + 1 := IntWalk.i64_in _ (by omega)
          clear hs2 ht2 hx hr hr' hlt'
          go_wp2
          go_quiet (fail)
          go_wp2
          have hz0 : (w.heap.size : Nat) = w.heap.size := rfl
          obtain ⟨wo, hwo⟩ : ∃ wo : World, wo = wr.drewN nq := ⟨_, rfl⟩
          have Y1 := Lib.hid (show wo.cell? ⟨b, o + k * 2 + 1, none⟩ = some (.slice A2 fs.length c2) by rw [hwo]; exact y1)
          have Z1 := Lib.hid (show wo.cell? ⟨b', o' + k * 2 + 1, none⟩ = some (.slice A2' fs.length c2') by rw [hwo]; exact z1)
          have HSO := Lib.hid (show Sl 3 elFld wo (· < wo.heap.size) (.slice A2 fs.length c2) fs by rw [hwo]; exact HS.out.keep elFld_good (fun _ _ => rfl) fun _ h => h)
          have HTO := Lib.hid (show Sl 3 elFld wo (· < wo.heap.size) (.slice A2' fs.length c2') (placeF fs 0) by rw [hwo]; exact HT.out.keep elFld_good (fun _ _ => rfl) fun _ h => h)
          have HRO := Lib.hid (show LD w wo q (.slice (some ⟨b, o, none⟩) q.1.length c) d by rw [hwo]; exact HR.out.drewN _)
          have HRO' := Lib.hid (show LD w wo (backF q.1 1, []) (.slice (some ⟨b', o', none⟩) q.1.length c') (.slice D' 0 d') by rw [hwo]; exact HR'.out.drewN _)
          have HBO := Lib.hid (Below.refl wo.heap.size wo)
          rw [← hwo]
          clear hwo y0 y1 z0 z1 s1 hbF hbF'
          go_loopw [83] (fun i wr => ∃ j : Nat, j ≤ fs.length ∧ i = .int .i64 j ∧ Below wo.heap.size wo wr) (fun i _ => fs.length - (intOf i).toNat)
          case atStart => exact ⟨0, Nat.zero_le _, rfl, HBO.out⟩
          case round =>
            obtain ⟨j, hj, rfl, hbw⟩ := hrel
            have HBW := Lib.hid hbw
            by_cases hjl : j < fs.length
            · have hjl' : j < (placeF fs 0).length := by rw [placeF_len]; exact hjl
              obtain ⟨fb, fo, rfl, hfb, u0, u1, u2⟩ := fld_at HSO.out hjl
              obtain ⟨gb, go, rfl, hgb, v0, v1, v2⟩ := fld_at HTO.out hjl'
              obtain ⟨p1, p2⟩ := placeF_at hjl hjl'
              rw [p1] at v0
              rw [p2] at v2
              obtain ⟨⟨ft, fc, fq⟩, hf⟩ : ∃ f, f = fs[j] := ⟨_, rfl⟩
              rw [← hf] at u0 u1 u2 v0 v2
              obtain ⟨gc, hgc⟩ : ∃ gc, gc = (placeF fs 0)[j].col := ⟨_, rfl⟩
              rw [← hgc] at v1
              dsimp only at u0 u1 u2 v0 v1 v2
              have y0 := cell_below hbw u0
              have y1 := cell_below hbw u1
              have y2 := cell_below hbw u2
              have z0 := cell_below hbw v0
              have z1 := cell_below hbw v1
              have z2 := cell_below hbw v2
              have zz := cell_below hbw Z1.out
              have hgb' : gb < wr.heap.size := Nat.lt_of_lt_of_le hgb hbw.size
              have hbb' : b' < wr.heap.size := World.block_lt_of_cell? _ _ zz
              clear hf hgc p1 p2 u0 u1 u2 v0 v1 v2 hbw hjl'
              go_wp2
              go_roundw
              case rel => exact ⟨j + 1, by omega, by go_num, Below.alloc (Below.alloc HBW.out HBW.out.size _) (by have := HBW.out.size; simp; omega) _⟩
              case measure => simp [intOf]; omega
            · obtain rfl : j = fs.length := by omega
              clear hbw
              go_wp2
              go_roundw
              case rel => exact ⟨k + 1, by omega, by go_num, HRO.out.below HBW.out, HRO'.out.below HBW.out⟩
              case measure => simp [intOf]; omega
        · obtain rfl : k = q.1.length := by omega
          clear hr hr'
          go_wp2
          go_ret
          exact ⟨rfl, HR.out.bel⟩
end Go.Proofs.YtakgmdagjaenpaaGreatDoor
