/- The contracts of the law's sameDiags and sameLines at equal lists. No further conditions. -/
import Derived.Test.YtdgejeiiiholnaaGreatDoorT1
import Derived.Test.YtdgejeiiiholnaaGreatDoorB
import Derived.Laws.StructEq
set_option linter.unusedSimpArgs false
set_option linter.unusedVariables false
namespace Go.Proofs.YtdgejeiiiholnaaGreatDoor
open Go.RowKit

set_option maxRecDepth 100000 in
set_option maxHeartbeats 2000000 in
theorem law_sameDiags (l : List Dia) (v v' : Value) (F F' : Nat → Prop) (w : World) (h : Sl 3 elDia w F v l) (h' : Sl 3 elDia w F' v' l) :
    Calls Tryz.prog 13 #[v, v'] w fun e w' => e = .returned (.bool true) ∧ ∃ n, w' = w.drewN n := by
  obtain ⟨A, c, rfl, hc, hc2⟩ := Sl.shape h
  obtain ⟨A', c', rfl, hc', hc2'⟩ := Sl.shape h'
  have H := Lib.hid h
  have H' := Lib.hid h'
  clear h h'
  go_enter Tryz.func13, Tryz.ntmps13
  go_wp2
  go_loopw [13] (fun i wr => ∃ k : Nat, k ≤ l.length ∧ i = .int .i64 k ∧ ∃ n, wr = w.drewN n) (fun i _ => l.length - (intOf i).toNat)
  case atStart => exact ⟨0, Nat.zero_le _, rfl, 0, rfl⟩
  case round =>
    obtain ⟨k, hk, rfl, n, rfl⟩ := hrel
    by_cases hlt : k < l.length
    · obtain ⟨b, o, cs, rfl, hbl, hcl, hcell, hel⟩ := H.out.at hlt
      obtain ⟨b', o', cs', rfl, hbl', hcl', hcell', hel'⟩ := H'.out.at hlt
      obtain ⟨⟨dl, dc, dk⟩, hd⟩ : ∃ d, d = l[k] := ⟨_, rfl⟩
      rw [← hd] at hel hel'
      have e1 : cs = [.int .i64 dl, .int .i64 dc, .int .i64 dk] := hel
      have e2 : cs' = [.int .i64 dl, .int .i64 dc, .int .i64 dk] := hel'
      subst e1 e2
      have y0 := hcell 0 _ rfl
      have y1 := hcell 1 _ rfl
      have y2 := hcell 2 _ rfl
      have z0 := hcell' 0 _ rfl
      have z1 := hcell' 1 _ rfl
      have z2 := hcell' 2 _ rfl
      rw [Nat.add_zero] at y0 z0
      clear hcell hcell' hel hel' hcl hcl' hd
      go_wp2
      go_quiet (fail)
      go_wp2
      go_roundw
      case rel => exact ⟨k + 1, by omega, by go_num, _, rfl⟩
      case measure => simp [intOf]; omega
    · obtain rfl : k = l.length := by omega
      go_wp2
      go_ret
      exact ⟨rfl, _, rfl⟩
/-- A line of a list that lies. -/
theorem lin_at {w : World} {F : Nat → Prop} {A : Option Addr} {n c : Nat} {l : List Lin} (h : Sl 2 elLin w F (.slice A n c) l) {k : Nat} (hk : k < l.length) :
    ∃ b o A2 c2, A = some ⟨b, o, none⟩ ∧ F b ∧ w.cell? ⟨b, o + k * 2, none⟩ = some (.int .i64 l[k].num) ∧ w.cell? ⟨b, o + k * 2 + 1, none⟩ = some (.slice A2 l[k].fields.length c2) ∧ Sl 3 elFld w F (.slice A2 l[k].fields.length c2) l[k].fields ∧ l[k].fields.length ≤ c2 ∧ c2 ≤ 9223372036854775807 := by
  obtain ⟨b, o, cs, h1, h2, h3, h4, v, rfl, h6⟩ := h.at hk
  obtain ⟨A2, c2, rfl, hc, hc2⟩ := h6.shape
  have y0 := h4 0 _ rfl
  rw [Nat.add_zero] at y0
  exact ⟨b, o, A2, c2, h1, h2, y0, h4 1 _ rfl, h6, hc, hc2⟩
/-- A field of a list that lies. -/
theorem fld_at {w : World} {F : Nat → Prop} {A : Option Addr} {n c : Nat} {l : List Fld} (h : Sl 3 elFld w F (.slice A n c) l) {k : Nat} (hk : k < l.length) :
    ∃ b o, A = some ⟨b, o, none⟩ ∧ F b ∧ w.cell? ⟨b, o + k * 3, none⟩ = some (.string (S l[k].text)) ∧ w.cell? ⟨b, o + k * 3 + 1, none⟩ = some (.int .i64 l[k].col) ∧ w.cell? ⟨b, o + k * 3 + 2, none⟩ = some (.bool l[k].quoted) := by
  obtain ⟨b, o, cs, h1, h2, h3, h4, h5⟩ := h.at hk
  have h5' : cs = [.string (S l[k].text), .int .i64 l[k].col, .bool l[k].quoted] := h5
  subst h5'
  have y0 := h4 0 _ rfl
  rw [Nat.add_zero] at y0
  exact ⟨b, o, h1, h2, y0, h4 1 _ rfl, h4 2 _ rfl⟩
set_option maxRecDepth 100000 in
set_option maxHeartbeats 4000000 in
theorem law_sameLines (l : List Lin) (v v' : Value) (F F' : Nat → Prop) (w : World) (h : Sl 2 elLin w F v l) (h' : Sl 2 elLin w F' v' l) :
    Calls Tryz.prog 15 #[v, v'] w fun e w' => e = .returned (.bool true) ∧ ∃ n, w' = w.drewN n := by
  obtain ⟨A, c, rfl, hc, hc2⟩ := Sl.shape h
  obtain ⟨A', c', rfl, hc', hc2'⟩ := Sl.shape h'
  have H := Lib.hid h
  have H' := Lib.hid h'
  clear h h'
  go_enter Tryz.func15, Tryz.ntmps15
  go_wp2
  go_loopw [14] (fun i wr => ∃ k : Nat, k ≤ l.length ∧ i = .int .i64 k ∧ ∃ n, wr = w.drewN n) (fun i _ => l.length - (intOf i).toNat)
  case atStart => exact ⟨0, Nat.zero_le _, rfl, 0, rfl⟩
  case round =>
    obtain ⟨k, hk, rfl, n, rfl⟩ := hrel
    by_cases hlt : k < l.length
    · obtain ⟨b, o, A2, c2, rfl, _, y0, y1, hs, hs1, hs2⟩ := lin_at H.out hlt
      obtain ⟨b', o', A2', c2', rfl, _, z0, z1, hs', hs1', hs2'⟩ := lin_at H'.out hlt
      obtain ⟨⟨xn, fs⟩, hx⟩ : ∃ x, x = l[k] := ⟨_, rfl⟩
      rw [← hx] at y0 y1 z0 z1 hs hs' hs1 hs1'
      have HS := Lib.hid hs
      have HS' := Lib.hid hs'
      dsimp only at y0 y1 z0 z1 HS HS' hs1 hs1'
      clear hs hs' hx
      go_wp2
      go_quiet (fail)
      go_wp2
      obtain ⟨wo, hwo⟩ : ∃ wo : World, wo = w.drewN n := ⟨_, rfl⟩
      go_loopw [49] (fun i wr => ∃ j : Nat, j ≤ fs.length ∧ i = .int .i64 j ∧ ∃ n, wr = w.drewN n) (fun i _ => fs.length - (intOf i).toNat)
      case atStart => exact ⟨0, Nat.zero_le _, rfl, _, rfl⟩
      case round =>
        obtain ⟨j, hj, rfl, n2, rfl⟩ := hrel
        by_cases hjl : j < fs.length
        · obtain ⟨fb, fo, rfl, _, u0, u1, u2⟩ := fld_at HS.out hjl
          obtain ⟨fb', fo', rfl, _, v0, v1, v2⟩ := fld_at HS'.out hjl
          obtain ⟨⟨ft, fc, fq⟩, hf⟩ : ∃ f, f = fs[j] := ⟨_, rfl⟩
          rw [← hf] at u0 u1 u2 v0 v1 v2
          dsimp only at u0 u1 u2 v0 v1 v2
          clear hf hwo
          go_wp2
          go_quiet (fail)
          go_wp2
          go_roundw
          case rel => exact ⟨j + 1, by omega, by go_num, _, rfl⟩
          case measure => simp [intOf]; omega
        · obtain rfl : j = fs.length := by omega
          clear hwo
          go_wp2
          go_roundw
          case rel => exact ⟨k + 1, by omega, by go_num, _, rfl⟩
          case measure => simp [intOf]; omega
    · obtain rfl : k = l.length := by omega
      go_wp2
      go_ret
      exact ⟨rfl, _, rfl⟩
end Go.Proofs.YtdgejeiiiholnaaGreatDoor
