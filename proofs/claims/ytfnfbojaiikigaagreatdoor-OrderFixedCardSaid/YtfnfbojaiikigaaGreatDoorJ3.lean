/- The contract of the reference's Norm (chapter 42). No conditions but that the list can be read. -/
import Derived.Test.YtfnfbojaiikigaaGreatDoorJ2
set_option linter.unusedSimpArgs false
set_option linter.unusedVariables false
namespace Go.Proofs.YtfnfbojaiikigaaGreatDoor
open Go.RowKit

theorem boorJ (b : Bool) : b = true ∨ b = false := by cases b <;> simp
theorem canonF_snoc (f : Nat → Int) : ∀ m i, canonF f (m + 1) i = canonF f m i ++ (if 0 < f (i + m) then [otcOf (i + m) (f (i + m))] else [])
  | 0, i => by rw [canonF, canonF, canonF, List.append_nil, List.nil_append, Nat.add_zero]
  | m + 1, i => by
    have ih := canonF_snoc f m (i + 1)
    rw [canonF, ih, canonF, List.append_assoc, show i + 1 + m = i + (m + 1) from by omega]
/-- The distribution of the first n keys. -/
def canonP (f : Nat → Int) (n : Nat) : List Otc := canonF f n 0
theorem canonP_pos {f : Nat → Int} {n : Nat} (h : 0 < f n) : canonP f (n + 1) = canonP f n ++ [otcOf n (f n)] := by
  unfold canonP; rw [canonF_snoc, Nat.zero_add, if_pos h]
theorem canonP_no {f : Nat → Int} {n : Nat} (h : ¬ 0 < f n) : canonP f (n + 1) = canonP f n := by
  unfold canonP; rw [canonF_snoc, Nat.zero_add, if_neg h, List.append_nil]
theorem wAt_take {d : List Otc} {k : Nat} (h : k < d.length) (j : Nat) : wAt (d.take (k + 1)) j = wAt (d.take k) j + if keyO d[k] = j then d[k].wt else 0 := sumI_map_take (f := fun o : Otc => if keyO o = j then o.wt else 0) h
theorem key_hit {o : Otc} (h : 0 ≤ o.runs) (r j : Nat) (hj : j < 2) : (keyO o = 2 * r + j) ↔ (o.runs = (r : Int) ∧ o.wick = decide (j = 1)) := by
  unfold keyO
  constructor
  · intro hk
    cases hw : o.wick <;> rw [hw] at hk <;> simp at hk <;> refine ⟨by omega, ?_⟩
    · have : j = 0 := by omega
      subst this; rfl
    · have : j = 1 := by omega
      subst this; rfl
  · rintro ⟨h1, h2⟩
    rw [h2, h1]
    have : j = 0 ∨ j = 1 := by omega
    rcases this with rfl | rfl <;> simp
theorem otcOf_two (r j : Nat) (hj : j < 2) (x : Int) : otcOf (2 * r + j) x = ⟨(r : Int), decide (j = 1), x⟩ := by
  unfold otcOf
  have : j = 0 ∨ j = 1 := by omega
  rcases this with rfl | rfl
  · have h1 : (2 * r + 0) / 2 = r := by omega
    have h2 : (2 * r + 0) % 2 = 0 := by omega
    (try rw [h1, h2]) <;> rfl
  · have h1 : (2 * r + 1) / 2 = r := by omega
    have h2 : (2 * r + 1) % 2 = 1 := by omega
    (try rw [h1, h2]) <;> rfl
/-- While the reference gathers: the row of those that are out, and the one that is being weighed in block xb. -/
structure Rx (w W : World) (ov : Value) (out : List Otc) (bb xb : Nat) (r : Nat) (wk : Bool) (x : Int) : Prop where
  bel : Below w.heap.size w W
  own : OwnSl 3 elOtc 46 w.heap.size W ov out
  lt : ∀ b, ov.ownBlock = some b → b < xb
  xk : Blk W xb 46 #[.int .i64 (r : Int), .bool wk, .int .i64 x]
  bk : Blk W bb 4 #[.bool false, .bool true]
  hx : w.heap.size ≤ xb
  hb : bb ≠ xb
/-- The same between two weighings. -/
structure Ry (w W : World) (ov : Value) (out : List Otc) (bb : Nat) : Prop where
  bel : Below w.heap.size w W
  own : OwnSl 3 elOtc 46 w.heap.size W ov out
  bk : Blk W bb 4 #[.bool false, .bool true]
section
variable {w W W' : World} {ov : Value} {out : List Otc} {bb xb r : Nat} {wk : Bool} {x : Int}
theorem Rx.below (h : Rx w W ov out bb xb r wk x) (hb : Below W.heap.size W W') : Rx w W' ov out bb xb r wk x :=
  ⟨h.bel.trans (hb.mono h.bel.size), h.own.below elOtc_good hb, h.lt, h.xk.below hb h.xk.lt, h.bk.below hb h.bk.lt, h.hx, h.hb⟩
theorem Ry.below (h : Ry w W ov out bb) (hb : Below W.heap.size W W') : Ry w W' ov out bb :=
  ⟨h.bel.trans (hb.mono h.bel.size), h.own.below elOtc_good hb, h.bk.below hb h.bk.lt⟩
theorem Rx.put (h : Rx w W ov out bb xb r wk x) (y : Int) : Rx w (W.setCell ⟨xb, 2, none⟩ (.int .i64 y)) ov out bb xb r wk y := by
  have ho := (Only.refl xb W).setCell (p := ⟨xb, 2, none⟩) (.inl rfl) (.int .i64 y)
  refine ⟨h.bel.setCell h.hx _, h.own.grown elOtc_good ho fun b hb e => ?_, h.lt, h.xk.set_ 2 (.int .i64 y), h.bk.far h.hb _, h.hx, h.hb⟩
  have := h.lt b hb
  have := Option.some.inj e
  omega
theorem Ry.start (h : Ry w W ov out bb) (r : Nat) (wk : Bool) (x : Int) : Rx w (W.alloc (.cells #[.int .i64 (r : Int), .bool wk, .int .i64 x] 46)) ov out bb W.heap.size r wk x :=
  ⟨h.bel.alloc h.bel.size _, h.own.alloc elOtc_good _, fun b hb => (h.own.block b hb).2, Blk.new W _ _, h.bk.alloc _, h.bel.size, Nat.ne_of_lt h.bk.lt⟩
theorem Rx.y (h : Rx w W ov out bb xb r wk x) : Ry w W ov out bb := ⟨h.bel, h.own, h.bk⟩
theorem Ry.app {v' : Value} {o : Otc} (h : Ry w W ov out bb) (hbt : bb ≠ xb) (hown : OwnSl 3 elOtc 46 w.heap.size W' v' (out ++ [o])) (hg : W.grownBy W' ov.ownBlock) : Ry w W' v' (out ++ [o]) bb :=
  ⟨below_own h.bel h.own hg (Nat.le_refl _) h.bel.size, hown, h.bk.grown hg fun e => own_ne h.own h.bk (by decide) e⟩
end
set_option maxRecDepth 100000 in
set_option maxHeartbeats 4000000 in
theorem ref_Norm (d : List Otc) (v : Value) (w : World) (h : Sl 3 elOtc w (· < w.heap.size) v d) : Calls Tryz.prog 195 #[v] w (OtcPost w (normS d)) := by
  obtain ⟨z, hz⟩ : ∃ z, z = normS d := ⟨_, rfl⟩
  rw [← hz]
  obtain ⟨A, c, rfl, hc, hc2⟩ := h.shape
  by_cases h64 : 64 < d.length
  · rw [norm_long h64] at hz
    have e64 : (64 : Int) < (d.length : Int) := by omega
    have HZ := Lib.hid hz
    clear hz h h64
    go_enter Tryz.func195, Tryz.ntmps195
    go_wp2
    go_ret2
    exact otc_nil (Below.refl _ _) HZ.out
  · have e64 : (d.length : Int) ≤ 64 := by omega
    have HZ := Lib.hid hz
    have H := Lib.hid h
    have HN := Lib.hid h64
    clear hz h h64
    go_enter Tryz.func195, Tryz.ntmps195
    go_wp2
    go_loopw [4, 19] (fun sv i wr => ∃ (k : Nat) (s : Int), k ≤ d.length ∧ i = .int .i64 k ∧ sv = .int .i64 s ∧ 0 ≤ s ∧ s ≤ 16 * k ∧ Below w.heap.size w wr ∧ Hid (s = sumI ((d.take k).map (·.wt))) ∧ Hid (∀ o ∈ d.take k, badN o = false))
      (fun _ i _ => d.length - (intOf i).toNat)
    case atStart => exact ⟨0, 0, Nat.zero_le _, rfl, rfl, by omega, by omega, Below.refl _ _, Lib.hid rfl, Lib.hid (by simp)⟩
    case round =>
      obtain ⟨k, s, hk, rfl, rfl, hs0, hs1, hb, hss, hgd⟩ := hrel
      have HB := Lib.hid hb
      by_cases hlt : k < d.length
      · obtain ⟨b, o, rfl, hbl, y0', y1', y2'⟩ := otc_at H.out hlt
        have hst := sumI_map_take (f := fun o : Otc => o.wt) hlt
        rw [← hss.out] at hst
        have hgt := fun h1 => take_good hlt hgd.out h1
        have hbt := fun h1 => norm_bad HN.out (List.getElem_mem hlt) h1
        obtain ⟨⟨pr, pw, pt⟩, hp⟩ : ∃ p, p = d[k] := ⟨_, rfl⟩
        rw [← hp] at y0' y1' y2' hst hgt hbt
        have y0 := (hb.cell (p := ⟨b, o + k * 3, none⟩) hbl).trans y0'
        have y1 := (hb.cell (p := ⟨b, o + k * 3 + 1, none⟩) hbl).trans y1'
        have y2 := (hb.cell (p := ⟨b, o + k * 3 + 2, none⟩) hbl).trans y2'
        dsimp only at y0 y1 y2 hst
        rcases badN_ways ⟨pr, pw, pt⟩ with ⟨hB, hw⟩ | ⟨hB, e1, e2, e3, e4⟩
        · have hz2 : z = ([], 2) := by rw [HZ.out, hbt hB]
          have HZZ := Lib.hid hz2
          clear hb hss hgd hp hst hgt hbt y0' y1' y2' hz2 hB
          rcases hw with e1 | ⟨e1, e2⟩ | ⟨e1, e2, e3⟩ | ⟨e1, e2, e3, e4⟩
          all_goals
            dsimp only at *
            go_wp2
            go_ret2
            exact otc_nil (Below.alloc HB.out HB.out.size _) HZZ.out
        · have hok := badN_no hB
          have hw0 := hok.w0
          have hw16 := hok.w16
          dsimp only at e1 e2 e3 e4 hw0 hw16
          have HST := Lib.hid hst.symm
          have HGT := Lib.hid (hgt hB)
          clear hb hss hgd hp hst hgt hbt y0' y1' y2' hB hok
          go_wp2
          go_roundw
          case rel => exact ⟨k + 1, _, by omega, by go_num, rfl, by omega, by push_cast; omega, Below.alloc HB.out HB.out.size _, HST, HGT⟩
          case measure => simp [intOf]; omega
      · obtain rfl : k = d.length := by omega
        have hs2 := hss.out
        have hg2 := hgd.out
        rw [List.take_of_length_le (Nat.le_refl _)] at hs2 hg2
        by_cases h16 : s = 16
        · have hz2 := HZ.out
          rw [norm_fine HN.out hg2 (by rw [← hs2]; exact h16)] at hz2
          have HZZ : Hid (z = (canonP (wAt d) 16, 0)) := Lib.hid hz2
          have HG := Lib.hid hg2
          subst h16
          clear hb hss hgd hs2 hg2 hz2 hs0 hs1 HZ
          go_wp2
          go_loopw [7, 8] (fun ov rv wx => ∃ (r : Nat), r ≤ 8 ∧ rv = .int .i64 r ∧ Below w.heap.size w wx ∧ OwnSl 3 elOtc 46 w.heap.size wx ov (canonP (wAt d) (2 * r)))
            (fun _ rv _ => 8 - (intOf rv).toNat)
          case atStart => exact ⟨0, by omega, rfl, HB.out, OwnSl.nil _⟩
          case round =>
            obtain ⟨r, hr, rfl, hbr, hor⟩ := hrel
            obtain ⟨Ao, co, rfl⟩ := own_len hor
            by_cases hr8 : r < 8
            · have hry : Ry w (wr.alloc (.cells #[.bool false, .bool true] 4)) (.slice Ao (canonP (wAt d) (2 * r)).length co) (canonP (wAt d) (2 * r)) wr.heap.size := ⟨hbr.alloc hbr.size _, hor.alloc elOtc_good _, Blk.new wr _ _⟩
              have HRY := Lib.hid hry
              have er : (r : Int) ≤ 7 := by omega
              clear hbr hor hry
              obtain ⟨w7, rfl⟩ : ∃ w7 : World, w7 = wr := ⟨_, rfl⟩
              go_wp2
              go_loopw [7, 54] (fun ov j wx => ∃ (k : Nat), k ≤ 2 ∧ j = .int .i64 k ∧ Ry w wx ov (canonP (wAt d) (2 * r + k)) w7.heap.size)
                (fun _ j _ => 2 - (intOf j).toNat)
              case atStart => exact ⟨0, by omega, rfl, HRY.out⟩
              case round =>
                clear HRY
                obtain ⟨j, hj, rfl, hry⟩ := hrel
                obtain ⟨Ao, co, rfl⟩ := own_len hry.own
                obtain ⟨out, hout⟩ : ∃ out, out = canonP (wAt d) (2 * r + j) := ⟨_, rfl⟩
                rw [← hout] at hry ⊢
                by_cases hj2 : j < 2
                · obtain ⟨wk, hwk⟩ : ∃ wk, wk = decide (j = 1) := ⟨_, rfl⟩
                  have yb : wr.cell? ⟨w7.heap.size, j, none⟩ = some (.bool wk) := by
                    rw [hry.bk.cell j, hwk]
                    have : j = 0 ∨ j = 1 := by omega
                    rcases this with rfl | rfl <;> rfl
                  have hb7 := hry.bk.lt
                  have hrx := hry.start r wk 0
                  have HRX := Lib.hid hrx
                  have hkey : ∀ (o : Otc), badN o = false → ((keyO o = 2 * r + j) ↔ (o.runs = (r : Int) ∧ o.wick = wk)) := fun o ho => by rw [hwk]; exact key_hit (badN_no ho).r0 r j hj2
                  have hot : ∀ x, otcOf (2 * r + j) x = ⟨(r : Int), wk, x⟩ := fun x => by rw [hwk]; exact otcOf_two r j hj2 x
                  have HKEY := Lib.hid hkey
                  have HOT := Lib.hid hot
                  have HOUT := Lib.hid hout
                  have HJ2 := Lib.hid hj2
                  have ej : (j : Int) < 2 := by omega
                  clear hry hrx hkey hot hout hwk hj
                  obtain ⟨w8, rfl⟩ : ∃ w8 : World, w8 = wr := ⟨_, rfl⟩
                  go_wp2
                  go_loopw [63] (fun i wx => ∃ (k : Nat) (x : Int), k ≤ d.length ∧ i = .int .i64 k ∧ 0 ≤ x ∧ x ≤ 16 * k ∧ Rx w wx (.slice Ao out.length co) out w7.heap.size w8.heap.size r wk x ∧ Hid (x = wAt (d.take k) (2 * r + j)))
                    (fun i _ => d.length - (intOf i).toNat)
                  case atStart => exact ⟨0, 0, Nat.zero_le _, rfl, by omega, by omega, HRX.out, Lib.hid rfl⟩
                  case round =>
                    obtain ⟨k, x, hk, rfl, hx0, hx1, hrx, hxx⟩ := hrel
                    have HRR := Lib.hid hrx
                    have hxl := hrx.xk.lt
                    obtain ⟨c0, c1, c2', cf0, cf1, cf2⟩ := Blk.three hrx.xk
                    by_cases hlt : k < d.length
                    · obtain ⟨b, o, rfl, hbl, y0', y1', y2'⟩ := otc_at H.out hlt
                      have hgd := HG.out _ (List.getElem_mem hlt)
                      have hst := wAt_take hlt (2 * r + j)
                      rw [← hxx.out] at hst
                      have hke := HKEY.out _ hgd
                      have hok := badN_no hgd
                      obtain ⟨⟨pr, pw, pt⟩, hp⟩ : ∃ p, p = d[k] := ⟨_, rfl⟩
                      rw [← hp] at y0' y1' y2' hst hke hok
                      have y0 := (hrx.bel.cell (p := ⟨b, o + k * 3, none⟩) hbl).trans y0'
                      have y1 := (hrx.bel.cell (p := ⟨b, o + k * 3 + 1, none⟩) hbl).trans y1'
                      have y2 := (hrx.bel.cell (p := ⟨b, o + k * 3 + 2, none⟩) hbl).trans y2'
                      have hw0 := hok.w0
                      have hw16 := hok.w16
                      dsimp only at y0 y1 y2 hw0 hw16 hst hke
                      have hal := hrx.below (Below.alloc (Below.refl _ _) (Nat.le_refl _) (.cells #[.int .i64 pr, .bool pw, .int .i64 pt] 46))
                      have HAL := Lib.hid hal
                      have hne1 : ¬ (wr.heap.size = w8.heap.size) := by omega
                      have hne2 : ¬ (w8.heap.size = wr.heap.size) := by omega
                      by_cases hit : pr = (r : Int) ∧ pw = wk
                      · rw [if_pos (hke.2 hit)] at hst
                        obtain ⟨h1, h2⟩ := hit
                        have e1 : (pr == (r : Int)) = true := by simp [h1]
                        have e2 : (pw == wk) = true := by simp [h2]
                        have HST := Lib.hid hst.symm
                        clear hrx hxx hgd hst hke hok hp y0' y1' y2' hal h1 h2
                        go_wp2
                        go_roundw
                        case rel => exact ⟨k + 1, x + pt, by omega, by go_num, by omega, by push_cast; omega, (HRR.out.put (x + pt)).below (Below.alloc (Below.refl _ _) (Nat.le_refl _) _), HST⟩
                        case measure => simp [intOf]; omega
                      · rw [if_neg (fun h => hit (hke.1 h)), Int.add_zero] at hst
                        have HST := Lib.hid hst.symm
                        rcases boorJ (pr == (r : Int)) with e1 | e1
                        · have e2 : (pw == wk) = false := by
                            rcases boorJ (pw == wk) with h | h
                            · exact absurd ⟨by simpa using e1, by simpa using h⟩ hit
                            · exact h
                          clear hrx hxx hgd hst hke hok hp y0' y1' y2' hal hit HRR
                          go_wp2
                          go_roundw
                          case rel => exact ⟨k + 1, x, by omega, by go_num, by omega, by push_cast; omega, HAL.out, HST⟩
                          case measure => simp [intOf]; omega
                        · clear hrx hxx hgd hst hke hok hp y0' y1' y2' hal hit HRR
                          go_wp2
                          go_roundw
                          case rel => exact ⟨k + 1, x, by omega, by go_num, by omega, by push_cast; omega, HAL.out, HST⟩
                          case measure => simp [intOf]; omega
                    · obtain rfl : k = d.length := by omega
                      have hx2 := hxx.out
                      rw [List.take_of_length_le (Nat.le_refl _)] at hx2
                      by_cases hxp : 0 < x
                      · have e1 : decide (0 < x) = true := decide_eq_true hxp
                        have hcp := canonP_pos (f := wAt d) (n := 2 * r + j) (by rw [← hx2]; exact hxp)
                        rw [← hx2, HOT.out, ← HOUT.out] at hcp
                        have HCP := Lib.hid hcp
                        have hln : out.length ≤ 16 := by rw [HOUT.out]; have := canonF_len (f := wAt d) (2 * r + j) 0; unfold canonP; omega
                        have HLN := Lib.hid hln
                        clear hrx hxx hx2 hcp hln hxp HKEY
                        go_wp2_with (at_builtin; refine wpList_append_sl _ rfl (.tmp 87) (.tmp 89) _ rfl E_otc elOtc_good w.heap.size _ out rfl (HRR.out.own.alloc elOtc_good _) ⟨wr.heap.size, 0, none⟩ 1 [.int .i64 (r : Int), .bool wk, .int .i64 x] rfl ⟨(r : Int), wk, x⟩ rfl (cells_new _ _ _ _) (oneCells rfl) rfl (room1 HLN.out (by omega)).1 (room1 HLN.out (by omega)).2 (base1 HRR.out.bel.size _) ?_; intro v6 w6 hown6 hg6 hat6; have h6 := (HRR.out.y.below (Below.alloc (Below.refl _ _) (Nat.le_refl _) (.cells #[.int .i64 (r : Int), .bool wk, .int .i64 x] 46))).app HRR.out.hb hown6 hg6; have H6 := Lib.hid h6; clear hown6 hg6 hat6 h6)
                        go_roundw
                        case rel => exact ⟨j + 1, HJ2.out, by go_num, by rw [← Nat.add_assoc, HCP.out]; exact H6.out⟩
                        case measure => have := HJ2.out; simp [intOf]; omega
                      · have e1 : decide (0 < x) = false := decide_eq_false hxp
                        have hcp := canonP_no (f := wAt d) (n := 2 * r + j) (by rw [← hx2]; exact hxp)
                        rw [← HOUT.out] at hcp
                        have HCP := Lib.hid hcp
                        clear hrx hxx hx2 hcp hxp HKEY
                        go_wp2
                        go_roundw
                        case rel => exact ⟨j + 1, HJ2.out, by go_num, by rw [← Nat.add_assoc, HCP.out]; exact HRR.out.y⟩
                        case measure => have := HJ2.out; simp [intOf]; omega
                · obtain rfl : j = 2 := by omega
                  clear hj2
                  have HO := Lib.hid hry.own
                  have HBE := Lib.hid hry.bel
                  have HOUT := Lib.hid hout
                  clear hry hout
                  go_wp2
                  go_roundw
                  case rel => exact ⟨r + 1, by omega, by go_num, HBE.out, by rw [show 2 * (r + 1) = 2 * r + 2 from by omega, ← HOUT.out]; exact HO.out⟩
                  case measure => simp [intOf]; omega
            · obtain rfl : r = 8 := by omega
              have HO := Lib.hid (hor.sl elOtc_good)
              have HBE := Lib.hid hbr
              clear hor hbr
              go_wp2
              go_ret2
              rw [HZZ.out]
              exact ⟨_, rfl, HO.out.keep elOtc_good (Same.refl _ _) (fun b hx => hx), HBE.out⟩
        · have hz2 := HZ.out
          rw [norm_sum HN.out hg2 (by rw [← hs2]; exact h16)] at hz2
          have e16 : (s != 16) = true := by simp [h16]
          have HZZ := Lib.hid hz2
          clear hb hss hgd hs2 hg2 hz2 h16
          go_wp2
          go_ret2
          exact otc_nil HB.out HZZ.out
end Go.Proofs.YtfnfbojaiikigaaGreatDoor
