/- The walk of ChanceSums: n balls and m balls make n + m balls; the sums of runs are as those of the parts. -/
import Derived.Test.YtoeeodemimndlaaGreatDoorH13
set_option linter.unusedSimpArgs false
set_option linter.unusedVariables false
namespace Go.Proofs.YtoeeodemimndlaaGreatDoor
open Go.RowKit

theorem powS_zero {d : List Otc} {n : Int} (h : (powS d n).2 = 0) : checkD d = 0 ∧ 0 ≤ n ∧ n ≤ 12 := by
  unfold powS at h
  by_cases h0 : checkD d = 0
  · rw [if_neg (fun k => k h0)] at h
    by_cases h1 : n < 0 ∨ 12 < n
    · rw [if_pos h1] at h; cases h
    · exact ⟨h0, by omega, by omega⟩
  · rw [if_pos h0] at h; exact absurd h h0
theorem powS_ok {d : List Otc} (h : checkD d = 0) {N : Nat} (hN : N ≤ 12) : powS d (N : Int) = (⟨(N : Int), powL (ofL d) N⟩, 0) := by
  unfold powS
  rw [if_neg (fun k => k h), if_neg (by omega), Int.toNat_natCast]
theorem convolveS_ok {n m : Nat} {a b : List Int} (ha : OkP n a) (hb : OkP m b) (h : n + m ≤ 12) : convolveS ⟨(n : Int), a⟩ ⟨(m : Int), b⟩ = (⟨(n : Int) + (m : Int), convL a b⟩, 0) := by
  unfold convolveS
  rw [if_neg (fun k => k ha.check), if_neg (fun k => k hb.check), if_neg (by simp only; omega)]; rfl
theorem sumS_ok {n : Nat} {a : List Int} (ha : OkP n a) : sumS ⟨(n : Int), a⟩ = (sxF 0 a, 0) := by
  unfold sumS
  rw [if_neg (fun k => k ha.check)]
theorem meanS_ok {d : List Otc} (h : checkD d = 0) : meanS d = (meanL d, 0) := by unfold meanS; rw [if_neg (fun k => k h)]
theorem sums_eq {n m : Nat} {a b : List Int} (ha : OkP n a) (hb : OkP m b) : sxF 0 (convL a b) = sxF 0 a * unitV m + sxF 0 b * unitV n := by
  rw [conv_sx a b ha.ne, ha.fine.sum, hb.fine.sum, Int.mul_comm (unitV n)]

set_option maxRecDepth 100000 in
set_option maxHeartbeats 4000000 in
theorem law_Sums (d : List Otc) (v : Value) (n m : Int) (w : World) (hg : GlobN w) (h : Sl 3 elOtc w (· < w.heap.size) v d) :
    Calls Tryz.prog 7 #[v, .int .i64 n, .int .i64 m] w fun e w' => e = .returned (.bool true) ∧ Below w.heap.size w w' := by
  obtain ⟨A, c, rfl, hc, hc2⟩ := h.shape
  have HAW := Lib.hid (law42_awake w hg)
  have hin : ∀ W, Below w.heap.size w W → Sl 3 elOtc W (· < W.heap.size) (.slice A d.length c) d := fun W hW => otc_below h hW
  have k1 := fun W (hW : Below w.heap.size w W) => (ch_Power d _ n W (hin W hW)).mono fun e W' h => h.out
  have k2 := fun W (hW : Below w.heap.size w W) => (ch_Power d _ m W (hin W hW)).mono fun e W' h => h.out
  clear hg
  by_cases h200 : 200 < d.length
  · have hl : (200 : Int) < (d.length : Int) := by omega
    clear k1 k2 hin h
    go_enter Tryz.func7, Tryz.ntmps7
    go_wp2_with (go_at_call 11; refine HAW.out.mono ?_; rintro e w1 ⟨rfl, hb1⟩)
    go_ret
    exact ⟨rfl, hb1⟩
  have hl : ¬ (200 : Int) < (d.length : Int) := by omega
  by_cases hz1 : (powS d n).2 = 0
  case neg =>
    clear hin h
    obtain ⟨r1, hr1⟩ : ∃ r, r = powS d n := ⟨_, rfl⟩
    obtain ⟨r2, hr2⟩ : ∃ r, r = powS d m := ⟨_, rfl⟩
    rw [← hr1] at k1 hz1
    rw [← hr2] at k2
    have K1 := Lib.hid k1
    have K2 := Lib.hid k2
    clear k1 k2 hr1 hr2
    obtain ⟨⟨b1, l1⟩, e1⟩ := r1
    obtain ⟨⟨b2, l2⟩, e2⟩ := r2
    dsimp only at K1 K2 hz1
    have g1 : (e1 != 0) = true := by rw [bne_iff_ne]; exact hz1
    clear hz1
    go_enter Tryz.func7, Tryz.ntmps7
    go_wp2_with (first
      | (go_at_call 11; refine (HAW.out).mono ?_; rintro e w1 ⟨rfl, hb1⟩; have HB1 := Lib.hid hb1; clear hb1; have tok1 : True := trivial)
      | (clear tok1; go_at_call 14; refine (K1.out _ HB1.out).mono ?_; rintro e w2 ⟨D2, k2, rfl, hs2, hb2⟩; have HXa_2 := Lib.hid (Bx.new (s := (⟨b1, l1⟩ : Spr)) hs2); have HB2 := Lib.hid ((HB1.out.trans (hb2.mono HB1.out.size)).alloc (HB1.out.trans (hb2.mono HB1.out.size)).size (.cells #[.int .i64 (⟨b1, l1⟩ : Spr).balls, .slice D2 (⟨b1, l1⟩ : Spr).ws.length k2] 26)); obtain ⟨ca0_2, ca1_2, _⟩ := HXa_2.out.blk.two; clear hs2 hb2; have tok2 : True := trivial)
      | (clear tok2; go_at_call 14; refine (K2.out _ HB2.out).mono ?_; rintro e w3 ⟨D3, k3, rfl, hs3, hb3⟩; have HXa_3 := Lib.hid ((HXa_2.out.below hb3).alloc (.cells #[.int .i64 (⟨b2, l2⟩ : Spr).balls, .slice D3 (⟨b2, l2⟩ : Spr).ws.length k3] 26)); have HXb_3 := Lib.hid (Bx.new (s := (⟨b2, l2⟩ : Spr)) hs3); have HB3 := Lib.hid ((HB2.out.trans (hb3.mono HB2.out.size)).alloc (HB2.out.trans (hb3.mono HB2.out.size)).size (.cells #[.int .i64 (⟨b2, l2⟩ : Spr).balls, .slice D3 (⟨b2, l2⟩ : Spr).ws.length k3] 26)); obtain ⟨ca0_3, ca1_3, _⟩ := HXa_3.out.blk.two; obtain ⟨cb0_3, cb1_3, _⟩ := HXb_3.out.blk.two; clear hs3 hb3; have tok3 : True := trivial))
    go_ret
    exact ⟨rfl, HB3.out⟩
  by_cases hz2 : (powS d m).2 = 0
  case neg =>
    clear hin h
    obtain ⟨r1, hr1⟩ : ∃ r, r = powS d n := ⟨_, rfl⟩
    obtain ⟨r2, hr2⟩ : ∃ r, r = powS d m := ⟨_, rfl⟩
    rw [← hr1] at k1 hz1
    rw [← hr2] at k2 hz2
    have K1 := Lib.hid k1
    have K2 := Lib.hid k2
    clear k1 k2 hr1 hr2
    obtain ⟨⟨b1, l1⟩, e1⟩ := r1
    obtain ⟨⟨b2, l2⟩, e2⟩ := r2
    dsimp only at K1 K2 hz1 hz2
    subst hz1
    have g2 : (e2 != 0) = true := by rw [bne_iff_ne]; exact hz2
    clear hz2
    go_enter Tryz.func7, Tryz.ntmps7
    go_wp2_with (first
      | (go_at_call 11; refine (HAW.out).mono ?_; rintro e w1 ⟨rfl, hb1⟩; have HB1 := Lib.hid hb1; clear hb1; have tok1 : True := trivial)
      | (clear tok1; go_at_call 14; refine (K1.out _ HB1.out).mono ?_; rintro e w2 ⟨D2, k2, rfl, hs2, hb2⟩; have HXa_2 := Lib.hid (Bx.new (s := (⟨b1, l1⟩ : Spr)) hs2); have HB2 := Lib.hid ((HB1.out.trans (hb2.mono HB1.out.size)).alloc (HB1.out.trans (hb2.mono HB1.out.size)).size (.cells #[.int .i64 (⟨b1, l1⟩ : Spr).balls, .slice D2 (⟨b1, l1⟩ : Spr).ws.length k2] 26)); obtain ⟨ca0_2, ca1_2, _⟩ := HXa_2.out.blk.two; clear hs2 hb2; have tok2 : True := trivial)
      | (clear tok2; go_at_call 14; refine (K2.out _ HB2.out).mono ?_; rintro e w3 ⟨D3, k3, rfl, hs3, hb3⟩; have HXa_3 := Lib.hid ((HXa_2.out.below hb3).alloc (.cells #[.int .i64 (⟨b2, l2⟩ : Spr).balls, .slice D3 (⟨b2, l2⟩ : Spr).ws.length k3] 26)); have HXb_3 := Lib.hid (Bx.new (s := (⟨b2, l2⟩ : Spr)) hs3); have HB3 := Lib.hid ((HB2.out.trans (hb3.mono HB2.out.size)).alloc (HB2.out.trans (hb3.mono HB2.out.size)).size (.cells #[.int .i64 (⟨b2, l2⟩ : Spr).balls, .slice D3 (⟨b2, l2⟩ : Spr).ws.length k3] 26)); obtain ⟨ca0_3, ca1_3, _⟩ := HXa_3.out.blk.two; obtain ⟨cb0_3, cb1_3, _⟩ := HXb_3.out.blk.two; clear hs3 hb3; have tok3 : True := trivial))
    go_ret
    exact ⟨rfl, HB3.out⟩
  obtain ⟨hD, hn0, hn12⟩ := powS_zero hz1
  obtain ⟨_, hm0, hm12⟩ := powS_zero hz2
  obtain ⟨N, rfl⟩ : ∃ N : Nat, n = (N : Int) := ⟨n.toNat, by omega⟩
  obtain ⟨M, rfl⟩ : ∃ M : Nat, m = (M : Int) := ⟨m.toNat, by omega⟩
  clear hz1 hz2
  have hok := checkD_ok hD
  have hone := ofL_ok hok
  have oa := powL_ok hone N (by omega)
  have ob := powL_ok hone M (by omega)
  rw [powS_ok hD (by omega)] at k1 k2
  by_cases hnm : 12 < (N : Int) + (M : Int)
  · clear hin h hok
    have K1 := Lib.hid k1
    have K2 := Lib.hid k2
    obtain ⟨l1, hl1⟩ : ∃ l, l = powL (ofL d) N := ⟨_, rfl⟩
    obtain ⟨l2, hl2⟩ : ∃ l, l = powL (ofL d) M := ⟨_, rfl⟩
    rw [← hl1] at K1
    rw [← hl2] at K2
    clear k1 k2 hl1 hl2 hD hone oa ob
    obtain ⟨b1, hb1⟩ : ∃ b : Int, b = (N : Int) := ⟨_, rfl⟩
    obtain ⟨b2, hb2⟩ : ∃ b : Int, b = (M : Int) := ⟨_, rfl⟩
    rw [← hb1] at K1 hnm hn0 hn12 ⊢
    rw [← hb2] at K2 hnm hm0 hm12 ⊢
    clear hb1 hb2
    go_enter Tryz.func7, Tryz.ntmps7
    go_wp2_with (first
      | (go_at_call 11; refine (HAW.out).mono ?_; rintro e w1 ⟨rfl, hb1⟩; have HB1 := Lib.hid hb1; clear hb1; have tok1 : True := trivial)
      | (clear tok1; go_at_call 14; refine (K1.out _ HB1.out).mono ?_; rintro e w2 ⟨D2, k2, rfl, hs2, hb2⟩; have HXa_2 := Lib.hid (Bx.new (s := (⟨b1, l1⟩ : Spr)) hs2); have HB2 := Lib.hid ((HB1.out.trans (hb2.mono HB1.out.size)).alloc (HB1.out.trans (hb2.mono HB1.out.size)).size (.cells #[.int .i64 (⟨b1, l1⟩ : Spr).balls, .slice D2 (⟨b1, l1⟩ : Spr).ws.length k2] 26)); obtain ⟨ca0_2, ca1_2, _⟩ := HXa_2.out.blk.two; clear hs2 hb2; have tok2 : True := trivial)
      | (clear tok2; go_at_call 14; refine (K2.out _ HB2.out).mono ?_; rintro e w3 ⟨D3, k3, rfl, hs3, hb3⟩; have HXa_3 := Lib.hid ((HXa_2.out.below hb3).alloc (.cells #[.int .i64 (⟨b2, l2⟩ : Spr).balls, .slice D3 (⟨b2, l2⟩ : Spr).ws.length k3] 26)); have HXb_3 := Lib.hid (Bx.new (s := (⟨b2, l2⟩ : Spr)) hs3); have HB3 := Lib.hid ((HB2.out.trans (hb3.mono HB2.out.size)).alloc (HB2.out.trans (hb3.mono HB2.out.size)).size (.cells #[.int .i64 (⟨b2, l2⟩ : Spr).balls, .slice D3 (⟨b2, l2⟩ : Spr).ws.length k3] 26)); obtain ⟨ca0_3, ca1_3, _⟩ := HXa_3.out.blk.two; obtain ⟨cb0_3, cb1_3, _⟩ := HXb_3.out.blk.two; clear hs3 hb3; have tok3 : True := trivial))
    go_ret
    exact ⟨rfl, HB3.out⟩
  have hNM : N + M ≤ 12 := by omega
  have oc := powL_ok hone (N + M) hNM
  have ec : convL (powL (ofL d) N) (powL (ofL d) M) = powL (ofL d) (N + M) := powL_add hone.ne N M
  have ec' : convL (powL (ofL d) M) (powL (ofL d) N) = powL (ofL d) (N + M) := by rw [powL_add hone.ne M N, Nat.add_comm]
  have es := sums_eq oa ob
  rw [ec] at es
  have en : ((N + M : Nat) : Int) = (N : Int) + (M : Int) := by omega
  have k3 := fun W (hW : Below w.heap.size w W) D k D' k' (h1 : Sl 1 elInt W (· < W.heap.size) (.slice D (powL (ofL d) N).length k) (powL (ofL d) N)) (h2 : Sl 1 elInt W (· < W.heap.size) (.slice D' (powL (ofL d) M).length k') (powL (ofL d) M)) => (ch_Convolve ⟨(N : Int), powL (ofL d) N⟩ ⟨(M : Int), powL (ofL d) M⟩ _ _ W h1 h2).mono fun e W' h => h.out
  have k4 := fun W (hW : Below w.heap.size w W) D k D' k' (h1 : Sl 1 elInt W (· < W.heap.size) (.slice D (powL (ofL d) M).length k) (powL (ofL d) M)) (h2 : Sl 1 elInt W (· < W.heap.size) (.slice D' (powL (ofL d) N).length k') (powL (ofL d) N)) => (ch_Convolve ⟨(M : Int), powL (ofL d) M⟩ ⟨(N : Int), powL (ofL d) N⟩ _ _ W h1 h2).mono fun e W' h => h.out
  rw [convolveS_ok oa ob hNM, ec] at k3
  rw [convolveS_ok ob oa (by omega), ec', Int.add_comm (M : Int) (N : Int)] at k4
  have k5 := fun W (hW : Below w.heap.size w W) => (ch_Power d _ ((N : Int) + (M : Int)) W (hin W hW)).mono fun e W' h => h.out
  rw [← en, powS_ok hD hNM, en] at k5
  have k6 := fun W (hW : Below w.heap.size w W) D k D' k' h h' => box_same ⟨(N : Int) + (M : Int), powL (ofL d) (N + M)⟩ W D k D' k' h h'
  have k7 := fun W (hW : Below w.heap.size w W) D k (h1 : Sl 1 elInt W (· < W.heap.size) (.slice D (powL (ofL d) (N + M)).length k) (powL (ofL d) (N + M))) => ch_CheckP ⟨(N : Int) + (M : Int), powL (ofL d) (N + M)⟩ _ W h1
  have ck : checkP ⟨(N : Int) + (M : Int), powL (ofL d) (N + M)⟩ = 0 := by rw [← en]; exact oc.check
  rw [ck] at k7
  have k8 := fun W (hW : Below w.heap.size w W) D k (h1 : Sl 1 elInt W (· < W.heap.size) (.slice D (powL (ofL d) N).length k) (powL (ofL d) N)) => ch_Sum ⟨(N : Int), powL (ofL d) N⟩ _ W h1
  have k9 := fun W (hW : Below w.heap.size w W) D k (h1 : Sl 1 elInt W (· < W.heap.size) (.slice D (powL (ofL d) M).length k) (powL (ofL d) M)) => ch_Sum ⟨(M : Int), powL (ofL d) M⟩ _ W h1
  rw [sumS_ok oa] at k8
  rw [sumS_ok ob] at k9
  have k10 := fun W => ch_Unit (N : Int) W
  have k11 := fun W => ch_Unit (M : Int) W
  rw [unitS_ok (by omega)] at k10 k11
  have k12 := fun W (hW : Below w.heap.size w W) D k (h1 : Sl 1 elInt W (· < W.heap.size) (.slice D (powL (ofL d) (N + M)).length k) (powL (ofL d) (N + M))) => ch_Sum ⟨(N : Int) + (M : Int), powL (ofL d) (N + M)⟩ _ W h1
  rw [← en, sumS_ok oc, en] at k12
  have k13 := fun W (hW : Below w.heap.size w W) => ch_Mean d _ W (hin W hW)
  rw [meanS_ok hD] at k13
  have k14 := fun W (hW : Below w.heap.size w W) => (ch_Power d _ ((1 : Nat) : Int) W (hin W hW)).mono fun e W' h => h.out
  rw [powS_ok hD (by omega), powL_one] at k14
  have k15 := fun W (hW : Below w.heap.size w W) D k (h1 : Sl 1 elInt W (· < W.heap.size) (.slice D (ofL d).length k) (ofL d)) => ch_Sum ⟨((1 : Nat) : Int), ofL d⟩ _ W h1
  rw [sumS_ok hone, ofL_sx hok] at k15
  have ba := oa.sxb
  have bb := ob.sxb
  have bc := oc.sxb
  have un := unitV_le (n := N) (by omega)
  have um := unitV_le (n := M) (by omega)
  have p1 := Int.mul_nonneg ba.1 (show (0 : Int) ≤ unitV M by omega)
  have p2 := Int.mul_nonneg bb.1 (show (0 : Int) ≤ unitV N by omega)
  have q1 : sxF 0 (powL (ofL d) N) * unitV M ≤ 23925373020405760 := by omega
  have q2 : sxF 0 (powL (ofL d) M) * unitV N ≤ 23925373020405760 := by omega
  have q3 : sxF 0 (powL (ofL d) N) * unitV M + sxF 0 (powL (ofL d) M) * unitV N ≤ 23925373020405760 := by omega
  have es' : (sxF 0 (powL (ofL d) (N + M)) == sxF 0 (powL (ofL d) N) * unitV M + sxF 0 (powL (ofL d) M) * unitV N) = true := by rw [beq_iff_eq]; exact es
  have hb12 : (N : Int) + (M : Int) ≤ 12 := by omega
  unfold sprV at k3 k4 k7 k8 k9 k12 k15
  clear h hin hD hok hone oa ob oc ec ec' es en ck ba bb bc un um hnm hNM
  generalize powL (ofL d) N = la at *
  generalize powL (ofL d) M = lb at *
  generalize powL (ofL d) (N + M) = lc at *
  generalize ofL d = lo at *
  generalize meanL d = me at *
  generalize sxF 0 la = sa at *
  generalize sxF 0 lb = sb at *
  generalize sxF 0 lc = sc at *
  generalize unitV N = un at *
  generalize unitV M = um at *
  generalize (N : Int) = b1 at *
  generalize (M : Int) = b2 at *
  have K1 := Lib.hid k1
  have K2 := Lib.hid k2
  have K3 := Lib.hid k3
  have K4 := Lib.hid k4
  have K5 := Lib.hid k5
  have K6 := Lib.hid k6
  have K7 := Lib.hid k7
  have K8 := Lib.hid k8
  have K9 := Lib.hid k9
  have K10 := Lib.hid k10
  have K11 := Lib.hid k11
  have K12 := Lib.hid k12
  have K13 := Lib.hid k13
  have K14 := Lib.hid k14
  have K15 := Lib.hid k15
  clear k1 k2 k3 k4 k5 k6 k7 k8 k9 k10 k11 k12 k13 k14 k15
  try dsimp only at K1 K2 K3 K4 K5 K6 K7 K8 K9 K10 K11 K12 K13 K14 K15
  go_enter Tryz.func7, Tryz.ntmps7
  go_wp2_with (first
    | (go_at_call 11; refine (HAW.out).mono ?_; rintro e w1 ⟨rfl, hb1⟩; have HB1 := Lib.hid hb1; clear hb1; have tok1 : True := trivial)
    | (clear tok1; go_at_call 14; refine (K1.out _ HB1.out).mono ?_; rintro e w2 ⟨D2, k2, rfl, hs2, hb2⟩; have HXa_2 := Lib.hid (Bx.new (s := (⟨b1, la⟩ : Spr)) hs2); have HB2 := Lib.hid ((HB1.out.trans (hb2.mono HB1.out.size)).alloc (HB1.out.trans (hb2.mono HB1.out.size)).size (.cells #[.int .i64 (⟨b1, la⟩ : Spr).balls, .slice D2 (⟨b1, la⟩ : Spr).ws.length k2] 26)); obtain ⟨ca0_2, ca1_2, _⟩ := HXa_2.out.blk.two; clear hs2 hb2; have tok2 : True := trivial)
    | (clear tok2; go_at_call 14; refine (K2.out _ HB2.out).mono ?_; rintro e w3 ⟨D3, k3, rfl, hs3, hb3⟩; have HXa_3 := Lib.hid ((HXa_2.out.below hb3).alloc (.cells #[.int .i64 (⟨b2, lb⟩ : Spr).balls, .slice D3 (⟨b2, lb⟩ : Spr).ws.length k3] 26)); have HXb_3 := Lib.hid (Bx.new (s := (⟨b2, lb⟩ : Spr)) hs3); have HB3 := Lib.hid ((HB2.out.trans (hb3.mono HB2.out.size)).alloc (HB2.out.trans (hb3.mono HB2.out.size)).size (.cells #[.int .i64 (⟨b2, lb⟩ : Spr).balls, .slice D3 (⟨b2, lb⟩ : Spr).ws.length k3] 26)); obtain ⟨ca0_3, ca1_3, _⟩ := HXa_3.out.blk.two; obtain ⟨cb0_3, cb1_3, _⟩ := HXb_3.out.blk.two; clear hs3 hb3; clear ca0_2 ca1_2; have tok3 : True := trivial)
    | (clear tok3; go_at_call 24; refine (K3.out _ HB3.out _ _ _ _ HXa_3.out.sl HXb_3.out.sl).mono ?_; rintro e w4 ⟨D4, k4, rfl, hs4, hb4⟩; have HXa_4 := Lib.hid ((HXa_3.out.below hb4).alloc (.cells #[.int .i64 (⟨b1 + b2, lc⟩ : Spr).balls, .slice D4 (⟨b1 + b2, lc⟩ : Spr).ws.length k4] 26)); have HXb_4 := Lib.hid ((HXb_3.out.below hb4).alloc (.cells #[.int .i64 (⟨b1 + b2, lc⟩ : Spr).balls, .slice D4 (⟨b1 + b2, lc⟩ : Spr).ws.length k4] 26)); have HXx_4 := Lib.hid (Bx.new (s := (⟨b1 + b2, lc⟩ : Spr)) hs4); have HB4 := Lib.hid ((HB3.out.trans (hb4.mono HB3.out.size)).alloc (HB3.out.trans (hb4.mono HB3.out.size)).size (.cells #[.int .i64 (⟨b1 + b2, lc⟩ : Spr).balls, .slice D4 (⟨b1 + b2, lc⟩ : Spr).ws.length k4] 26)); obtain ⟨ca0_4, ca1_4, _⟩ := HXa_4.out.blk.two; obtain ⟨cb0_4, cb1_4, _⟩ := HXb_4.out.blk.two; obtain ⟨cx0_4, cx1_4, _⟩ := HXx_4.out.blk.two; clear hs4 hb4; clear ca0_3 ca1_3 cb0_3 cb1_3; have tok4 : True := trivial)
    | (clear tok4; go_at_call 24; refine (K4.out _ HB4.out _ _ _ _ HXb_4.out.sl HXa_4.out.sl).mono ?_; rintro e w5 ⟨D5, k5, rfl, hs5, hb5⟩; have HXa_5 := Lib.hid ((HXa_4.out.below hb5).alloc (.cells #[.int .i64 (⟨b1 + b2, lc⟩ : Spr).balls, .slice D5 (⟨b1 + b2, lc⟩ : Spr).ws.length k5] 26)); have HXb_5 := Lib.hid ((HXb_4.out.below hb5).alloc (.cells #[.int .i64 (⟨b1 + b2, lc⟩ : Spr).balls, .slice D5 (⟨b1 + b2, lc⟩ : Spr).ws.length k5] 26)); have HXx_5 := Lib.hid ((HXx_4.out.below hb5).alloc (.cells #[.int .i64 (⟨b1 + b2, lc⟩ : Spr).balls, .slice D5 (⟨b1 + b2, lc⟩ : Spr).ws.length k5] 26)); have HXy_5 := Lib.hid (Bx.new (s := (⟨b1 + b2, lc⟩ : Spr)) hs5); have HB5 := Lib.hid ((HB4.out.trans (hb5.mono HB4.out.size)).alloc (HB4.out.trans (hb5.mono HB4.out.size)).size (.cells #[.int .i64 (⟨b1 + b2, lc⟩ : Spr).balls, .slice D5 (⟨b1 + b2, lc⟩ : Spr).ws.length k5] 26)); obtain ⟨ca0_5, ca1_5, _⟩ := HXa_5.out.blk.two; obtain ⟨cb0_5, cb1_5, _⟩ := HXb_5.out.blk.two; obtain ⟨cx0_5, cx1_5, _⟩ := HXx_5.out.blk.two; obtain ⟨cy0_5, cy1_5, _⟩ := HXy_5.out.blk.two; clear hs5 hb5; clear ca0_4 ca1_4 cb0_4 cb1_4 cx0_4 cx1_4; have tok5 : True := trivial)
    | (clear tok5; go_at_call 14; refine (K5.out _ HB5.out).mono ?_; rintro e w6 ⟨D6, k6, rfl, hs6, hb6⟩; have HXa_6 := Lib.hid ((HXa_5.out.below hb6).alloc (.cells #[.int .i64 (⟨b1 + b2, lc⟩ : Spr).balls, .slice D6 (⟨b1 + b2, lc⟩ : Spr).ws.length k6] 26)); have HXb_6 := Lib.hid ((HXb_5.out.below hb6).alloc (.cells #[.int .i64 (⟨b1 + b2, lc⟩ : Spr).balls, .slice D6 (⟨b1 + b2, lc⟩ : Spr).ws.length k6] 26)); have HXx_6 := Lib.hid ((HXx_5.out.below hb6).alloc (.cells #[.int .i64 (⟨b1 + b2, lc⟩ : Spr).balls, .slice D6 (⟨b1 + b2, lc⟩ : Spr).ws.length k6] 26)); have HXy_6 := Lib.hid ((HXy_5.out.below hb6).alloc (.cells #[.int .i64 (⟨b1 + b2, lc⟩ : Spr).balls, .slice D6 (⟨b1 + b2, lc⟩ : Spr).ws.length k6] 26)); have HXz_6 := Lib.hid (Bx.new (s := (⟨b1 + b2, lc⟩ : Spr)) hs6); have HB6 := Lib.hid ((HB5.out.trans (hb6.mono HB5.out.size)).alloc (HB5.out.trans (hb6.mono HB5.out.size)).size (.cells #[.int .i64 (⟨b1 + b2, lc⟩ : Spr).balls, .slice D6 (⟨b1 + b2, lc⟩ : Spr).ws.length k6] 26)); obtain ⟨ca0_6, ca1_6, _⟩ := HXa_6.out.blk.two; obtain ⟨cb0_6, cb1_6, _⟩ := HXb_6.out.blk.two; obtain ⟨cx0_6, cx1_6, _⟩ := HXx_6.out.blk.two; obtain ⟨cy0_6, cy1_6, _⟩ := HXy_6.out.blk.two; obtain ⟨cz0_6, cz1_6, _⟩ := HXz_6.out.blk.two; clear hs6 hb6; clear ca0_5 ca1_5 cb0_5 cb1_5 cx0_5 cx1_5 cy0_5 cy1_5; have tok6 : True := trivial)
    | (clear tok6; go_at_call 16; refine (K6.out _ HB6.out _ _ _ _ HXx_6.out.sl HXy_6.out.sl).mono ?_; rintro e w7 ⟨rfl, hb7⟩; have HXa_7 := Lib.hid (HXa_6.out.below hb7); obtain ⟨ca0_7, ca1_7, _⟩ := HXa_7.out.blk.two; have HXb_7 := Lib.hid (HXb_6.out.below hb7); obtain ⟨cb0_7, cb1_7, _⟩ := HXb_7.out.blk.two; have HXx_7 := Lib.hid (HXx_6.out.below hb7); obtain ⟨cx0_7, cx1_7, _⟩ := HXx_7.out.blk.two; have HXy_7 := Lib.hid (HXy_6.out.below hb7); obtain ⟨cy0_7, cy1_7, _⟩ := HXy_7.out.blk.two; have HXz_7 := Lib.hid (HXz_6.out.below hb7); obtain ⟨cz0_7, cz1_7, _⟩ := HXz_7.out.blk.two; have HB7 := Lib.hid (HB6.out.trans (hb7.mono HB6.out.size)); clear hb7; clear ca0_6 ca1_6 cb0_6 cb1_6 cx0_6 cx1_6 cy0_6 cy1_6 cz0_6 cz1_6; have tok7 : True := trivial)
    | (clear tok7; go_at_call 16; refine (K6.out _ HB7.out _ _ _ _ HXx_7.out.sl HXz_7.out.sl).mono ?_; rintro e w8 ⟨rfl, hb8⟩; have HXa_8 := Lib.hid (HXa_7.out.below hb8); obtain ⟨ca0_8, ca1_8, _⟩ := HXa_8.out.blk.two; have HXb_8 := Lib.hid (HXb_7.out.below hb8); obtain ⟨cb0_8, cb1_8, _⟩ := HXb_8.out.blk.two; have HXx_8 := Lib.hid (HXx_7.out.below hb8); obtain ⟨cx0_8, cx1_8, _⟩ := HXx_8.out.blk.two; have HXy_8 := Lib.hid (HXy_7.out.below hb8); obtain ⟨cy0_8, cy1_8, _⟩ := HXy_8.out.blk.two; have HXz_8 := Lib.hid (HXz_7.out.below hb8); obtain ⟨cz0_8, cz1_8, _⟩ := HXz_8.out.blk.two; have HB8 := Lib.hid (HB7.out.trans (hb8.mono HB7.out.size)); clear hb8; clear ca0_7 ca1_7 cb0_7 cb1_7 cx0_7 cx1_7 cy0_7 cy1_7 cz0_7 cz1_7; have tok8 : True := trivial)
    | (clear tok8; go_at_call 25; refine (K7.out _ HB8.out _ _ HXx_8.out.sl).mono ?_; rintro e w9 ⟨rfl, hb9⟩; have HXa_9 := Lib.hid (HXa_8.out.below hb9); obtain ⟨ca0_9, ca1_9, _⟩ := HXa_9.out.blk.two; have HXb_9 := Lib.hid (HXb_8.out.below hb9); obtain ⟨cb0_9, cb1_9, _⟩ := HXb_9.out.blk.two; have HXx_9 := Lib.hid (HXx_8.out.below hb9); obtain ⟨cx0_9, cx1_9, _⟩ := HXx_9.out.blk.two; have HXy_9 := Lib.hid (HXy_8.out.below hb9); obtain ⟨cy0_9, cy1_9, _⟩ := HXy_9.out.blk.two; have HXz_9 := Lib.hid (HXz_8.out.below hb9); obtain ⟨cz0_9, cz1_9, _⟩ := HXz_9.out.blk.two; have HB9 := Lib.hid (HB8.out.trans (hb9.mono HB8.out.size)); clear hb9; clear ca0_8 ca1_8 cb0_8 cb1_8 cx0_8 cx1_8 cy0_8 cy1_8 cz0_8 cz1_8; have tok9 : True := trivial)
    | (clear tok9; go_at_call 26; refine (K8.out _ HB9.out _ _ HXa_9.out.sl).mono ?_; rintro e w10 ⟨rfl, hb10⟩; have HXa_10 := Lib.hid (HXa_9.out.below hb10); obtain ⟨ca0_10, ca1_10, _⟩ := HXa_10.out.blk.two; have HXb_10 := Lib.hid (HXb_9.out.below hb10); obtain ⟨cb0_10, cb1_10, _⟩ := HXb_10.out.blk.two; have HXx_10 := Lib.hid (HXx_9.out.below hb10); obtain ⟨cx0_10, cx1_10, _⟩ := HXx_10.out.blk.two; have HXy_10 := Lib.hid (HXy_9.out.below hb10); obtain ⟨cy0_10, cy1_10, _⟩ := HXy_10.out.blk.two; have HXz_10 := Lib.hid (HXz_9.out.below hb10); obtain ⟨cz0_10, cz1_10, _⟩ := HXz_10.out.blk.two; have HB10 := Lib.hid (HB9.out.trans (hb10.mono HB9.out.size)); clear hb10; clear ca0_9 ca1_9 cb0_9 cb1_9 cx0_9 cx1_9 cy0_9 cy1_9 cz0_9 cz1_9; have tok10 : True := trivial)
    | (clear tok10; go_at_call 26; refine (K9.out _ HB10.out _ _ HXb_10.out.sl).mono ?_; rintro e w11 ⟨rfl, hb11⟩; have HXa_11 := Lib.hid (HXa_10.out.below hb11); obtain ⟨ca0_11, ca1_11, _⟩ := HXa_11.out.blk.two; have HXb_11 := Lib.hid (HXb_10.out.below hb11); obtain ⟨cb0_11, cb1_11, _⟩ := HXb_11.out.blk.two; have HXx_11 := Lib.hid (HXx_10.out.below hb11); obtain ⟨cx0_11, cx1_11, _⟩ := HXx_11.out.blk.two; have HXy_11 := Lib.hid (HXy_10.out.below hb11); obtain ⟨cy0_11, cy1_11, _⟩ := HXy_11.out.blk.two; have HXz_11 := Lib.hid (HXz_10.out.below hb11); obtain ⟨cz0_11, cz1_11, _⟩ := HXz_11.out.blk.two; have HB11 := Lib.hid (HB10.out.trans (hb11.mono HB10.out.size)); clear hb11; clear ca0_10 ca1_10 cb0_10 cb1_10 cx0_10 cx1_10 cy0_10 cy1_10 cz0_10 cz1_10; have tok11 : True := trivial)
    | (clear tok11; go_at_call 27; refine (K10.out _).mono ?_; rintro e w12 ⟨rfl, rfl⟩; have HXa_12 := HXa_11; have ca0_12 := ca0_11; have ca1_12 := ca1_11; have HXb_12 := HXb_11; have cb0_12 := cb0_11; have cb1_12 := cb1_11; have HXx_12 := HXx_11; have cx0_12 := cx0_11; have cx1_12 := cx1_11; have HXy_12 := HXy_11; have cy0_12 := cy0_11; have cy1_12 := cy1_11; have HXz_12 := HXz_11; have cz0_12 := cz0_11; have cz1_12 := cz1_11; have HB12 := HB11; clear ca0_11 ca1_11 cb0_11 cb1_11 cx0_11 cx1_11 cy0_11 cy1_11 cz0_11 cz1_11; have tok12 : True := trivial)
    | (clear tok12; go_at_call 27; refine (K11.out _).mono ?_; rintro e w13 ⟨rfl, rfl⟩; have HXa_13 := HXa_12; have ca0_13 := ca0_12; have ca1_13 := ca1_12; have HXb_13 := HXb_12; have cb0_13 := cb0_12; have cb1_13 := cb1_12; have HXx_13 := HXx_12; have cx0_13 := cx0_12; have cx1_13 := cx1_12; have HXy_13 := HXy_12; have cy0_13 := cy0_12; have cy1_13 := cy1_12; have HXz_13 := HXz_12; have cz0_13 := cz0_12; have cz1_13 := cz1_12; have HB13 := HB12; clear ca0_12 ca1_12 cb0_12 cb1_12 cx0_12 cx1_12 cy0_12 cy1_12 cz0_12 cz1_12; have tok13 : True := trivial)
    | (clear tok13; go_at_call 26; refine (K12.out _ HB13.out _ _ HXx_13.out.sl).mono ?_; rintro e w14 ⟨rfl, hb14⟩; have HXa_14 := Lib.hid (HXa_13.out.below hb14); obtain ⟨ca0_14, ca1_14, _⟩ := HXa_14.out.blk.two; have HXb_14 := Lib.hid (HXb_13.out.below hb14); obtain ⟨cb0_14, cb1_14, _⟩ := HXb_14.out.blk.two; have HXx_14 := Lib.hid (HXx_13.out.below hb14); obtain ⟨cx0_14, cx1_14, _⟩ := HXx_14.out.blk.two; have HXy_14 := Lib.hid (HXy_13.out.below hb14); obtain ⟨cy0_14, cy1_14, _⟩ := HXy_14.out.blk.two; have HXz_14 := Lib.hid (HXz_13.out.below hb14); obtain ⟨cz0_14, cz1_14, _⟩ := HXz_14.out.blk.two; have HB14 := Lib.hid (HB13.out.trans (hb14.mono HB13.out.size)); clear hb14; clear ca0_13 ca1_13 cb0_13 cb1_13 cx0_13 cx1_13 cy0_13 cy1_13 cz0_13 cz1_13; have tok14 : True := trivial)
    | (clear tok14; go_at_call 28; refine (K13.out _ HB14.out).mono ?_; rintro e w15 ⟨rfl, hb15⟩; have HXa_15 := Lib.hid (HXa_14.out.below hb15); obtain ⟨ca0_15, ca1_15, _⟩ := HXa_15.out.blk.two; have HXb_15 := Lib.hid (HXb_14.out.below hb15); obtain ⟨cb0_15, cb1_15, _⟩ := HXb_15.out.blk.two; have HXx_15 := Lib.hid (HXx_14.out.below hb15); obtain ⟨cx0_15, cx1_15, _⟩ := HXx_15.out.blk.two; have HXy_15 := Lib.hid (HXy_14.out.below hb15); obtain ⟨cy0_15, cy1_15, _⟩ := HXy_15.out.blk.two; have HXz_15 := Lib.hid (HXz_14.out.below hb15); obtain ⟨cz0_15, cz1_15, _⟩ := HXz_15.out.blk.two; have HB15 := Lib.hid (HB14.out.trans (hb15.mono HB14.out.size)); clear hb15; clear ca0_14 ca1_14 cb0_14 cb1_14 cx0_14 cx1_14 cy0_14 cy1_14 cz0_14 cz1_14; have tok15 : True := trivial)
    | (clear tok15; go_at_call 14; refine (K14.out _ HB15.out).mono ?_; rintro e w16 ⟨D16, k16, rfl, hs16, hb16⟩; have HXa_16 := Lib.hid ((HXa_15.out.below hb16).alloc (.cells #[.int .i64 (⟨1, lo⟩ : Spr).balls, .slice D16 (⟨1, lo⟩ : Spr).ws.length k16] 26)); have HXb_16 := Lib.hid ((HXb_15.out.below hb16).alloc (.cells #[.int .i64 (⟨1, lo⟩ : Spr).balls, .slice D16 (⟨1, lo⟩ : Spr).ws.length k16] 26)); have HXx_16 := Lib.hid ((HXx_15.out.below hb16).alloc (.cells #[.int .i64 (⟨1, lo⟩ : Spr).balls, .slice D16 (⟨1, lo⟩ : Spr).ws.length k16] 26)); have HXy_16 := Lib.hid ((HXy_15.out.below hb16).alloc (.cells #[.int .i64 (⟨1, lo⟩ : Spr).balls, .slice D16 (⟨1, lo⟩ : Spr).ws.length k16] 26)); have HXz_16 := Lib.hid ((HXz_15.out.below hb16).alloc (.cells #[.int .i64 (⟨1, lo⟩ : Spr).balls, .slice D16 (⟨1, lo⟩ : Spr).ws.length k16] 26)); have HXo_16 := Lib.hid (Bx.new (s := (⟨1, lo⟩ : Spr)) hs16); have HB16 := Lib.hid ((HB15.out.trans (hb16.mono HB15.out.size)).alloc (HB15.out.trans (hb16.mono HB15.out.size)).size (.cells #[.int .i64 (⟨1, lo⟩ : Spr).balls, .slice D16 (⟨1, lo⟩ : Spr).ws.length k16] 26)); obtain ⟨ca0_16, ca1_16, _⟩ := HXa_16.out.blk.two; obtain ⟨cb0_16, cb1_16, _⟩ := HXb_16.out.blk.two; obtain ⟨cx0_16, cx1_16, _⟩ := HXx_16.out.blk.two; obtain ⟨cy0_16, cy1_16, _⟩ := HXy_16.out.blk.two; obtain ⟨cz0_16, cz1_16, _⟩ := HXz_16.out.blk.two; obtain ⟨co0_16, co1_16, _⟩ := HXo_16.out.blk.two; clear hs16 hb16; clear ca0_15 ca1_15 cb0_15 cb1_15 cx0_15 cx1_15 cy0_15 cy1_15 cz0_15 cz1_15; have tok16 : True := trivial)
    | (clear tok16; go_at_call 26; refine (K15.out _ HB16.out _ _ HXo_16.out.sl).mono ?_; rintro e w17 ⟨rfl, hb17⟩; have HXa_17 := Lib.hid (HXa_16.out.below hb17); obtain ⟨ca0_17, ca1_17, _⟩ := HXa_17.out.blk.two; have HXb_17 := Lib.hid (HXb_16.out.below hb17); obtain ⟨cb0_17, cb1_17, _⟩ := HXb_17.out.blk.two; have HXx_17 := Lib.hid (HXx_16.out.below hb17); obtain ⟨cx0_17, cx1_17, _⟩ := HXx_17.out.blk.two; have HXy_17 := Lib.hid (HXy_16.out.below hb17); obtain ⟨cy0_17, cy1_17, _⟩ := HXy_17.out.blk.two; have HXz_17 := Lib.hid (HXz_16.out.below hb17); obtain ⟨cz0_17, cz1_17, _⟩ := HXz_17.out.blk.two; have HXo_17 := Lib.hid (HXo_16.out.below hb17); obtain ⟨co0_17, co1_17, _⟩ := HXo_17.out.blk.two; have HB17 := Lib.hid (HB16.out.trans (hb17.mono HB16.out.size)); clear hb17; clear ca0_16 ca1_16 cb0_16 cb1_16 cx0_16 cx1_16 cy0_16 cy1_16 cz0_16 cz1_16 co0_16 co1_16; have tok17 : True := trivial))
  go_ret
  exact ⟨rfl, HB17.out⟩
end Go.Proofs.YtoeeodemimndlaaGreatDoor
