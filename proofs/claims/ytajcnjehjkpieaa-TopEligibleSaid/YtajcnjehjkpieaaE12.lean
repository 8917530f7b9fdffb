/- conduct.Suspensions, the whole. -/
import Derived.Test.YtajcnjehjkpieaaE11
set_option linter.unusedSimpArgs false
set_option linter.unusedVariables false
namespace Go.Proofs.Ytajcnjehjkpieaa
open Go.RowKit

theorem E_i64 : ElemOf Try.prog 25 2 1 8 := ElemOf.mk (z := .int .i64 0) Try.underlying25 (by kernel_rfl) rfl (by decide)
theorem outF_le (ms : List Int) (m : List Bool) : ∀ k, (outF ms m k).length ≤ k
  | 0 => by simp [outF]
  | k + 1 => by
    have := outF_le ms m k
    unfold outF
    split
    · simp; omega
    · omega
/-- While the days are gathered. -/
structure OD (w W : World) (v : Value) (out : List Int) : Prop where
  bel : Below w.heap.size w W
  own : OwnSl 1 elInt 2 w.heap.size W v out
theorem OD.alloc {w W : World} {v : Value} {out : List Int} (h : OD w W v out) (o : Obj) : OD w (W.alloc o) v out := ⟨h.bel.alloc h.bel.size o, h.own.alloc elInt_good o⟩
theorem OD.add {w W W' : World} {v v' : Value} {out out' : List Int} (h : OD w W v out) (ho : OwnSl 1 elInt 2 w.heap.size W' v' out') (hg : W.grownBy W' v.ownBlock) : OD w W' v' out' := ⟨below_own h.bel h.own hg (Nat.le_refl _) h.bel.size, ho⟩
theorem blk_far {W : World} {g i k : Nat} {v : Value} {t : TypeId} {cs : Array Value} (h : Blk W k t cs) (hne : k ≠ g) : Blk (W.setCell ⟨g, i, none⟩ v) k t cs :=
  (Below.heap_setCell W ⟨g, i, none⟩ v k (by first | exact hne | exact hne.symm)).trans h
theorem room8 {n k m : Nat} (h : n ≤ k) (h2 : k < m) (h3 : m ≤ 400) : n + 1 ≤ maxLen ∧ (n + 1) * 8 ≤ 140737488355328 := by unfold maxLen; omega
set_option maxRecDepth 100000 in
set_option maxHeartbeats 8000000 in
theorem con_Sus_good (l : List Off) (lv : Value) (p : List UInt8) (ms : List Int) (mv : Value) (w : World) (hl : Sl 4 elOff w (· < w.heap.size) lv l) (hm : Sl 1 elInt w (· < w.heap.size) mv ms) (h1 : conS l = 0) (h2 : matS ms = 0) :
    Calls Try.prog 6 #[lv, .string (S p), mv] w (SusPost w (susS l p ms)) := by
  obtain ⟨A, c, rfl, hc, hc2⟩ := hl.shape
  obtain ⟨A', c', rfl, hc', hc2'⟩ := hm.shape
  have k1 := con_Check l _ w hl
  have k2 := fun W (hW : Below w.heap.size w W) => con_checkMatches ms _ W (hm.keep elInt_good (Same.of_below hW) fun _ h => Nat.lt_of_lt_of_le h hW.size)
  obtain ⟨hl2000, hpts⟩ := con_pts h1
  have hm400 := mat_len h2
  have hmk := fun W => make_bools ms.length (by omega) W
  obtain ⟨z, hz⟩ : ∃ z, z = susS l p ms := ⟨_, rfl⟩
  rw [← hz]
  unfold susS at hz
  rw [if_neg (by simp [h1]), if_neg (by simp [h2])] at hz
  obtain ⟨MM, hMM⟩ : ∃ M, M = marksS l p ms := ⟨_, rfl⟩
  rw [← hMM] at hz
  unfold marksS at hMM
  rw [h1] at k1
  rw [h2] at k2
  have HZ := Lib.hid hz
  have HMM : Hid (MM = susF l p ms (l.length - 0) 0 (List.replicate ms.length false)) := Lib.hid hMM
  have K1 := Lib.hid k1
  have K2 := Lib.hid k2
  have HL := Lib.hid hl
  have HM := Lib.hid hm
  have HPT := Lib.hid hpts
  have tok0 : True := trivial
  clear h1 h2 hz hMM k1 k2 hl hm hpts
  go_enter Try.func6, Try.ntmps6
  go_wp2_with (first
    | (clear tok0; go_at_call 22; refine K1.out.mono ?_; rintro e w2 ⟨rfl, hb⟩; have HB2 := Lib.hid hb; clear hb; have tok1 : True := trivial)
    | (clear tok1; go_at_call 23; refine (K2.out _ HB2.out).mono ?_; rintro e w3 ⟨rfl, hb⟩; have HB3 := Lib.hid (HB2.out.trans (hb.mono HB2.out.size)); clear hb; have tok2 : True := trivial))
  have HS0 := Lib.hid (SU.new w w3 ms.length HB3.out)
  go_loopw [35] (fun i wr => ∃ (k : Nat) (m : List Bool), k ≤ l.length ∧ i = .int .i64 k ∧ Hid (SU w wr w3.heap.size m) ∧ Hid (m.length = ms.length) ∧ Hid (MM = susF l p ms (l.length - k) k m)) (fun i _ => l.length - (intOf i).toNat)
  case atStart => exact ⟨0, _, Nat.zero_le _, rfl, HS0, Lib.hid (by simp), HMM⟩
  case round =>
    clear HS0 HMM hmk
    obtain ⟨k, m, hk, rfl, hsu, hml, hmm⟩ := hrel
    have hgw := hsu.out.row.lt
    by_cases hlt : k < l.length
    case neg =>
      clear hgw
      obtain rfl : k = l.length := by omega
      have hmm2 := hmm.out
      rw [Nat.sub_self, susF] at hmm2
      subst hmm2
      obtain ⟨wo, rfl⟩ : ∃ wo : World, wo = wr := ⟨_, rfl⟩
      have HQ0 := Lib.hid (⟨Below.refl _ _, OwnSl.nil wo⟩ : OD wo wo (.slice none 0 0) (outF ms MM 0))
      have HSU := Lib.hid hsu.out
      have HML := Lib.hid hml.out
      clear hsu hml hmm
      go_wp2
      go_loopw [17, 91] (fun v i wz => ∃ (j : Nat) (Ao : Option Addr) (no co : Nat), j ≤ ms.length ∧ i = .int .i64 j ∧ v = .slice Ao no co ∧ Hid (OD wo wz (.slice Ao no co) (outF ms MM j))) (fun _ i _ => ms.length - (intOf i).toNat)
      case atStart => exact ⟨0, _, _, _, Nat.zero_le _, rfl, rfl, HQ0⟩
      case round =>
        clear HQ0
        obtain ⟨j, Ao, no, co, hj, rfl, rfl, hod⟩ := hrel
        by_cases hlt : j < ms.length
        · obtain ⟨b, o, rfl, hbl, t0⟩ := i64_at HM.out hlt
          have hsw := HSU.out.step hod.out.bel
          have x0 := (hsw.bel.cell (p := ⟨b, o + j, none⟩) hbl).trans t0
          have y0 := hsw.at (k := j) (by rw [HML.out]; exact hlt)
          have hlen := outF_le ms MM j
          have hs2 : outF ms MM (j + 1) = if MM.getD j false then outF ms MM j ++ [ms.getD j 0] else outF ms MM j := out_step
          have hod2 := hod.out
          obtain ⟨out, hout⟩ : ∃ x, x = outF ms MM j := ⟨_, rfl⟩
          rw [← hout] at hs2 hod2 hlen
          obtain ⟨out2, hout2⟩ : ∃ x, x = outF ms MM (j + 1) := ⟨_, rfl⟩
          rw [← hout2] at hs2
          obtain ⟨d, hd⟩ : ∃ x, x = ms.getD j 0 := ⟨_, rfl⟩
          rw [← hd] at hs2 x0
          obtain ⟨mb, hmb⟩ : ∃ x, x = MM.getD j false := ⟨_, rfl⟩
          rw [← hmb] at hs2 y0
          obtain ⟨hr1, hr2⟩ := room8 hlen hlt hm400
          have HO2 := Lib.hid hout2
          have HOD := Lib.hid hod2
          have HR := Lib.hid hr2
          have gj : (j : Int) < (ms.length : Int) := by omega
          clear hod hod2 hout hout2 hd hmb hsw t0 hlen hr2
          have tok0 : True := trivial
          cases mb
          · rw [if_neg (by simp)] at hs2
            have HN := Lib.hid hs2
            clear hs2
            go_wp2
            go_roundw
            case rel => exact ⟨j + 1, _, _, _, by omega, by go_num, rfl, by rw [← HO2.out, HN.out]; exact HOD⟩
            case measure => simp [intOf]; omega
          · rw [if_pos rfl] at hs2
            have HN := Lib.hid hs2
            have HOA := Lib.hid (HOD.out.alloc (.cells #[.int .i64 d] 2))
            clear hs2
            go_wp2_with (clear tok0; at_builtin; refine wpList_append_sl _ rfl (.tmp 100) (.tmp 102) _ rfl E_i64 elInt_good wo.heap.size _ out rfl HOA.out.own ⟨wr.heap.size, 0, none⟩ 1 [.int .i64 d] rfl d rfl (cells_new _ _ _ _) (oneCells rfl) rfl hr1 HR.out HOA.out.bel.size ?_; intro v5 w5 hown5 hg5 hat5; have hq := HOA.out.add hown5 hg5; obtain ⟨A5, c5, rfl, _, _⟩ := (hown5.sl elInt_good).shape; have HQ := Lib.hid hq; clear hown5 hg5 hat5 hq; have tok2 : True := trivial)
            go_roundw
            case rel => exact ⟨j + 1, _, _, _, by omega, by go_num, rfl, by rw [← HO2.out, HN.out]; have hh := HQ; rw [List.length_append, List.length_singleton] at hh; exact hh⟩
            case measure => simp [intOf]; omega
        · obtain rfl : j = ms.length := by omega
          have HOD := Lib.hid hod.out
          clear hod
          go_wp2
          go_ret2
          exact ⟨_, _, _, by rw [HZ.out]; rfl, by rw [HZ.out]; exact (HOD.out.own.sl elInt_good).keep elInt_good (Same.refl _ _) fun b hb => ⟨Nat.le_trans HSU.out.bel.size hb.1, hb.2⟩, HSU.out.bel.trans (HOD.out.bel.mono HSU.out.bel.size)⟩
    obtain ⟨b, o, rfl, hbl, t0, t1, t2, t3, _⟩ := off_at HL.out hlt
    have x0 := (hsu.out.bel.cell (p := ⟨b, o + k * 4, none⟩) hbl).trans t0
    have x1 := (hsu.out.bel.cell (p := ⟨b, o + k * 4 + 1, none⟩) hbl).trans t1
    have x2 := (hsu.out.bel.cell (p := ⟨b, o + k * 4 + 2, none⟩) hbl).trans t2
    have x3 := (hsu.out.bel.cell (p := ⟨b, o + k * 4 + 3, none⟩) hbl).trans t3
    have hst := sus_step (p := p) (ms := ms) (m := m) hlt
    rw [← hmm.out] at hst
    have hsx := hsu.out.step (Below.alloc (Below.refl _ _) (Nat.le_refl _) (.cells #[.int .i64 (ofn l k).id, .string (S (ofn l k).player), .int .i64 (ofn l k).day, .int .i64 (ofn l k).pts] 35))
    have hbx : Blk (wr.alloc (.cells #[.int .i64 (ofn l k).id, .string (S (ofn l k).player), .int .i64 (ofn l k).day, .int .i64 (ofn l k).pts] 35)) wr.heap.size 35 _ := Blk.new wr _ _
    obtain ⟨hp1, hp8⟩ := HPT.out (ofn l k) (by rw [← ofn_at hlt]; exact List.getElem_mem hlt)
    have hco : costS l p k = 2 * ((ptsS (l.take k) p (ofn l k).day + (ofn l k).pts).tdiv 4 - (ptsS (l.take k) p (ofn l k).day).tdiv 4) := rfl
    have hpb := pts_bound p (ofn l k).day (l.take k) 0 fun x hx => HPT.out x (List.mem_of_mem_take hx)
    have hpb1 : 0 ≤ ptsS (l.take k) p (ofn l k).day ∧ ptsS (l.take k) p (ofn l k).day ≤ 16000 := by
      have : (l.take k).length ≤ 2000 := by rw [List.length_take]; omega
      unfold ptsS
      omega
    have kp := fun d W (hW : Below w.heap.size w W) => con_points (l.take k) (.slice (some ⟨b, o, none⟩) k c) p d W ((Sl.take (k := k) HL.out (by omega)).keep elOff_good (Same.of_below hW) fun _ h => Nat.lt_of_lt_of_le h hW.size) (by rw [List.length_take]; omega) fun x hx => HPT.out x (List.mem_of_mem_take hx)
    obtain ⟨B, hB⟩ : ∃ B, B = ptsS (l.take k) p (ofn l k).day := ⟨_, rfl⟩
    have kp1 := kp (ofn l k).day
    rw [← hB] at hco hpb1 kp1
    obtain ⟨co, hcoe⟩ : ∃ x, x = costS l p k := ⟨_, rfl⟩
    rw [← hcoe] at hco hst
    obtain ⟨x, hx⟩ : ∃ x, x = ofn l k := ⟨_, rfl⟩
    rw [← hx] at x0 x1 x2 x3 hst hsx hbx hp1 hp8 hco kp1
    obtain ⟨xi, xp, xd, xn⟩ := x
    dsimp only at x0 x1 x2 x3 hst hsx hbx hp1 hp8 hco kp1
    have HSX := Lib.hid hsx
    have HBX := Lib.hid hbx
    have KP := Lib.hid kp1
    clear hsx hbx kp kp1 hpb hB hcoe hx t0 t1 t2 t3 hmm hsu
    cases c1 : (xp == p)
    · rw [c1, if_neg (by simp)] at hst
      have HN := Lib.hid hst
      clear hst hco
      go_wp2
      go_roundw
      case rel => exact ⟨k + 1, m, by omega, by go_num, HSX, hml, HN⟩
      case measure => simp [intOf]; omega
    · rw [c1, if_pos rfl] at hst
      obtain ⟨wo, rfl⟩ : ∃ wo : World, wo = wr := ⟨_, rfl⟩
      have hb8 := HBX.out.drew
      have hs8 := HSX.out.step (Below.drew (Below.refl _ _))
      obtain ⟨y0, y1, y2, y3⟩ := blk_four hb8
      have HS8 := Lib.hid hs8
      have HB8 := Lib.hid hb8
      have gk : (k : Int) < (l.length : Int) := by omega
      have gkc : k ≤ c := by omega
      have gkc2 : (k : Int) ≤ (c : Int) := by omega
      obtain ⟨q1, hq1⟩ : ∃ q, q = (B + xn).tdiv 4 := ⟨_, rfl⟩
      obtain ⟨q2, hq2⟩ : ∃ q, q = B.tdiv 4 := ⟨_, rfl⟩
      rw [← hq1, ← hq2] at hco
      have b1 : 0 ≤ q1 ∧ q1 ≤ 5000 := by rw [hq1, Int.tdiv_eq_ediv_of_nonneg (by omega)]; omega
      have b2 : 0 ≤ q2 ∧ q2 ≤ 5000 := by rw [hq2, Int.tdiv_eq_ediv_of_nonneg (by omega)]; omega
      have f0 : IntKind.i64.wrap (B + xn) = B + xn := IntWalk.i64_in _ (by omega)
      have f1 : IntKind.i64.wrap q1 = q1 := IntWalk.i64_in _ (by omega)
      have f2 : IntKind.i64.wrap q2 = q2 := IntWalk.i64_in _ (by omega)
      have f3 : IntKind.i64.wrap (q1 - q2) = q1 - q2 := IntWalk.i64_in _ (by omega)
      have f4 : IntKind.i64.wrap (2 * (q1 - q2)) = 2 * (q1 - q2) := IntWalk.i64_in _ (by omega)
      have e1 := hq1.symm
      have e2 := hq2.symm
      obtain ⟨M1, hM1⟩ : ∃ M, M = markF ms xd ms.length 0 m co := ⟨_, rfl⟩
      rw [← hM1] at hst
      rw [hco] at hM1
      have HM1 : Hid (M1 = markF ms xd (ms.length - 0) 0 m (2 * (q1 - q2))) := Lib.hid hM1
      have HM1L := Lib.hid (show M1.length = ms.length by rw [hM1, markF_len]; exact hml.out)
      have HN := Lib.hid hst
      clear hst hco hb8 hs8 hM1 hq1 hq2 HSX HBX
      go_wp2
      go_region_held3 (fun w' => w'.cell? ⟨wo.heap.size, 2, none⟩ = some (.int .i64 xd)) (first | exact y2 | go_keep) ((go_at_call 24; refine (KP.out _ HS8.out.bel).mono ?_; rintro e w4 ⟨rfl, hb⟩; clear y0 y1 y2 y3; have hk := HB8.out.below hb HB8.out.lt; obtain ⟨y0, y1, y2, y3⟩ := blk_four hk; have HB4 := Lib.hid hk; have HS4 := Lib.hid (HS8.out.step hb); clear hk hb))
      go_wp2
      go_loopw [14, 62] (fun cv jv wz => ∃ (j : Nat) (m2 : List Bool) (cc : Int), j ≤ ms.length ∧ jv = .int .i64 j ∧ cv = .int .i64 cc ∧ Hid (SU w wz w3.heap.size m2) ∧ Hid (Blk wz wo.heap.size 35 #[.int .i64 xi, .string (S xp), .int .i64 xd, .int .i64 xn]) ∧ Hid (m2.length = ms.length) ∧ Hid (M1 = markF ms xd (ms.length - j) j m2 cc) ∧ -20000 ≤ cc + j ∧ cc ≤ 20000) (fun _ j _ => ms.length - (intOf j).toNat)
      case atStart => exact ⟨0, m, _, Nat.zero_le _, rfl, rfl, HS4, HB4, hml, HM1, by omega, by omega⟩
      case round =>
        clear HS4 HB4 HM1
        obtain ⟨j, m2, cc, hj, rfl, rfl, hs2, hb2, hml2, hmk2, hc1, hc3⟩ := hrel
        clear y0 y1 y2 y3
        by_cases hlt2 : j < ms.length
        · obtain ⟨b', o', rfl, hbl', t0⟩ := i64_at HM.out hlt2
          have x9 := (hs2.out.bel.cell (p := ⟨b', o' + j, none⟩) hbl').trans t0
          have r9 := hs2.out.at (k := j) (by rw [hml2.out]; exact hlt2)
          have rf := hs2.out.row.frozen j
          have hgz := hs2.out.row.lt
          obtain ⟨y0, y1, y2, y3⟩ := blk_four hb2.out
          have hst2 := mark_step (day := xd) (m := m2) (c := cc) hlt2
          rw [← hmk2.out] at hst2
          obtain ⟨d, hd⟩ : ∃ x, x = ms.getD j 0 := ⟨_, rfl⟩
          rw [← hd] at hst2 x9
          obtain ⟨mb, hmb⟩ : ∃ x, x = m2.getD j false := ⟨_, rfl⟩
          rw [← hmb] at hst2 r9
          have gj : (j : Int) < (ms.length : Int) := by omega
          have fc : IntKind.i64.wrap (cc - 1) = cc - 1 := IntWalk.i64_in _ (by omega)
          have HS2 := Lib.hid hs2.out
          have HB2' := Lib.hid hb2.out
          have HPUT := Lib.hid (hs2.out.put j true)
          have HFAR := Lib.hid (blk_far (g := w3.heap.size) (i := j) (v := .bool true) hb2.out (by omega))
          have HSL := Lib.hid (show (m2.set j true).length = ms.length by rw [List.length_set]; exact hml2.out)
          clear hs2 hb2 hmk2 t0 hd hmb
          cases a1 : decide (0 < cc)
          case false =>
            rw [a1, if_neg (by simp)] at hst2
            have HN3 := Lib.hid hst2
            clear hst2
            go_wp2
            go_roundw
            case rel => exact ⟨j + 1, m2, cc, by omega, by go_num, rfl, HS2, HB2', hml2, HN3, by push_cast; omega, hc3⟩
            case measure => simp [intOf]; omega
          cases a2 : decide (xd < d)
          case false =>
            rw [a1, a2, if_neg (by simp)] at hst2
            have HN3 := Lib.hid hst2
            clear hst2
            go_wp2
            go_roundw
            case rel => exact ⟨j + 1, m2, cc, by omega, by go_num, rfl, HS2, HB2', hml2, HN3, by push_cast; omega, hc3⟩
            case measure => simp [intOf]; omega
          cases mb
          case true =>
            rw [a1, a2, if_neg (by simp)] at hst2
            have HN3 := Lib.hid hst2
            clear hst2
            go_wp2
            go_roundw
            case rel => exact ⟨j + 1, m2, cc, by omega, by go_num, rfl, HS2, HB2', hml2, HN3, by push_cast; omega, hc3⟩
            case measure => simp [intOf]; omega
          rw [a1, a2, if_pos (show (true && true && !false) = true from rfl)] at hst2
          have hcp := of_decide_eq_true a1
          have HN3 := Lib.hid hst2
          clear hst2
          go_wp2
          go_roundw
          case rel => exact ⟨j + 1, m2.set j true, cc - 1, by omega, by go_num, rfl, HPUT, HFAR, HSL, HN3, by push_cast; omega, by omega⟩
          case measure => simp [intOf]; omega
        · obtain rfl : j = ms.length := by omega
          have h9 := hmk2.out
          rw [Nat.sub_self, markF] at h9
          have HN2 := Lib.hid (show MM = susF l p ms (l.length - (k + 1)) (k + 1) m2 by rw [← h9]; exact HN.out)
          clear h9 hmk2
          go_wp2
          go_roundw
          case rel => exact ⟨k + 1, m2, by omega, by go_num, hs2, hml2, HN2⟩
          case measure => simp [intOf]; omega
theorem con_Suspensions (l : List Off) (lv : Value) (p : List UInt8) (ms : List Int) (mv : Value) (w : World) (hl : Sl 4 elOff w (· < w.heap.size) lv l) (hm : Sl 1 elInt w (· < w.heap.size) mv ms) :
    Calls Try.prog 6 #[lv, .string (S p), mv] w (SusPost w (susS l p ms)) := by
  by_cases h1 : conS l = 0
  · by_cases h2 : matS ms = 0
    · exact con_Sus_good l lv p ms mv w hl hm h1 h2
    · exact con_Sus_bad l lv p ms mv w hl hm (.inr h2)
  · exact con_Sus_bad l lv p ms mv w hl hm (.inl h1)
end Go.Proofs.Ytajcnjehjkpieaa
