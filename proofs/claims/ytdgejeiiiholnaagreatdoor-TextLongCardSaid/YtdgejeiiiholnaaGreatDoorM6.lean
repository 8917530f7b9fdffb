/- The walk of TextLong: the limits of a line, of the number of diagnostics and of a source. -/
import Derived.Test.YtdgejeiiiholnaaGreatDoorM3
import Derived.Test.YtdgejeiiiholnaaGreatDoorP37
import Derived.Test.YtdgejeiiiholnaaGreatDoorF3
import Derived.IntWalk
import Derived.Deep.OwnRows
set_option linter.unusedSimpArgs false
set_option linter.unusedVariables false
namespace Go.Proofs.YtdgejeiiiholnaaGreatDoor
open Go.RowKit

/-- A row of n equal bytes reads as such. -/
theorem row_sl {w : World} {b n : Nat} {c : UInt8} (h : w.rowIs b 5 n (fun _ => .int .u8 (c.toNat : Int))) (hn : n ≤ maxLen) : Sl 1 elByte w (· < w.heap.size) (.slice (some ⟨b, 0, none⟩) n n) (List.replicate n c) := by
  refine ⟨some ⟨b, 0, none⟩, n, by simp, by simp, hn, fun _ => ⟨b, 0, rfl, h.lt, fun i a hi => ?_⟩⟩
  have hin : i < n := by have := (List.getElem?_eq_some_iff.1 hi).1; simpa using this
  rw [List.getElem?_replicate, if_pos hin] at hi
  obtain rfl := Option.some.inj hi
  refine ⟨[.int .u8 (c.toNat : Int)], rfl, fun j u hj => ?_, rfl⟩
  cases j with
  | zero => simp at hj; subst hj; simpa using h.cell hin
  | succ j => simp at hj
theorem four_str (c : Nat) (hc : c < 256) (W : World) : (convert 23 9 (.slice (some ⟨W.heap.size, 0, none⟩) 4 4)).run Tryz.prog (W.alloc (.cells #[.int .u8 120, .int .u8 c, .int .u8 121, .int .u8 10] 5)) =
    .ok (.string (S [120, UInt8.ofNat c, 121, 10])) (W.alloc (.cells #[.int .u8 120, .int .u8 c, .int .u8 121, .int .u8 10] 5)) := by
  have hcc : (UInt8.ofNat c).toNat = c := UInt8.toNat_ofNat_of_lt' hc
  have hb := Blk.new W 5 #[.int .u8 120, .int .u8 c, .int .u8 121, .int .u8 10]
  refine run_string_of Tryz.underlying23 Tryz.underlying9 Tryz.underlying5 _ (F := fun _ => True) (l := [120, UInt8.ofNat c, 121, 10])
    ⟨some ⟨W.heap.size, 0, none⟩, 4, rfl, Nat.le_refl _, by decide, fun _ => ⟨W.heap.size, 0, rfl, trivial, fun i a hi => ⟨[.int .u8 (a.toNat : Int)], rfl, fun j u hj => ?_, rfl⟩⟩⟩
  cases j with
  | succ j => simp at hj
  | zero =>
    simp at hj
    subst hj
    rw [hb.cell]
    match i, hi with
    | 0, hi => simp at hi; subst hi; rfl
    | 1, hi => simp at hi; subst hi; simp [hcc]
    | 2, hi => simp at hi; subst hi; rfl
    | 3, hi => simp at hi; subst hi; rfl
theorem diags_one (a b c : Int) {w : World} {F : Nat → Prop} {d : Value} (h : Sl 3 elDia w F d [⟨a, b, c⟩]) (hF : ∀ g, F g → g < w.heap.size) :
    Calls Tryz.prog 13 #[d, .slice (some ⟨w.heap.size, 0, none⟩) 1 1] (w.alloc (.cells #[.int .i64 a, .int .i64 b, .int .i64 c] 31)) fun e w' => e = .returned (.bool true) ∧ Below w.heap.size w w' := by
  have hb := (Below.refl w.heap.size w).alloc (Nat.le_refl _) (.cells #[.int .i64 a, .int .i64 b, .int .i64 c] 31)
  refine (law_sameDiags [⟨a, b, c⟩] d _ F (fun _ => True) _ (h.keep elDia_good (Same.below hb hF) fun b h => h) (Sl.fresh1 (R := elDia) w (fun _ => True) [.int .i64 a, .int .i64 b, .int .i64 c] 31 (⟨a, b, c⟩ : Dia) rfl trivial rfl)).mono ?_
  rintro e w' ⟨rfl, n, rfl⟩
  exact ⟨rfl, Below.drewN_ hb _⟩
set_option maxRecDepth 100000 in
set_option maxHeartbeats 4000000 in
theorem law_Long_ (n c : Nat) (hn : n < 256) (hc : c < 256) (w : World) (hg : GlobN w) :
    Calls Tryz.prog 3 #[.int .u8 n, .int .u8 c] w fun e w' => e = .returned (.bool true) ∧ Below w.heap.size w w' := by
  have HAW := Lib.hid (law03_awake w hg)
  have HG := Lib.hid hg
  obtain ⟨M, hM⟩ : ∃ M : Nat, M = 262145 := ⟨_, rfl⟩
  have hmk2 : ∀ W : World, (Instr.makeSlice 23 (.int .i64 262145) (.int .i64 262145)).run Tryz.prog W = .ok (.slice (some ⟨W.heap.size, 0, none⟩) M M) (W.alloc (.cells (madeCells #[.int .u8 0] M) 5)) := fun W => by
    have := run_make_row' (P := Tryz.prog) 23 5 (.int .u8 0) 1 Tryz.underlying23 (by kernel_rfl) rfl .i64 .i64 M (by omega) (by omega) W
    rw [show ((M : Nat) : Int) = 262145 by omega] at this
    exact this
  have HM := Lib.hid hM
  have HMK := Lib.hid hmk2
  clear hmk2 hM
  obtain ⟨N, hN, hN1, hN2⟩ : ∃ N : Nat, (998 + (n : Int) % 5) = (N : Int) ∧ 998 ≤ N ∧ N ≤ 1002 := ⟨998 + n % 5, by omega, by omega, by omega⟩
  have hmk : ∀ W : World, (Instr.makeSlice 23 (.int .i64 (998 + (n : Int) % 5)) (.int .i64 (998 + (n : Int) % 5))).run Tryz.prog W = .ok (.slice (some ⟨W.heap.size, 0, none⟩) N N) (W.alloc (.cells (madeCells #[.int .u8 0] N) 5)) := fun W => by
    rw [hN]
    exact run_make_row' (P := Tryz.prog) 23 5 (.int .u8 0) 1 Tryz.underlying23 (by kernel_rfl) rfl .i64 .i64 N (by omega) (by omega) W
  clear hN
  go_enter Tryz.func3, Tryz.ntmps3
  go_wp2_with (go_at_call 11; refine HAW.out.mono ?_; rintro e w1 ⟨rfl, hb1⟩; have HB1 := Lib.hid hb1; clear hb1)
  clear hmk
  go_loopw [25] (fun i wr => ∃ k : Nat, k ≤ N ∧ i = .int .i64 k ∧ Below w1.heap.size w1 wr ∧ wr.rowIs w1.heap.size 5 N (fun j => if j < k then .int .u8 97 else .int .u8 0)) (fun i _ => N - (intOf i).toNat)
  case atStart => exact ⟨0, Nat.zero_le _, rfl, (Below.refl _ _).alloc (Nat.le_refl _) _, (World.rowIs_made w1 (.int .u8 0) N _).congr fun j _ => by simp⟩
  case round =>
    obtain ⟨k, hk, rfl, hbw, hrow⟩ := hrel
    have HBW := Lib.hid hbw
    by_cases hkl : k < N
    · have y0 := hrow.cell hkl
      rw [if_neg (Nat.lt_irrefl k)] at y0
      have f0 := hrow.frozen k
      have HROW := Lib.hid ((hrow.set k (.int .u8 97)).congr (g := fun j => if j < k + 1 then .int .u8 97 else .int .u8 0) fun j _ => by
        by_cases h1 : j = k
        · rw [if_pos h1, if_pos (by omega)]
        · rw [if_neg h1]
          by_cases h2 : j < k
          · rw [if_pos h2, if_pos (by omega)]
          · rw [if_neg h2, if_neg (by omega)])
      clear hrow hbw
      go_wp2
      go_roundw
      case rel => exact ⟨k + 1, by omega, by go_num, Below.setCell HBW.out (Nat.le_refl _) _, HROW.out⟩
      case measure => simp [intOf]; omega
    · obtain rfl : k = N := by omega
      have hz1 := hbw.size
      have hsl := row_sl (c := 97) (hrow.congr (g := fun _ => .int .u8 97) fun j hj => if_pos hj) (by unfold maxLen; omega)
      have hcv := run_string_of Tryz.underlying23 Tryz.underlying9 Tryz.underlying5 wr hsl
      obtain ⟨q1, hq1⟩ : ∃ q1, q1 = splitS (List.replicate k (97 : UInt8)) := ⟨_, rfl⟩
      have hqq : (1000 < k ∧ q1 = ([], [⟨1, 1001, 9⟩])) ∨ (k ≤ 1000 ∧ q1 = ([⟨1, [⟨List.replicate k 97, 1, false⟩]⟩], [])) := by
        by_cases hb : 1000 < k
        · exact .inl ⟨hb, by rw [hq1, splitS_as_long k hb (by omega)]⟩
        · exact .inr ⟨by omega, by rw [hq1, splitS_as k (by omega) (by omega)]⟩
      have k1 : Calls Tryz.prog 12 #[.string (S (List.replicate k 97))] wr (SplitPost wr q1) := by
        rw [hq1]
        have := text_Split (S (List.replicate k 97)) wr (hg.below (HB1.out.trans (HBW.out.mono HB1.out.size))).glob (by rw [S_size, List.length_replicate]; omega)
        rw [S_data] at this
        exact this
      have K1 := Lib.hid k1
      have HSL := Lib.hid hsl
      have HQQ := Lib.hid hqq
      clear hrow hbw k1 hsl hg hqq hq1
      go_upto_if 40 with (go_at_call 12; refine K1.out.mono ?_; rintro e w2 ⟨v, d, rfl, hv, hd, hb2⟩; obtain ⟨A1, c1, rfl, hc1, hc2⟩ := hv.shape; obtain ⟨A2, c2, rfl, hd1, hd2⟩ := hd.shape; have HV := Lib.hid hv; have HD := Lib.hid hd; have HB2 := Lib.hid hb2; clear hv hd hb2)
      have HB5 := Lib.hid (HB1.out.trans (HBW.out.mono HB1.out.size))
      have HB6 := Lib.hid (HB5.out.trans (HB2.out.mono HB5.out.size))
      go_cut [] (fun wx => Below w.heap.size w wx)
      case first =>
        rcases HQQ.out with ⟨hbig, hqe⟩ | ⟨hbig, hqe⟩
        · subst hqe
          go_wp2_with (go_at_call 13; refine (diags_one 1 1001 9 HD.out fun _ h => h.2).mono ?_; rintro e w3 ⟨rfl, hb3⟩; have HB3 := Lib.hid (HB6.out.trans (hb3.mono HB6.out.size)); clear hb3)
          go_meet
          exact HB3.out
        · subst hqe
          obtain ⟨b, o, A3, c3, rfl, _, x0, x1, hs3, hc3, hc4⟩ := lin_at HV.out (k := 0) (by simp)
          obtain ⟨b3, o3, rfl, _, z0, z1, z2⟩ := fld_at hs3 (k := 0) (by simp)
          simp only [Nat.zero_mul, Nat.add_zero, List.getElem_cons_zero, List.length_cons, List.length_nil, Nat.zero_add] at x0 x1 z0 z1 z2 hc3
          have hcv2 := fun n => run_string_of Tryz.underlying23 Tryz.underlying9 Tryz.underlying5 (w2.drewN n) ((HSL.out.keep elByte_good (Same.below HB2.out fun _ h => h) fun _ h => h).keep elByte_good (F := (· < wr.heap.size)) (G := (· < wr.heap.size)) (fun _ _ => rfl) fun _ h => h)
          clear hs3
          go_wp2_with fail
          go_quiet (fail)
          go_wp2
          go_meet
          exact Below.drewN_ HB6.out _
      case rest =>
        have HBC := Lib.hid hcut
        clear hcut
        go_wp2
        go_loopw [9, 72] (fun sv iv wr => ∃ (m : Nat) (cur : List UInt8), m ≤ n ∧ iv = .int .u8 m ∧ sv = .string (S cur) ∧ cur.length = 4 * m ∧ Below wc.heap.size wc wr) (fun _ iv _ => n - (intOf iv).toNat)
        case atStart => exact ⟨0, [], Nat.zero_le _, rfl, rfl, rfl, Below.refl _ _⟩
        case round =>
          obtain ⟨m, cur, hm, rfl, rfl, hcl, hbw3⟩ := hrel
          by_cases hmn : m < n
          · have a1 := four_str c hc wr
            have a2 := fun W => run_string_add_sum (P := Tryz.prog) W (S cur) (S [120, UInt8.ofNat c, 121, 10]) (by rw [S_size, S_size, hcl]; simp; omega)
            have e4 : IntKind.u8.wrap ((m : Int) + 1) = (m : Int) + 1 := IntWalk.u8_in _ (by omega)
            have HBW3 := Lib.hid hbw3
            have HCL := Lib.hid hcl
            clear hbw3 hcl
            go_wp2
            go_roundw
            case rel => exact ⟨m + 1, cur ++ [120, UInt8.ofNat c, 121, 10], by omega, by go_num, by rw [S_app], by rw [List.length_append, HCL.out]; simp; omega, HBW3.out.alloc HBW3.out.size _⟩
            case measure => simp [intOf]; omega
          · obtain rfl : m = n := by omega
            obtain ⟨q, hq⟩ : ∃ q, q = splitS cur := ⟨_, rfl⟩
            have HB8 := Lib.hid (HBC.out.trans (hbw3.mono HBC.out.size))
            have k1 : Calls Tryz.prog 12 #[.string (S cur)] wr fun e W' => ∃ v d, e = .returned (.tuple #[v, d]) ∧ LD w W' q v d := by
              refine (text_Split (S cur) wr (HG.out.below HB8.out).glob (by rw [S_size]; omega)).mono ?_
              intro e W' h
              rw [S_data, ← hq] at h
              obtain ⟨v', d', h1, h2, _⟩ := LD.of HB8.out h
              exact ⟨v', d', h1, h2⟩
            have k2 : ∀ W v d, LD w W q v d → Calls Tryz.prog 14 #[.string (S cur)] W fun e W' => ∃ v' d', e = .returned (.tuple #[v', d']) ∧ LD w W' q v d ∧ LD w W' q v' d' := fun W v d hW => by
              refine (ref_Split (S cur) W (by rw [S_size]; omega)).mono ?_
              intro e W' h
              rw [S_data, ← hq] at h
              obtain ⟨v', d', rfl, h1, h2⟩ := LD.of hW.bel h
              exact ⟨v', d', rfl, hW.below h2, h1⟩
            have KA := Lib.hid k1
            have KB := Lib.hid k2
            have hmk3 := HMK.out
            clear k1 k2 hq hcl hbw3
            go_wp2_with (first
              | (go_at_call 12; with_reducible refine KA.out.mono ?_; rintro e5 w5 ⟨v5, d5, rfl, h5⟩; have H5 := Lib.hid h5; clear h5)
              | (go_at_call 14; refine (KB.out _ _ _ H5.out).mono ?_; rintro e6 w6 ⟨v6, d6, rfl, h6, h6'⟩; have H6 := Lib.hid h6; have H6' := Lib.hid h6'; clear h6 h6'))
            clear hmk3
            go_loopw [93] (fun i wr => ∃ k : Nat, k ≤ M ∧ i = .int .i64 k ∧ Below w6.heap.size w6 wr ∧ wr.rowIs w6.heap.size 5 M (fun j => if j < k then .int .u8 10 else .int .u8 0)) (fun i _ => M - (intOf i).toNat)
            case atStart => exact ⟨0, Nat.zero_le _, rfl, (Below.refl _ _).alloc (Nat.le_refl _) _, (World.rowIs_made w6 (.int .u8 0) M _).congr fun j _ => by simp⟩
            case round =>
              obtain ⟨g, hgk, rfl, hbw6, hrow⟩ := hrel
              have HBW6 := Lib.hid hbw6
              by_cases hgl : g < M
              · have y0 := hrow.cell hgl
                rw [if_neg (Nat.lt_irrefl g)] at y0
                have f0 := hrow.frozen g
                have e4 : IntKind.i64.wrap ((g : Int) + 1) = (g : Int) + 1 := IntWalk.i64_in _ (by have := HM.out; omega)
                have HROW := Lib.hid ((hrow.set g (.int .u8 10)).congr (g := fun j => if j < g + 1 then .int .u8 10 else .int .u8 0) fun j _ => by
                  by_cases h1 : j = g
                  · rw [if_pos h1, if_pos (by omega)]
                  · rw [if_neg h1]
                    by_cases h2 : j < g
                    · rw [if_pos h2, if_pos (by omega)]
                    · rw [if_neg h2, if_neg (by omega)])
                clear hrow hbw6
                go_wp2
                go_roundw
                case rel => exact ⟨g + 1, by omega, by go_num, Below.setCell HBW6.out (Nat.le_refl _) _, HROW.out⟩
                case measure => simp [intOf]; omega
              · obtain rfl : g = M := by omega
                have hMv := HM.out
                have hsl := row_sl (c := 10) (hrow.congr (g := fun _ => .int .u8 10) fun j hj => if_pos hj) (by unfold maxLen; omega)
                have hcv := run_string_of Tryz.underlying23 Tryz.underlying9 Tryz.underlying5 wr hsl
                have hld := H6.out.below HBW6.out
                have hld' := H6'.out.below HBW6.out
                have k1 : Calls Tryz.prog 12 #[.string (S (List.replicate g 10))] wr (SplitPost wr ([], [⟨1, 1, 9⟩])) := by
                  have := text_Split (S (List.replicate g 10)) wr (HG.out.below hld.bel).glob (by rw [S_size, List.length_replicate]; omega)
                  rw [S_data, splitS_big _ (by rw [List.length_replicate]; omega)] at this
                  exact this
                have KC := Lib.hid k1
                have HL6 := Lib.hid hld
                have HL6' := Lib.hid hld'
                clear hrow hbw6 k1 hsl hld hld' hMv
                go_wp2_with (first
                  | (go_at_call 12; refine KC.out.mono ?_; rintro e7 w7 ⟨v7, d7, rfl, hv7, hd7, hb7⟩; obtain ⟨A7, c7, rfl, hc7, hc72⟩ := hv7.shape; have HD7 := Lib.hid hd7; have H7 := Lib.hid (HL6.out.below hb7); have H7' := Lib.hid (HL6'.out.below hb7); clear hv7 hd7 hb7)
                  | (go_at_call 15; refine (law_sameLines q.1 _ _ _ _ _ H7.out.ln H7'.out.ln).mono ?_; rintro e8 w8 ⟨rfl, n8, hw8⟩; have hb8 : Below w7.heap.size w7 w8 := (by rw [hw8]; exact Below.drewN_ (Below.refl _ _) n8); have H8 := Lib.hid (H7.out.below hb8); have H8' := Lib.hid (H7'.out.below hb8); have HD8 := Lib.hid (HD7.out.keep elDia_good (Same.below hb8 fun b h => h.2) fun b h => (And.intro h.1 (Nat.lt_of_lt_of_le h.2 hb8.size) : _ ∧ b < w8.heap.size)); clear hw8 hb8)
                  | (go_at_call 13; have _t := tokD; refine (diags_one 1 1 9 HD9.out fun _ h => h.2).mono ?_; rintro e10 w10 ⟨rfl, hb10⟩; have HB10 := Lib.hid (HB9.out.trans (hb10.mono HB9.out.size)); clear hb10)
                  | (go_at_call 13; refine (law_sameDiags q.2 _ _ _ _ _ H8.out.di H8'.out.di).mono ?_; rintro e9 w9 ⟨rfl, n9, hw9⟩; have hb9 : Below w8.heap.size w8 w9 := (by rw [hw9]; exact Below.drewN_ (Below.refl _ _) n9); have HD9 := Lib.hid (HD8.out.keep elDia_good (Same.below hb9 fun b h => h.2) fun b h => (And.intro h.1 (Nat.lt_of_lt_of_le h.2 hb9.size) : _ ∧ b < w9.heap.size)); have HB9 := Lib.hid (H8.out.below hb9).bel; have tokD : True := trivial; clear hw9 hb9))
                go_ret
                exact ⟨rfl, HB10.out⟩
theorem law_Long (n : Nat) (hn : n < 256) (c : Nat) (hc : c < 256) (w : World) (hg : GlobN w) :
    Calls Tryz.prog 3 #[.int .u8 n, .int .u8 c] w fun e w' => e = .returned (.bool true) ∧ Below w.heap.size w w' := law_Long_ n c hn hc w hg
end Go.Proofs.YtdgejeiiiholnaaGreatDoor
