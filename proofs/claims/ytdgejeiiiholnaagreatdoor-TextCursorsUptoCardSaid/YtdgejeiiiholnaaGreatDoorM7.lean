/- The walk of TextCursors: both cursors answer alike, call by call; a nil cursor returns zero values. -/
import Derived.Test.YtdgejeiiiholnaaGreatDoorF18
import Derived.Test.YtdgejeiiiholnaaGreatDoorC6
import Derived.Test.YtdgejeiiiholnaaGreatDoorA2
import Derived.Test.YtdgejeiiiholnaaGreatDoorM2
set_option linter.unusedSimpArgs false
set_option linter.unusedVariables false
namespace Go.Proofs.YtdgejeiiiholnaaGreatDoor
open Go.RowKit

/-- A call as it came in. -/
structure Cll where
  k : Nat
  lo : Int
  hi : Int
  wd : List UInt8
def elCll (_ : World) (_ : Nat → Prop) (cs : List Value) (c : Cll) : Prop := cs = [.int .u8 c.k, .int .i64 c.lo, .int .i64 c.hi, .string (S c.wd)] ∧ c.k < 256
theorem elCll_good : Good elCll := ⟨fun h _ _ => h⟩
theorem calledA_fields (a : Cur) (k : Nat) (lo hi : Int) (wd : List UInt8) : (calledA a k lo hi wd).fields = a.fields := by
  have hr := fun q => Cur.read_fields a q
  have hf := fun (c : Cur) e col => (Cur.fail_left c e col).2
  unfold calledA
  repeat' split
  · exact hr false
  · unfold Cur.keyword; dsimp only; split
    · rw [hf]; exact hr false
    · exact hr false
  · exact (Cur.oneOf_left a _).2.2
  · unfold Cur.ident; split
    · dsimp only; rw [hf]; exact hr false
    · exact hr false
  · unfold Cur.intP; split
    · dsimp only; rw [hf]; exact hr false
    · exact hr false
  · exact hr true
  · unfold Cur.reject; split
    · rfl
    · exact hf _ _ _
  · rfl
/-- The lists of the calls that are left behind k. -/
def CurInv (w wr : World) (F F' : Nat → Prop) (ga gb : Nat) (fs : List Fld) : Prop := ∃ a b : Cur, Two w wr F F' ga gb a b ∧ Cur.sim a b ∧ a.fields = fs
def CloseV (d : Option Dia) (x y z : Int) (t : Bool) : Prop := closeV d = .tuple #[.agg #[.int .i64 x, .int .i64 y, .int .i64 z], .bool t]
theorem close_shape (d : Option Dia) : ∃ x y z t, CloseV d x y z t := by
  cases d with
  | none => exact ⟨0, 0, 0, false, rfl⟩
  | some d => exact ⟨_, _, _, true, rfl⟩
theorem two_at {w w1 wA wB : World} {x : Lin} {ga gb : Nat} (h1 : w.heap.size ≤ w1.heap.size) (hw : Below w.heap.size w w1)
    (hlA : w1.heap.size ≤ ga) (hcA : CurAt wA (fun b => w1.heap.size ≤ b ∧ b < wA.heap.size ∧ b ≠ ga) ga (Cur.start x)) (hbA : Below w1.heap.size w1 wA)
    (hlB : wA.heap.size ≤ gb) (hcB : RCurAt wB (fun b => wA.heap.size ≤ b ∧ b < wB.heap.size ∧ b ≠ gb) gb (Cur.start x)) (hbB : Below wA.heap.size wA wB) :
    Two w wB (fun b => w1.heap.size ≤ b ∧ b < wA.heap.size ∧ b ≠ ga) (fun b => wA.heap.size ≤ b ∧ b < wB.heap.size ∧ b ≠ gb) ga gb (Cur.start x) (Cur.start x) := by
  have hlt := hcA.lt
  have hs := hbA.size
  exact ⟨(hw.trans (hbA.mono h1)).trans (hbB.mono (by omega)), hcA.below hbB, hcB, by omega, by omega, by omega, fun h => by omega, fun h => by omega⟩
set_option maxRecDepth 100000 in
set_option maxHeartbeats 4000000 in
theorem law_Cursors (x : Lin) (xv : Value) (cl : List Cll) (cv : Value) (w : World) (hg : GlobN w) (hx : Sl 3 elFld w (· < w.heap.size) xv x.fields) (hc : Sl 4 elCll w (· < w.heap.size) cv cl)
    (hlen : x.fields.length ≤ 1000000000) (hft : ∀ f ∈ x.fields, f.text.length ≤ 1000000000) :
    Calls Tryz.prog 4 #[.agg #[.int .i64 x.num, xv], cv] w fun e w' => e = .returned (.bool true) ∧ Below w.heap.size w w' := by
  obtain ⟨A, c, rfl, hc1, hc2⟩ := hx.shape
  obtain ⟨B, d, rfl, hd1, hd2⟩ := hc.shape
  obtain ⟨w0, hw0⟩ : ∃ y, y = w.alloc (.cells #[.int .i64 x.num, .slice A x.fields.length c] 36) := ⟨_, rfl⟩
  have hb0 : Below w.heap.size w w0 := by rw [hw0]; exact Below.alloc (Below.refl _ _) (Nat.le_refl _) _
  have hk0 : Blk w0 w.heap.size 36 #[.int .i64 x.num, .slice A x.fields.length c] := by rw [hw0]; exact Blk.new w _ _
  have haw : Calls Tryz.prog 11 #[] w0 fun e w1 => e = .returned (.bool true) ∧ Below w.heap.size w w1 ∧ Blk w1 w.heap.size 36 #[.int .i64 x.num, .slice A x.fields.length c] := by
    refine (law03_awake w0 (hg.below hb0)).mono ?_
    rintro e w1 ⟨rfl, hb⟩
    exact ⟨rfl, hb0.trans (hb.mono hb0.size), hk0.below hb hk0.lt⟩
  rw [hw0] at haw
  have HAW := Lib.hid haw
  have HG := Lib.hid hg
  have HFT := Lib.hid hft
  have HX := Lib.hid hx
  have HC := Lib.hid hc
  have KAT := Lib.hid fun W (hW : Below w.heap.size w W) => text_At x (.slice A x.fields.length c) (· < w.heap.size) W (hx.keep elFld_good (Same.of_below hW) fun _ h => h) (fun b hb => Nat.lt_of_lt_of_le hb hW.size) hlen
  have KRT := Lib.hid fun W (hW : Below w.heap.size w W) => ref_At x (.slice A x.fields.length c) (· < w.heap.size) W (hx.keep elFld_good (Same.of_below hW) fun _ h => h) (fun b hb => Nat.lt_of_lt_of_le hb hW.size) hlen
  clear haw hk0 hb0 hw0 hg hft hx hc hlen
  go_enter Tryz.func4, Tryz.ntmps4
  go_wp2_with (go_at_call 11; refine HAW.out.mono ?_; rintro e w1 ⟨rfl, hb1, hk1⟩; have HB1 := Lib.hid hb1; have HK1 := Lib.hid hk1; clear hb1 hk1)
  obtain ⟨g, hg⟩ : ∃ g, g = w.heap.size := ⟨_, rfl⟩
  rw [← hg] at HK1 ⊢
  clear hg
  have y0 : w1.cell? ⟨g, 0, none⟩ = some (.int .i64 x.num) := HK1.out.cell 0
  have y1 : w1.cell? ⟨g, 1, none⟩ = some (.slice A x.fields.length c) := HK1.out.cell 1
  go_region_held3 (fun w' => w'.cell? ⟨g, 0, none⟩ = some (.int .i64 x.num) ∧ w'.cell? ⟨g, 1, none⟩ = some (.slice A x.fields.length c)) (first | exact ⟨y0, y1⟩ | go_keep) (first
    | (go_at_call 16; refine (KAT.out _ (Below.drew HB1.out)).mono ?_; rintro e wA ⟨ga, rfl, hlA, hcA, hbA⟩; have hkA := Blk.below (w := w1.drew) HK1.out hbA HK1.out.lt; have y0 : wA.cell? ⟨g, 0, none⟩ = some (.int .i64 x.num) := hkA.cell 0; have y1 : wA.cell? ⟨g, 1, none⟩ = some (.slice A x.fields.length c) := hkA.cell 1; have HKA := Lib.hid hkA; have HLA := Lib.hid hlA; have HCA := Lib.hid hcA; have HBA := Lib.hid hbA; clear hkA hlA hcA hbA)
    | (go_at_call 17; refine (KRT.out _ ((Below.drew HB1.out).trans (HBA.out.mono (Below.drew HB1.out).size))).mono ?_; rintro e wB ⟨gb, rfl, hlB, hcB, hbB⟩; have hkB := HKA.out.below hbB HKA.out.lt; have y0 : wB.cell? ⟨g, 0, none⟩ = some (.int .i64 x.num) := hkB.cell 0; have y1 : wB.cell? ⟨g, 1, none⟩ = some (.slice A x.fields.length c) := hkB.cell 1; have HLB := Lib.hid hlB; have HCB := Lib.hid hcB; have HBB := Lib.hid hbB; clear hkB hlB hcB hbB))
  obtain ⟨F, F', tw0⟩ : ∃ F F', Two w wB F F' ga gb (Cur.start x) (Cur.start x) := ⟨_, _, two_at (w1 := w1.drew) (Below.drew HB1.out).size (Below.drew HB1.out) HLA.out HCA.out HBA.out HLB.out HCB.out HBB.out⟩
  have TW0 := Lib.hid tw0
  clear tw0 HLA HCA HBA HLB HCB HBB HKA y0 y1 HK1
  go_wp2
  go_loopw [24] (fun i wr => ∃ k : Nat, k ≤ 20 ∧ k ≤ cl.length ∧ i = .int .i64 k ∧ CurInv w wr F F' ga gb x.fields) (fun i _ => 20 - (intOf i).toNat)
  case atStart => exact ⟨0, by omega, Nat.zero_le _, rfl, _, _, TW0.out, Cur.sim.refl _, rfl⟩
  case round =>
    obtain ⟨k, hk20, hk, rfl, a, b, tw, hsm, hfs⟩ := hrel
    have TW := Lib.hid tw
    have HSM := Lib.hid hsm
    have HFS := Lib.hid hfs
    clear hsm hfs TW0
    by_cases hlt : k < cl.length
    · obtain ⟨bb, o, cs, rfl, hbb, hcl, hcell, hel, hk256⟩ := HC.out.at hlt
      obtain ⟨⟨ck, clo, chi, cwd⟩, hce⟩ : ∃ e, e = cl[k] := ⟨_, rfl⟩
      rw [← hce] at hel hk256
      dsimp only at hel hk256
      subst hel
      have z0 := (tw.bel.cell (p := ⟨bb, o + k * 4 + 0, none⟩) hbb).trans (hcell 0 _ rfl)
      have z1 := (tw.bel.cell (p := ⟨bb, o + k * 4 + 1, none⟩) hbb).trans (hcell 1 _ rfl)
      have z2 := (tw.bel.cell (p := ⟨bb, o + k * 4 + 2, none⟩) hbb).trans (hcell 2 _ rfl)
      have z3 := (tw.bel.cell (p := ⟨bb, o + k * 4 + 3, none⟩) hbb).trans (hcell 3 _ rfl)
      rw [Nat.add_zero] at z0
      clear hcell hcl hce tw
      by_cases h20 : k < 20
      · obtain ⟨a2, ha2⟩ : ∃ a2, a2 = calledA a (ck % 8) clo chi cwd := ⟨_, rfl⟩
        obtain ⟨b2, hb2⟩ : ∃ b2, b2 = calledB b (ck % 8) clo chi cwd := ⟨_, rfl⟩
        have hs2 := called_sim HSM.out (ck % 8) clo chi cwd
        have hf2 : a2.fields = x.fields := by rw [ha2, calledA_fields]; exact HFS.out
        rw [← ha2, ← hb2] at hs2
        obtain ⟨cx, cy, cz, ct, hcv⟩ := close_shape a2.close
        have hcv2 : closeV b2.close = .tuple #[.agg #[.int .i64 cx, .int .i64 cy, .int .i64 cz], .bool ct] := by rw [← hs2.close]; exact hcv
        obtain ⟨m, hm⟩ : ∃ m, m = a2.more := ⟨_, rfl⟩
        have hm2 : b2.more = m := by rw [hm, hs2.more]
        have KC := Lib.hid fun W (hW : Two w W F F' ga gb a b) => law_called a b ck hk256 clo chi (S cwd) F F' ga gb w W hW HSM.out HG.out (by rw [HFS.out]; exact HFT.out)
        rw [S_data, ← ha2, ← hb2] at KC
        have kma : ∀ W, Two w W F F' ga gb a2 b2 → Calls Tryz.prog 19 #[.pointer (some ⟨ga, 0, none⟩)] W fun e W' => e = .returned (.bool m) ∧ Two w W' F F' ga gb a2 b2 := fun W hW => by
          refine (cur_More a2 F ga W hW.ca).mono ?_
          rintro e W' ⟨rfl, n, rfl⟩
          rw [hm]
          exact ⟨rfl, hW.drewN n⟩
        have kmb : ∀ W, Two w W F F' ga gb a2 b2 → Calls Tryz.prog 20 #[.pointer (some ⟨gb, 0, none⟩)] W fun e W' => e = .returned (.bool m) ∧ Two w W' F F' ga gb a2 b2 := fun W hW => by
          refine (rcur_More b2 F' gb W hW.rb).mono ?_
          rintro e W' ⟨rfl, n, rfl⟩
          rw [hm2]
          exact ⟨rfl, hW.drewN n⟩
        have kca : ∀ W, Two w W F F' ga gb a2 b2 → Calls Tryz.prog 21 #[.pointer (some ⟨ga, 0, none⟩)] W fun e W' => e = .returned (.tuple #[.agg #[.int .i64 cx, .int .i64 cy, .int .i64 cz], .bool ct]) ∧ Two w W' F F' ga gb a2 b2 := fun W hW => by
          refine (cur_Close a2 F ga W hW.ca).mono ?_
          rintro e W' ⟨rfl, hb⟩
          rw [show closeV a2.close = _ from hcv]
          exact ⟨rfl, hW.below hb⟩
        have kcb : ∀ W, Two w W F F' ga gb a2 b2 → Calls Tryz.prog 22 #[.pointer (some ⟨gb, 0, none⟩)] W fun e W' => e = .returned (.tuple #[.agg #[.int .i64 cx, .int .i64 cy, .int .i64 cz], .bool ct]) ∧ Two w W' F F' ga gb a2 b2 ∧ Below W.heap.size W W' := fun W hW => by
          refine (rcur_Close b2 F' gb W hW.rb).mono ?_
          rintro e W' ⟨rfl, hb⟩
          rw [hcv2]
          exact ⟨rfl, hW.below hb, hb⟩
        have KMA := Lib.hid kma
        have KMB := Lib.hid kmb
        have KCA := Lib.hid kca
        have KCB := Lib.hid kcb
        have HS2 := Lib.hid hs2
        have HF2 := Lib.hid hf2
        clear kma kmb kca kcb hs2 hf2 hcv hcv2 hm hm2 ha2 hb2
        cases m <;> cases ct
        all_goals
          go_wp2_with (first
            | (go_at_call 18; refine (KC.out _ (TW.out.alloc _)).mono ?_; rintro e w2 ⟨rfl, h2⟩; have H2 := Lib.hid h2; clear h2)
            | (go_at_call 19; refine (KMA.out _ H2.out).mono ?_; rintro e w3 ⟨rfl, h3⟩; have H3 := Lib.hid h3; clear h3)
            | (go_at_call 20; refine (KMB.out _ H3.out).mono ?_; rintro e w4 ⟨rfl, h4⟩; have H4 := Lib.hid h4; clear h4)
            | (go_at_call 21; refine (KCA.out _ H4.out).mono ?_; rintro e w5 ⟨rfl, h5⟩; have H5 := Lib.hid (h5.alloc (.cells #[.int .i64 cx, .int .i64 cy, .int .i64 cz] 31)); have hk5 := Blk.new w5 31 #[.int .i64 cx, .int .i64 cy, .int .i64 cz]; have HK5 := Lib.hid hk5; clear h5 hk5)
            | (go_at_call 22; refine (KCB.out _ H5.out).mono ?_; rintro e w6 ⟨rfl, h6, hb6⟩; have hk6 := (HK5.out.below hb6 HK5.out.lt).alloc (.cells #[.int .i64 cx, .int .i64 cy, .int .i64 cz] 31); obtain ⟨v0, v1, v2, _⟩ := hk6.three; have H6 := Lib.hid (h6.alloc (.cells #[.int .i64 cx, .int .i64 cy, .int .i64 cz] 31)); clear h6 hk6 hb6))
          go_roundw
          case rel => exact ⟨k + 1, by omega, by omega, by go_num, a2, b2, H6.out, HS2.out, HF2.out⟩
          case measure => simp [intOf]; omega
      · have hb9 := TW.out.bel
        have HB9 := Lib.hid hb9
        clear hb9 TW HSM HFS
        go_wp2_with (first
          | (go_at_call 23; refine (nil_Reject _ _).mono ?_; rintro e v1 ⟨rfl, hv⟩; have V1 := Lib.hid (((HB9.out.alloc HB9.out.size (.cells #[.int .u8 ck, .int .i64 clo, .int .i64 chi, .string (S cwd)] 45))).trans (hv.mono ((HB9.out.alloc HB9.out.size (.cells #[.int .u8 ck, .int .i64 clo, .int .i64 chi, .string (S cwd)] 45))).size)); clear hv)
          | (go_at_call 21; refine (nil_Close _).mono ?_; rintro e v2 ⟨rfl, hv⟩; have V2 := Lib.hid ((V1.out.trans (hv.mono V1.out.size)).alloc (by have := V1.out.size; have := hv.size; omega) (.cells #[.int .i64 0, .int .i64 0, .int .i64 0] 31)); have n2 := Blk.new v2 31 #[.int .i64 0, .int .i64 0, .int .i64 0]; have N2 := Lib.hid n2; clear hv n2)
          | (go_at_call 19; refine (nil_More _).mono ?_; rintro e v3 ⟨rfl, hv⟩; have V3 := Lib.hid (V2.out.trans (hv.mono V2.out.size)); have N3 := Lib.hid (N2.out.below hv N2.out.lt); clear hv)
          | (go_at_call 24; refine (nil_Word _).mono ?_; rintro e v4 ⟨rfl, hv⟩; have V4 := Lib.hid (V3.out.trans (hv.mono V3.out.size)); have N4 := Lib.hid (N3.out.below hv N3.out.lt); clear hv)
          | (go_at_call 25; refine (nil_Keyword _ _).mono ?_; rintro e v5 ⟨rfl, hv⟩; have V5 := Lib.hid ((V4.out.trans (hv.mono V4.out.size)).alloc (by have := V4.out.size; have := hv.size; omega) (.cells #[.string ⟨#[]⟩] 9)); have N5 := Lib.hid ((N4.out.below hv N4.out.lt).alloc (.cells #[.string ⟨#[]⟩] 9)); clear hv)
          | (go_at_call 26; refine (nil_OneOf _ _).mono ?_; rintro e v6 ⟨rfl, hv⟩; have V6 := Lib.hid (V5.out.trans (hv.mono V5.out.size)); have N6 := Lib.hid (N5.out.below hv N5.out.lt); clear hv)
          | (go_at_call 27; refine (nil_Ident _).mono ?_; rintro e v7 ⟨rfl, hv⟩; have V7 := Lib.hid (V6.out.trans (hv.mono V6.out.size)); have N7 := Lib.hid (N6.out.below hv N6.out.lt); clear hv)
          | (go_at_call 28; refine (nil_Int _ _ _).mono ?_; rintro e v8 ⟨rfl, hv⟩; have V8 := Lib.hid (V7.out.trans (hv.mono V7.out.size)); have N8 := Lib.hid (N7.out.below hv N7.out.lt); clear hv)
          | (go_at_call 29; refine (nil_String _).mono ?_; rintro e v9 ⟨rfl, hv⟩; have n9 := N8.out.below hv N8.out.lt; obtain ⟨n90, n91, n92, _⟩ := n9.three; have V9 := Lib.hid (V8.out.trans (hv.mono V8.out.size)); clear hv n9))
        go_ret
        exact ⟨rfl, V9.out⟩
    · have hb9 := TW.out.bel
      have HB9 := Lib.hid hb9
      clear hb9 TW HSM HFS
      go_wp2_with (first
        | (go_at_call 23; refine (nil_Reject _ _).mono ?_; rintro e v1 ⟨rfl, hv⟩; have V1 := Lib.hid (HB9.out.trans (hv.mono HB9.out.size)); clear hv)
        | (go_at_call 21; refine (nil_Close _).mono ?_; rintro e v2 ⟨rfl, hv⟩; have V2 := Lib.hid ((V1.out.trans (hv.mono V1.out.size)).alloc (by have := V1.out.size; have := hv.size; omega) (.cells #[.int .i64 0, .int .i64 0, .int .i64 0] 31)); have n2 := Blk.new v2 31 #[.int .i64 0, .int .i64 0, .int .i64 0]; have N2 := Lib.hid n2; clear hv n2)
        | (go_at_call 19; refine (nil_More _).mono ?_; rintro e v3 ⟨rfl, hv⟩; have V3 := Lib.hid (V2.out.trans (hv.mono V2.out.size)); have N3 := Lib.hid (N2.out.below hv N2.out.lt); clear hv)
        | (go_at_call 24; refine (nil_Word _).mono ?_; rintro e v4 ⟨rfl, hv⟩; have V4 := Lib.hid (V3.out.trans (hv.mono V3.out.size)); have N4 := Lib.hid (N3.out.below hv N3.out.lt); clear hv)
        | (go_at_call 25; refine (nil_Keyword _ _).mono ?_; rintro e v5 ⟨rfl, hv⟩; have V5 := Lib.hid ((V4.out.trans (hv.mono V4.out.size)).alloc (by have := V4.out.size; have := hv.size; omega) (.cells #[.string ⟨#[]⟩] 9)); have N5 := Lib.hid ((N4.out.below hv N4.out.lt).alloc (.cells #[.string ⟨#[]⟩] 9)); clear hv)
        | (go_at_call 26; refine (nil_OneOf _ _).mono ?_; rintro e v6 ⟨rfl, hv⟩; have V6 := Lib.hid (V5.out.trans (hv.mono V5.out.size)); have N6 := Lib.hid (N5.out.below hv N5.out.lt); clear hv)
        | (go_at_call 27; refine (nil_Ident _).mono ?_; rintro e v7 ⟨rfl, hv⟩; have V7 := Lib.hid (V6.out.trans (hv.mono V6.out.size)); have N7 := Lib.hid (N6.out.below hv N6.out.lt); clear hv)
        | (go_at_call 28; refine (nil_Int _ _ _).mono ?_; rintro e v8 ⟨rfl, hv⟩; have V8 := Lib.hid (V7.out.trans (hv.mono V7.out.size)); have N8 := Lib.hid (N7.out.below hv N7.out.lt); clear hv)
        | (go_at_call 29; refine (nil_String _).mono ?_; rintro e v9 ⟨rfl, hv⟩; have n9 := N8.out.below hv N8.out.lt; obtain ⟨n90, n91, n92, _⟩ := n9.three; have V9 := Lib.hid (V8.out.trans (hv.mono V8.out.size)); clear hv n9))
      go_ret
      exact ⟨rfl, V9.out⟩
end Go.Proofs.YtdgejeiiiholnaaGreatDoor
