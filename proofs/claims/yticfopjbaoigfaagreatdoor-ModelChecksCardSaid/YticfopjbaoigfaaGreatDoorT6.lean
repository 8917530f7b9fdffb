/- The contract of text.Split. Condition: the world holds the library's variables. -/
import Derived.Test.YticfopjbaoigfaaGreatDoorT4
import Derived.Test.YticfopjbaoigfaaGreatDoorG
import Derived.Test.YticfopjbaoigfaaGreatDoorPP
set_option linter.unusedSimpArgs false
set_option linter.unusedVariables false
namespace Go.Proofs.YticfopjbaoigfaaGreatDoor
open Go.RowKit

/-- What a function that hands back one slice of strings leaves. -/
def StrsPost (w : World) (l : List (List UInt8)) (e : Ending) (w' : World) : Prop :=
  ∃ v, e = .returned v ∧ Sl 1 elStr w' (fun b => w.heap.size ≤ b ∧ b < w'.heap.size) v l ∧ Below w.heap.size w w'
theorem str_Split (c : UInt8) (s : ByteArray) (w : World) (hg : Glob w) (hs : s.size < 4294967281) :
    Calls Tryz.prog 56 #[.string s, .string ⟨#[c]⟩] w (StrsPost w (pieces c s.data.toList)) := by
  refine (Tryz.strings_Split_shaped s ⟨#[c]⟩ w hg.shaped hs (Nat.le_refl 1)).mono ?_
  rintro e w' ⟨rfl, rfl⟩
  have hp := splitB_pieces c _ s rfl
  have hlen := Lib.splitB_all ⟨#[c]⟩ (Nat.le_refl 1) 0 _ s rfl
  have hcnt := Lib.countB_le ⟨#[c]⟩ (Nat.le_refl 1) _ s (Nat.le_refl _)
  generalize Lib.splitB ⟨#[c]⟩ 0 (Lib.countB s ⟨#[c]⟩) s = l at *
  refine ⟨_, rfl, ?_, (Below.refl _ _).alloc (Nat.le_refl _) _⟩
  rw [← hp, ← hlen]
  have hlm : (l.map (·.data.toList)).length = l.length := by simp
  refine ⟨_, l.length, by rw [hlm], by simp, by unfold maxLen; omega, fun h0 => ⟨w.heap.size, 0, rfl, by simp, fun i a hi => ?_⟩⟩
  rw [List.getElem?_map] at hi
  obtain ⟨b, hb, rfl⟩ := Option.map_eq_some_iff.1 hi
  refine ⟨[.string b], rfl, fun j u hu => ?_, rfl⟩
  have hj : j = 0 := by have := (List.getElem?_eq_some_iff.1 hu).1; simp at this; exact this
  subst hj
  simp at hu; subst hu
  have := cells_new w (l.map Value.string) 9 (0, 0) i (.string b) (by simp [hb])
  have hadd : (⟨w.heap.size, 0, none⟩ : Addr).add i = ⟨w.heap.size, i, none⟩ := by unfold Addr.add; split <;> simp_all
  rw [hadd] at this
  rw [Nat.zero_add, Nat.mul_one, Nat.add_zero]; exact this

/-- What a function that hands back lines and diagnostics leaves. -/
def SplitPost (w : World) (q : List Lin × List Dia) (e : Ending) (w' : World) : Prop :=
  ∃ v d, e = .returned (.tuple #[v, d]) ∧ Sl 2 elLin w' (fun b => w.heap.size ≤ b ∧ b < w'.heap.size) v q.1 ∧ Sl 3 elDia w' (fun b => w.heap.size ≤ b ∧ b < w'.heap.size) d q.2 ∧ Below w.heap.size w w'
theorem split_done {w w' : World} {q : List Lin × List Dia} {v d : Value} (h1 : Sl 2 elLin w' (fun b => w.heap.size ≤ b ∧ b < w'.heap.size) v q.1) (h2 : Sl 3 elDia w' (fun b => w.heap.size ≤ b ∧ b < w'.heap.size) d q.2) (hb : Below w.heap.size w w') :
    SplitPost w q (.returned (.tuple #[v, d])) w' := ⟨v, d, rfl, h1, h2, hb⟩

/-- The loop's two rows. -/
def lineG (base : Nat) (w : World) (v d : Value) : Nat → Prop := fun b => base ≤ b ∧ b < w.heap.size ∧ v.ownBlock ≠ some b ∧ d.ownBlock ≠ some b
structure SplitInv (base : Nat) (w1 w : World) (v d : Value) (out : List Lin) (ds : List Dia) : Prop where
  hv : OwnG 2 elLin 78 base w v (lineG base w v d) out
  hd : OwnSl 3 elDia 52 base w d ds
  hb : Below base w1 w
  hz : base ≤ w.heap.size
section
variable {base : Nat} {w1 w w' : World} {v d v' d' : Value} {out : List Lin} {ds : List Dia}
theorem SplitInv.below (h : SplitInv base w1 w v d out ds) (hb : Below w.heap.size w w') : SplitInv base w1 w' v d out ds :=
  ⟨h.hv.keep elLin_good (Same.below hb fun b hb => hb.2.1) (fun b ⟨a1, a2, a3, a4⟩ => ⟨a1, Nat.lt_of_lt_of_le a2 hb.size, a3, a4⟩) fun b hv => hb.block b (h.hv.block b hv).2,
   h.hd.below elDia_good hb, h.hb.trans (hb.mono h.hz), Nat.le_trans h.hz hb.size⟩
theorem SplitInv.line {x : Lin} (h : SplitInv base w1 w v d out ds) (ho : OwnG 2 elLin 78 base w' v' (lineG base w v d) (out ++ [x])) (hg : w.grownBy w' v.ownBlock) (hat : v'.ownBlock = v.ownBlock ∨ v'.ownBlock = some w.heap.size) :
    SplitInv base w1 w' v' d (out ++ [x]) ds := by
  have hap := h.hv.apart h.hd (by decide)
  refine ⟨ho.keep elLin_good (Same.refl _ _) (fun b ⟨a1, a2, a3, a4⟩ => ⟨a1, Nat.lt_of_lt_of_le a2 hg.size, ?_, a4⟩) (fun _ _ => rfl), h.hd.grown elDia_good hg fun b hb e => hap b e hb, below_own h.hb h.hv hg (Nat.le_refl _) h.hz, Nat.le_trans h.hz hg.size⟩
  rcases hat with e | e <;> rw [e]
  · exact a3
  · intro e'; injection e' with e'; omega
theorem SplitInv.diag {x : Dia} (h : SplitInv base w1 w v d out ds) (ho : OwnSl 3 elDia 52 base w' d' (ds ++ [x])) (hg : w.grownBy w' d.ownBlock) (hat : d'.ownBlock = d.ownBlock ∨ d'.ownBlock = some w.heap.size) :
    SplitInv base w1 w' v d' out (ds ++ [x]) := by
  have hap := h.hv.apart h.hd (by decide)
  refine ⟨h.hv.keep elLin_good (Same.grown hg fun b hb => ⟨hb.2.1, fun e => hb.2.2.2 e.symm⟩) (fun b ⟨a1, a2, a3, a4⟩ => ⟨a1, Nat.lt_of_lt_of_le a2 hg.size, a3, ?_⟩) fun b hb => hg.block b (h.hv.block b hb).2 fun e => hap b hb e.symm, ho, below_own h.hb h.hd hg (Nat.le_refl _) h.hz, Nat.le_trans h.hz hg.size⟩
  rcases hat with e | e <;> rw [e]
  · exact a4
  · intro e'; injection e' with e'; omega
/-- The fields of a new line, as an element of the row of lines. -/
theorem SplitInv.fields_el {w2 : World} {A : Option Addr} {n c : Nat} {x : Int} {fl : List Fld} (h : SplitInv base w1 w v d out ds) (hb : Below w.heap.size w w2) (hv : Sl 3 elFld w2 (fun b => w.heap.size ≤ b ∧ b < w2.heap.size) (.slice A n c) fl) (o : Obj) :
    elLin (w2.alloc o) (lineG base (w2.alloc o) v d) [.int .i64 x, .slice A n c] ⟨x, fl⟩ := by
  refine ⟨_, rfl, hv.keep elFld_good (Same.below ((Below.refl w2.heap.size w2).alloc (Nat.le_refl _) o) fun b hb => hb.2) fun b ⟨h1, h2⟩ => ⟨by have := h.hz; omega, by simp; omega, fun e => ?_, fun e => ?_⟩⟩
  · have := (h.hv.block b e).2; omega
  · have := (OwnSl.block h.hd b e).2; omega
end

set_option maxRecDepth 100000 in
set_option maxHeartbeats 2000000 in
theorem text_Split (s : ByteArray) (w : World) (hg : Glob w) (hs : s.size ≤ 140737488351232) :
    Calls Tryz.prog 47 #[.string s] w (SplitPost w (splitS s.data.toList)) := by
  obtain ⟨q, hq⟩ : ∃ q, q = splitS s.data.toList := ⟨_, rfl⟩
  rw [← hq]
  have HQ := Lib.hid hq
  clear hq
  have HG := Lib.hid hg
  clear hg
  have hL : s.data.toList.length = s.size := by simp
  have HL := Lib.hid hL
  clear hL
  go_enter Tryz.func47, Tryz.ntmps47
  by_cases hbig : (262144 : Int) < (s.size : Int)
  · go_wp2
    go_ret2
    refine split_done (by rw [HQ.out, splitS, if_pos (by rw [HL.out]; omega)]; exact Sl.nil _ _) ?_ ((Below.refl _ _).alloc (Nat.le_refl _) _)
    rw [HQ.out, splitS, if_pos (by rw [HL.out]; omega)]
    exact Sl.fresh1 w _ [.int .i64 1, .int .i64 1, .int .i64 9] _ _ rfl (by simp) rfl
  · have HP := Lib.hid (pieces_len 10 s.data.toList)
    obtain ⟨ps, hps⟩ : ∃ ps, ps = pieces 10 s.data.toList := ⟨_, rfl⟩
    have hpl : ps.length ≤ 300000 := by have := HP.out; rw [← hps, HL.out] at this; omega
    have HPS := Lib.hid hps
    have hcs : Calls Tryz.prog 56 #[.string s, .string ⟨#[10]⟩] w (StrsPost w ps) := by rw [hps]; exact str_Split 10 s w HG.out (by omega)
    have HCS := Lib.hid hcs
    clear hcs hps
    go_wp2_with (go_at_call 56; refine HCS.out.mono ?_; rintro e w1 ⟨v1, rfl, hv1, hb1⟩; obtain ⟨A1, c1, rfl, hc1, hc2⟩ := hv1.shape)
    have HV1 := Lib.hid hv1
    clear hv1
    have hs1 := hb1.size
    go_loopw [4, 5, 19] (fun v d i wr => ∃ (k : Nat) (out : List Lin) (ds : List Dia), k ≤ ps.length ∧ i = .int .i64 k ∧ SplitInv w1.heap.size w1 wr v d out ds ∧ out.length ≤ k ∧ ds.length ≤ k ∧ Hid (splitF (ps.drop k) ((k : Int) + 1) out ds = q))
      (fun _ _ i _ => ps.length - (intOf i).toNat)
    case atStart => exact ⟨0, [], [], Nat.zero_le _, rfl, ⟨OwnG.nil _, OwnSl.nil _, Below.refl _ _, Nat.le_refl _⟩, by simp, by simp, by unfold Hid; rw [HQ.out, splitS, if_neg (by rw [HL.out]; omega), ← HPS.out]; rfl⟩
    case round =>
      obtain ⟨k, out, ds, hk, rfl, hinv, hout, hds, hqk⟩ := hrel
      by_cases hlt : k < ps.length
      · obtain ⟨b, o, rfl, hF, hcu⟩ := HV1.out.str_at hlt
        have hcell : wr.cell? ⟨b, o + k, none⟩ = some (.string (S ps[k])) := (hinv.hb.cell (p := ⟨b, o + k, none⟩) hF.2).trans hcu
        have hdr := drop_get hlt
        have hcf := fun W (h : ps[k].length ≤ 1000) => text_fields (S ps[k]) W (by simp; omega)
        have hqk' := hqk.out
        rw [hdr, splitF] at hqk'
        obtain ⟨p, hp⟩ : ∃ p, p = ps[k] := ⟨_, rfl⟩
        rw [← hp] at hcell hcf hqk'
        clear hdr hqk hp hcu
        obtain ⟨⟨fl, col⟩, hfc⟩ : ∃ fc, fc = fieldsS p := ⟨_, rfl⟩
        rw [S_data, ← hfc] at hcf
        rw [← hfc] at hqk'
        have hfl := fieldsS_len p
        rw [← hfc] at hfl
        clear hfc
        have HQK := Lib.hid hqk'
        have HCF := Lib.hid hcf
        clear hqk' hcf
        obtain ⟨Ad, cd, hvd, hcd, hcd'⟩ := (OwnSl.sl elDia_good hinv.hd).shape
        subst hvd
        by_cases hbigl : (p.length : Int) ≤ 1000
        · by_cases hcol : col = 0
          · subst hcol
            cases fl with
            | nil =>
              go_wp2_with (go_at_call 65; refine (HCF.out _ (by omega)).mono ?_; rintro e w2 ⟨v2, rfl, hv2, hb2⟩; obtain ⟨A2, c2, rfl, hc2, hc2'⟩ := hv2.shape)
              go_roundw
              case rel => exact ⟨k + 1, out, ds, by omega, by go_num, hinv.below hb2, by omega, by omega, by unfold Hid; rw [← HQK.out, if_neg (by omega), if_neg (by simp), if_neg (by simp)]; rfl⟩
              case measure => simp [intOf]; omega
            | cons f0 fl =>
              obtain ⟨fl', hfl'⟩ : ∃ fl', fl' = f0 :: fl := ⟨_, rfl⟩
              rw [← hfl'] at HCF HQK hfl
              have hfp : (0 : Int) < (fl'.length : Int) := by rw [hfl']; simp
              have hne : fl' ≠ [] := by rw [hfl']; simp
              have HNE := Lib.hid hne
              clear hfl' hne
              go_wp2_with (first | (go_at_call 65; refine (HCF.out _ (by omega)).mono ?_; rintro e w2 ⟨v2, rfl, hv2, hb2⟩; obtain ⟨A2, c2, rfl, hc2, hc2'⟩ := hv2.shape) | (at_builtin; refine wpList_append_g _ rfl (.tmp 56) (.tmp 61) _ rfl E_lin elLin_good w1.heap.size _ (lineG w1.heap.size (w2.alloc _) _ _) out rfl ((hinv.below hb2).below ((Below.refl _ _).alloc (Nat.le_refl _) _)).hv ⟨w2.heap.size, 0, none⟩ 1 [.int .i64 ((k : Int) + 1), .slice A2 fl'.length c2] rfl ⟨(k : Int) + 1, fl'⟩ rfl (cells_new _ _ _ _) (oneCells rfl) (fun b hb => ⟨hb.2.1, hb.2.2.1⟩) (hinv.fields_el hb2 hv2 _) (by simp only [maxLen]; omega) (by omega) (by have := hinv.hz; have := hb2.size; simp; omega) ?_; intro v4 w4 hown4 hg4 hat4))
              have hi4 := ((hinv.below hb2).below ((Below.refl _ _).alloc (Nat.le_refl _) _)).line hown4 hg4 hat4
              go_roundw
              case rel => exact ⟨k + 1, _, ds, by omega, by go_num, hi4, by simp; omega, by omega, by unfold Hid; rw [← HQK.out, if_neg (by omega), if_neg (by simp), if_pos HNE.out]; rfl⟩
              case measure => simp [intOf]; omega
          · have hcol0 : (0 : Int) < (col : Int) := by omega
            have hcoln : ((col : Int) == 0) = false := beq_eq_false_iff_ne.2 (by omega)
            have HC := Lib.hid hcol
            clear hcol
            by_cases h50 : (ds.length : Int) < 50
            · go_wp2_with (first | (go_at_call 65; refine (HCF.out _ (by omega)).mono ?_; rintro e w2 ⟨v2, rfl, hv2, hb2⟩; obtain ⟨A2, c2, rfl, hc2, hc2'⟩ := hv2.shape) | (at_builtin; refine wpList_append_sl _ rfl (.tmp 40) (.tmp 46) _ rfl E_dia elDia_good w1.heap.size _ ds rfl ((hinv.below hb2).hd.alloc elDia_good _) ⟨w2.heap.size, 0, none⟩ 1 [.int .i64 ((k : Int) + 1), .int .i64 (col : Int), .int .i64 4] rfl ⟨(k : Int) + 1, (col : Int), 4⟩ rfl (cells_new _ _ _ _) (oneCells rfl) rfl (by simp only [maxLen]; omega) (by omega) (by have := hinv.hz; have := hb2.size; simp; omega) ?_; intro v4 w4 hown4 hg4 hat4))
              have hi4 := ((hinv.below hb2).below ((Below.refl _ _).alloc (Nat.le_refl _) _)).diag hown4 hg4 hat4
              go_roundw
              case rel => exact ⟨k + 1, out, _, by omega, by go_num, hi4, by omega, by simp; omega, by unfold Hid; rw [← HQK.out, if_neg (by omega), if_pos HC.out, if_pos (by omega)]; rfl⟩
              case measure => simp [intOf]; omega
            · go_wp2_with (go_at_call 65; refine (HCF.out _ (by omega)).mono ?_; rintro e w2 ⟨v2, rfl, hv2, hb2⟩; obtain ⟨A2, c2, rfl, hc2, hc2'⟩ := hv2.shape)
              go_roundw
              case rel => exact ⟨k + 1, out, ds, by omega, by go_num, hinv.below hb2, by omega, by omega, by unfold Hid; rw [← HQK.out, if_neg (by omega), if_pos HC.out, if_neg (by omega)]; rfl⟩
              case measure => simp [intOf]; omega
        · by_cases h50 : (ds.length : Int) < 50
          · go_wp2_with (at_builtin; refine wpList_append_sl _ rfl (.tmp 40) (.tmp 46) _ rfl E_dia elDia_good w1.heap.size _ ds rfl (hinv.hd.alloc elDia_good _) ⟨wr.heap.size, 0, none⟩ 1 [.int .i64 ((k : Int) + 1), .int .i64 1001, .int .i64 9] rfl ⟨(k : Int) + 1, 1001, 9⟩ rfl (cells_new _ _ _ _) (oneCells rfl) rfl (by simp only [maxLen]; omega) (by omega) (by have := hinv.hz; simp; omega) ?_; intro v4 w4 hown4 hg4 hat4)
            have hi4 := (hinv.below ((Below.refl _ _).alloc (Nat.le_refl _) _)).diag hown4 hg4 hat4
            go_roundw
            case rel => exact ⟨k + 1, out, _, by omega, by go_num, hi4, by omega, by simp; omega, by unfold Hid; rw [← HQK.out, if_pos (by omega), if_pos (by omega)]; rfl⟩
            case measure => simp [intOf]; omega
          · go_wp2
            go_roundw
            case rel => exact ⟨k + 1, out, ds, by omega, by go_num, hinv, by omega, by omega, by unfold Hid; rw [← HQK.out, if_pos (by omega), if_neg (by omega)]; rfl⟩
            case measure => simp [intOf]; omega
      · go_wp2
        go_ret2
        have hz := hinv.hz
        have hvs := hinv.hv.sl elLin_good (F := fun b => w.heap.size ≤ b ∧ b < wr.heap.size) (fun b hb => ⟨by have := hb.1; omega, hb.2.1⟩) (fun b h1 h2 => ⟨by omega, h2⟩)
        have hdss := OwnG.sl elDia_good (F := fun b => w.heap.size ≤ b ∧ b < wr.heap.size) hinv.hd (fun b hb => hb.elim) (fun b h1 h2 => ⟨by omega, h2⟩)
        have hfin : q = (out, ds) := by rw [← hqk.out, List.drop_of_length_le (by omega)]; rfl
        rw [hfin]
        exact split_done hvs hdss (hb1.trans (hinv.hb.mono hs1))
end Go.Proofs.YticfopjbaoigfaaGreatDoor
