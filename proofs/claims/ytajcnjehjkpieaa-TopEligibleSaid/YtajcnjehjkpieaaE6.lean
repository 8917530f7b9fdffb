/- register.Squad. -/
import Derived.Test.YtajcnjehjkpieaaE4
import Derived.Test.YtajcnjehjkpieaaE5
set_option linter.unusedSimpArgs false
set_option linter.unusedVariables false
namespace Go.Proofs.Ytajcnjehjkpieaa
open Go.RowKit

def sqP (l : List Tra) (t : List UInt8) (d : Int) (x : Tra) : Bool := t != [] && teamD l x.player d == t
def sqT (l : List Tra) (t : List UInt8) (d : Int) (k : Nat) : List (List UInt8) := ((l.take k).filter (sqP l t d)).map (·.player)
theorem sqT_all (l : List Tra) (t : List UInt8) (d : Int) : sqT l t d l.length = squadR l t d := by unfold sqT squadR sqP; rw [List.take_length]
theorem sqT_yes {l : List Tra} {t : List UInt8} {d : Int} {k : Nat} (hk : k < l.length) (h : sqP l t d (tr l k) = true) : sqT l t d (k + 1) = sqT l t d k ++ [(tr l k).player] := by
  unfold sqT
  rw [List.take_succ_eq_append_getElem hk, List.filter_append, List.map_append, tr_at hk, List.filter_cons_of_pos h]
  rfl
theorem sqT_no {l : List Tra} {t : List UInt8} {d : Int} {k : Nat} (hk : k < l.length) (h : sqP l t d (tr l k) = false) : sqT l t d (k + 1) = sqT l t d k := by
  unfold sqT
  rw [List.take_succ_eq_append_getElem hk, List.filter_append, List.map_append, tr_at hk, List.filter_cons_of_neg (by simp [h])]
  simp
theorem sqT_len (l : List Tra) (t : List UInt8) (d : Int) (k : Nat) : (sqT l t d k).length ≤ k := by
  unfold sqT
  rw [List.length_map]
  exact Nat.le_trans (List.length_filter_le _ _) (by simp; omega)
theorem byte_room {n k m : Nat} (h : n ≤ k) (h2 : k < m) (h3 : m ≤ 1000000) : n + 1 ≤ maxLen ∧ (n + 1) * 16 ≤ 140737488355328 := by unfold maxLen; omega
theorem E_row : ElemOf Try.prog 43 9 1 16 := ElemOf.mk (z := .string ByteArray.empty) Try.underlying43 (by kernel_rfl) rfl (by decide)
/-- While the squad is gathered. -/
structure SQ (w W : World) (v : Value) (out : List (List UInt8)) : Prop where
  bel : Below w.heap.size w W
  own : OwnSl 1 elStr 9 w.heap.size W v out
theorem SQ.below {w W W' : World} {v : Value} {out : List (List UInt8)} (h : SQ w W v out) (hb : Below W.heap.size W W') : SQ w W' v out := ⟨h.bel.trans (hb.mono h.bel.size), h.own.below elStr_good hb⟩
theorem SQ.alloc {w W : World} {v : Value} {out : List (List UInt8)} (h : SQ w W v out) (o : Obj) : SQ w (W.alloc o) v out := h.below (Below.alloc (Below.refl _ _) (Nat.le_refl _) o)
theorem SQ.add {w W W' : World} {v v' : Value} {out out' : List (List UInt8)} (h : SQ w W v out) (ho : OwnSl 1 elStr 9 w.heap.size W' v' out') (hg : W.grownBy W' v.ownBlock) : SQ w W' v' out' := ⟨below_own h.bel h.own hg (Nat.le_refl _) h.bel.size, ho⟩
set_option maxRecDepth 100000 in
set_option maxHeartbeats 2000000 in
theorem reg_Squad (l : List Tra) (v : Value) (t : List UInt8) (d : Int) (w : World) (h : Sl 3 elTra w (· < w.heap.size) v l) (hl : l.length ≤ 1000000) :
    Calls Try.prog 11 #[v, .string (S t), .int .i64 d] w fun e w' => ∃ A n c, e = .returned (.slice A n c) ∧ Sl 1 elStr w' (fun b => w.heap.size ≤ b ∧ b < w'.heap.size) (.slice A n c) (squadS l t d) ∧ Below w.heap.size w w' := by
  obtain ⟨A, c, rfl, hc, hc2⟩ := h.shape
  have kt := fun p W (hW : Below w.heap.size w W) => reg_Team l _ p d W (h.keep elTra_good (Same.of_below hW) fun _ h => Nat.lt_of_lt_of_le h hW.size)
  have H := Lib.hid h
  have KT := Lib.hid kt
  obtain ⟨ZZ, hZZ⟩ : ∃ Z, Z = squadS l t d := ⟨_, rfl⟩
  rw [← hZZ]
  have HZZ := Lib.hid hZZ
  clear hZZ
  have HS := Lib.hid (⟨Below.refl _ _, OwnSl.nil _⟩ : SQ w w (.slice none 0 0) (sqT l t d 0))
  clear h kt
  go_enter Try.func11, Try.ntmps11
  go_wp2
  go_loopw [7, 12] (fun v i wr => ∃ (k : Nat) (Ao : Option Addr) (no co : Nat), k ≤ l.length ∧ i = .int .i64 k ∧ v = .slice Ao no co ∧ Hid (SQ w wr (.slice Ao no co) (sqT l t d k))) (fun _ i _ => l.length - (intOf i).toNat)
  case atStart => exact ⟨0, _, _, _, Nat.zero_le _, rfl, rfl, HS⟩
  case round =>
    obtain ⟨k, Ao, no, co, hk, rfl, rfl, hs⟩ := hrel
    clear HS
    by_cases hlt : k < l.length
    · obtain ⟨b, o, rfl, hbl, t0, t1, t2, pl, tl⟩ := tra_at H.out hlt
      have x0 := (hs.out.bel.cell (p := ⟨b, o + k * 3, none⟩) hbl).trans t0
      have x1 := (hs.out.bel.cell (p := ⟨b, o + k * 3 + 1, none⟩) hbl).trans t1
      have x2 := (hs.out.bel.cell (p := ⟨b, o + k * 3 + 2, none⟩) hbl).trans t2
      have hy := sqT_yes (t := t) (d := d) hlt
      have hno := sqT_no (t := t) (d := d) hlt
      have hP : sqP l t d (tr l k) = (!(t == []) && teamD l (tr l k).player d == t) := rfl
      have hti : TI w (wr.alloc (.cells #[.string (S (tr l k).player), .string (S (tr l k).team), .int .i64 (tr l k).day] 40)) wr.heap.size (tr l k) := ⟨Below.alloc hs.out.bel hs.out.bel.size _, Blk.new wr _ _⟩
      have hs2 := hs.out.alloc (.cells #[.string (S (tr l k).player), .string (S (tr l k).team), .int .i64 (tr l k).day] 40)
      have kt := KT.out (tr l k).player
      have hlen := sqT_len l t d k
      obtain ⟨out, hout⟩ : ∃ x, x = sqT l t d k := ⟨_, rfl⟩
      rw [← hout] at hy hno hs2 hlen
      obtain ⟨out2, hout2⟩ : ∃ x, x = sqT l t d (k + 1) := ⟨_, rfl⟩
      rw [← hout2] at hy hno
      obtain ⟨x, hx⟩ : ∃ x, x = tr l k := ⟨_, rfl⟩
      rw [← hx] at x0 x1 x2 hy hno hP hti hs2 kt
      obtain ⟨tm, htm⟩ : ∃ y, y = teamD l x.player d := ⟨_, rfl⟩
      rw [← htm] at hP kt
      obtain ⟨pv, hpv⟩ : ∃ y, y = sqP l t d x := ⟨_, rfl⟩
      rw [← hpv] at hP hy hno
      obtain ⟨p, tx, dx⟩ := x
      dsimp only at x0 x1 x2 hy hti hs2 kt
      obtain ⟨hr1, hr2⟩ := byte_room hlen hlt hl
      have KT1 := Lib.hid kt
      have HTI := Lib.hid hti
      have HS2 := Lib.hid hs2
      have HO2 := Lib.hid hout2
      have HR := Lib.hid hr2
      clear hs hti hs2 hout hout2 hx htm hpv t0 t1 t2 pl tl kt hlen hr2
      have tok0 : True := trivial
      cases c1 : (t == [])
      · cases c2 : (tm == t)
        · have HN := Lib.hid (hno (by rw [hP, c1, c2]; rfl))
          clear hy hno hP
          go_wp2_with (clear tok0; go_at_call 12; refine (KT1.out _ HTI.out.bel).mono ?_; rintro e w2 ⟨rfl, hb2⟩; have HS3 := Lib.hid (HS2.out.below hb2); clear hb2; have tok1 : True := trivial)
          go_roundw
          case rel => exact ⟨k + 1, _, _, _, by omega, by go_num, rfl, by rw [← HO2.out, HN.out]; exact HS3⟩
          case measure => simp [intOf]; omega
        · have HN := Lib.hid (hy (by rw [hP, c1, c2]; rfl))
          clear hy hno hP
          go_wp2_with (first
            | (clear tok0; go_at_call 12; refine (KT1.out _ HTI.out.bel).mono ?_; rintro e w2 ⟨rfl, hb2⟩; have hi := HTI.out.step hb2; obtain ⟨y0, y1, y2⟩ := hi.cells; have hzz := hi.blk.lt; have HS3 := Lib.hid ((HS2.out.below hb2).alloc (.cells #[.string (S p)] 9)); clear hb2 hi; have tok1 : True := trivial)
            | (clear tok1; at_builtin; refine wpList_append_sl _ rfl (.tmp 27) (.tmp 30) _ rfl E_row elStr_good w.heap.size _ out rfl HS3.out.own ⟨w2.heap.size, 0, none⟩ 1 [.string (S p)] rfl p rfl (cells_new _ _ _ _) (oneCells rfl) rfl hr1 HR.out HS3.out.bel.size ?_; intro v5 w5 hown5 hg5 hat5; have hq := HS3.out.add hown5 hg5; obtain ⟨A5, c5, rfl, _, _⟩ := (hown5.sl elStr_good).shape; have HQ := Lib.hid hq; clear hown5 hg5 hat5 hq; have tok2 : True := trivial))
          go_roundw
          case rel => exact ⟨k + 1, _, _, _, by omega, by go_num, rfl, by rw [← HO2.out, HN.out]; have hh := HQ; rw [List.length_append, List.length_singleton] at hh; exact hh⟩
          case measure => simp [intOf]; omega
      · have HN := Lib.hid (hno (by rw [hP, c1]; rfl))
        clear hy hno hP
        go_wp2
        go_roundw
        case rel => exact ⟨k + 1, _, _, _, by omega, by go_num, rfl, by rw [← HO2.out, HN.out]; exact HS2⟩
        case measure => simp [intOf]; omega
    · obtain rfl : k = l.length := by omega
      have hq := hs.out
      rw [sqT_all] at hq
      have hzz := HZZ.out
      unfold squadS at hzz
      have hlen : (squadR l t d).length ≤ 1000000 := by rw [← sqT_all]; exact Nat.le_trans (sqT_len _ _ _ _) hl
      obtain ⟨R, hR⟩ : ∃ R, R = squadR l t d := ⟨_, rfl⟩
      rw [← hR] at hq hlen hzz
      clear hs hR
      obtain ⟨Ax, cx, e, hcx, hcx2⟩ := (hq.own.sl elStr_good).shape
      injection e with e1 e2 e3
      subst e1 e2 e3
      have HQ := Lib.hid hq
      have tok0 : True := trivial
      rcases hq.own with ⟨css, hlc, ho, _⟩
      rcases ho.2 with ⟨hv, h0⟩ | ⟨g, cap, cur, hv, hB, _⟩
      · injection hv with e1 e2 e3
        obtain rfl : R = [] := List.eq_nil_of_length_eq_zero h0
        subst e1 e3
        have HZE := Lib.hid (show ZZ = [] by rw [hzz, List.mergeSort_nil]; rfl)
        clear hq ho hlc hzz
        go_wp2_with (first
          | (clear tok0; go_at_call 28; refine (Try.slices_Sort_string_none _ _ _).mono ?_; rintro e w3 ⟨rfl, rfl⟩; have tok1 : True := trivial)
          | (clear tok1; go_at_call 29; refine (Try.slices_Compact_string_empty _ _ _).mono ?_; rintro e w4 ⟨rfl, rfl⟩; have tok2 : True := trivial))
        go_ret
        exact ⟨_, _, _, rfl, by rw [HZE.out]; exact Sl.nil _ _, HQ.out.bel⟩
      · injection hv with e1 e2 e3
        subst e1 e3
        have hgz := hq.own.block g rfl
        have ks := row_Sort hq.own (by omega)
        have kc := fun W hH hg => row_Compact (g := g) (cap := co) (W := W) (zs := R.mergeSort fun x y => decide (x ≤ y)) hH hg (by rw [List.length_mergeSort]; exact hcx) hcx2
        rw [List.length_mergeSort] at kc
        obtain ⟨Z, hZ⟩ : ∃ Z, Z = R.mergeSort fun x y => decide (x ≤ y) := ⟨_, rfl⟩
        rw [← hZ] at ks kc hzz
        have HZE := Lib.hid hzz
        have KS := Lib.hid ks
        have KC := Lib.hid kc
        clear hq ho hlc ks kc hZ hzz
        go_wp2_with (first
          | (clear tok0; go_at_call 28; refine KS.out.mono ?_; rintro e w3 ⟨rfl, ho3, hg3, hH3⟩; have HH3 := Lib.hid hH3; have HO3 := Lib.hid ho3; clear ho3 hH3; have tok1 : True := trivial)
          | (clear tok1; go_at_call 29; refine (KC.out _ HH3.out hg3).mono ?_; rintro e w4 ⟨rfl, ho4, hs4⟩; have HO4 := Lib.hid ho4; have HS4 := Lib.hid hs4; clear ho4 hs4; have tok2 : True := trivial))
        have hb3 := HO3.out.below hgz.1 HQ.out.bel.size
        have hb4 := HO4.out.below hgz.1 (Nat.le_trans HQ.out.bel.size HO3.out.size)
        have hlt4 : g < w4.heap.size := Nat.lt_of_lt_of_le hg3 HO4.out.size
        have hfin : Sl 1 elStr w4 (fun b => w.heap.size ≤ b ∧ b < w4.heap.size) (.slice (some ⟨g, 0, none⟩) (Lib.compact Z).length co) ZZ := by
          rw [HZE.out]
          exact HS4.out.keep elStr_good (Same.refl _ _) fun b hb => ⟨by rw [show b = g from hb]; exact hgz.1, by rw [show b = g from hb]; exact hlt4⟩
        have HF := Lib.hid hfin
        have HB := Lib.hid ((HQ.out.bel.trans hb3).trans hb4)
        clear hfin hb3 hb4
        go_ret
        exact ⟨some ⟨g, 0, none⟩, (Lib.compact Z).length, co, rfl, HF.out, HB.out⟩
end Go.Proofs.Ytajcnjehjkpieaa
