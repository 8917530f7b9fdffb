/- The contract of chance.Text. Condition: the library's tables lie as they should. -/
import Derived.Test.YtfnfbojaiikigaaGreatDoorH4
import Derived.Test.YtfnfbojaiikigaaGreatDoorN3
import Derived.Test.YtfnfbojaiikigaaGreatDoorP53
import Derived.Test.YtfnfbojaiikigaaGreatDoorQ3
set_option linter.unusedSimpArgs false
set_option linter.unusedVariables false
namespace Go.Proofs.YtfnfbojaiikigaaGreatDoor
open Go.RowKit

theorem itoa_le3 {n : Int} (h0 : 0 ≤ n) (h : n ≤ 9223372036854775807) : (Lib.itoa n).length ≤ 20 := by
  have := decDigits_le (u := n.toNat) (by omega)
  unfold Lib.itoa
  rw [if_neg (by omega)]
  omega
theorem E_strs : ElemOf Tryz.prog 110 9 1 16 := ElemOf.mk (z := .string ByteArray.empty) Tryz.underlying110 (by kernel_rfl) rfl (by decide)
theorem joinTail_len (sep : List UInt8) : ∀ r : List (List UInt8), (Lib.joinTail sep r).length = (r.map fun x => sep.length + x.length).sum := by
  intro r
  induction r with
  | nil => rfl
  | cons x r ih =>
    have e : Lib.joinTail sep (x :: r) = (sep ++ x) ++ Lib.joinTail sep r := by unfold Lib.joinTail; simp
    rw [e, List.length_append, ih, List.map_cons, List.sum_cons, List.length_append]
theorem sum_le_mul {l : List Nat} {B : Nat} (h : ∀ x ∈ l, x ≤ B) : l.sum ≤ B * l.length := by
  induction l with
  | nil => simp
  | cons x l ih =>
    have h1 := h x (by simp)
    have h2 := ih fun y hy => h y (by simp [hy])
    rw [List.sum_cons, List.length_cons, Nat.mul_add, Nat.mul_one]; omega
theorem join_len {xs : List (List UInt8)} {sep : List UInt8} {B : Nat} (h : ∀ x ∈ xs, x.length ≤ B) : (Lib.join xs sep).length ≤ (sep.length + B) * xs.length := by
  cases xs with
  | nil => simp [Lib.join_nil]
  | cons x r =>
    have h1 := h x (by simp)
    have h2 : ((r.map fun y => sep.length + y.length)).sum ≤ (sep.length + B) * (r.map fun y => sep.length + y.length).length := sum_le_mul fun y hy => by
      obtain ⟨z, hz, rfl⟩ := List.mem_map.1 hy
      have := h z (by simp [hz]); omega
    rw [Lib.join_cons, List.length_append, joinTail_len, List.length_cons, Nat.mul_add, Nat.mul_one]
    rw [List.length_map] at h2
    omega
theorem otcW_len {o : Otc} (h : OkO o) : (otcW o).length ≤ 50 := by
  have h1 := itoa_le3 h.r0 (by have := h.r7; omega)
  have h2 := itoa_le3 (n := o.wt) (by have := h.w1; omega) (by have := h.w16; omega)
  unfold otcW
  simp only [List.length_append, List.length_cons, List.length_nil]
  split <;> (simp; omega)
theorem str_sum (a b : List UInt8) (c : ByteArray) : S a ++ c ++ (⟨#[58]⟩ : ByteArray) ++ S b = S (a ++ c.data.toList ++ [58] ++ b) := by
  apply ByteArray.ext; apply Array.ext'
  simp [S, ByteArray.data_append]
set_option maxRecDepth 100000 in
set_option maxHeartbeats 1000000 in
theorem ch_Text (d : List Otc) (v : Value) (w : World) (hg : GlobN w) (h : Sl 3 elOtc w (· < w.heap.size) v d) : Calls Tryz.prog 82 #[v] w fun e w' => e = .returned (.tuple #[.string (S (textC d).1), .int .i64 (textC d).2]) ∧ Below w.heap.size w w' := by
  obtain ⟨z, hz⟩ : ∃ z, z = textC d := ⟨_, rfl⟩
  rw [← hz]
  unfold textC at hz
  have kc := ch_Check d v w h
  obtain ⟨A, c, rfl, hc, hc2⟩ := h.shape
  by_cases h0 : checkD d = 0
  · rw [if_neg (fun k => k h0)] at hz
    rw [h0] at kc
    have hok := checkD_ok h0
    have hl16 := hok.len.2
    have hl1 := hok.len.1
    have HOK := Lib.hid hok.each
    have KC := Lib.hid kc
    have HZ := Lib.hid hz
    have H := Lib.hid h
    have kd := fun (n : Int) (h0 : 0 ≤ n) (h1 : n ≤ 100) W (hW : Below w.heap.size w W) => text_Decimal n W (hg.below hW) (by omega) (by omega)
    have KD := Lib.hid kd
    clear kc hz h0 hok h hg kd
    go_enter Tryz.func82, Tryz.ntmps82
    go_wp2_with (go_at_call 83; refine KC.out.mono ?_; rintro e w2 ⟨rfl, hb2⟩; have HB2 := Lib.hid hb2; clear hb2)
    go_loopw [5, 16] (fun sv i wr => ∃ (k : Nat), k ≤ d.length ∧ i = .int .i64 k ∧ Below w2.heap.size w2 wr ∧ OwnSl 1 elStr 9 w2.heap.size wr sv ((d.take k).map otcW)) (fun _ i _ => d.length - (intOf i).toNat)
    case atStart => exact ⟨0, Nat.zero_le _, rfl, Below.refl _ _, OwnSl.nil _⟩
    case round =>
      obtain ⟨k, hk, rfl, hbw, hown⟩ := hrel
      have hb := HB2.out.trans (hbw.mono HB2.out.size)
      have HB := Lib.hid hb
      have HBW := Lib.hid hbw
      have HO := Lib.hid hown
      by_cases hlt : k < d.length
      · obtain ⟨b, o, rfl, hbl, y0', y1', y2'⟩ := otc_at H.out hlt
        have hoo := HOK.out _ (List.getElem_mem hlt)
        have htk : (d.take (k + 1)).map otcW = (d.take k).map otcW ++ [otcW d[k]] := by rw [List.take_succ_eq_append_getElem hlt, List.map_append]; rfl
        obtain ⟨⟨pr, pw, pt⟩, hp⟩ : ∃ p, p = d[k] := ⟨_, rfl⟩
        rw [← hp] at y0' y1' y2' hoo htk
        have hr0 := hoo.r0
        have hr7 := hoo.r7
        have hw1 := hoo.w1
        have hw16 := hoo.w16
        have y0 := (hb.cell (p := ⟨b, o + k * 3, none⟩) hbl).trans y0'
        have y1 := (hb.cell (p := ⟨b, o + k * 3 + 1, none⟩) hbl).trans y1'
        have y2 := (hb.cell (p := ⟨b, o + k * 3 + 2, none⟩) hbl).trans y2'
        dsimp only at y0 y1 y2 hr0 hr7 hw1 hw16
        have hlen : ((d.take k).map otcW).length = k := by simp; omega
        have k1 := fun W hW => KD.out pr hr0 (by omega) W hW
        have k2 := fun W hW => KD.out pt (by omega) (by omega) W hW
        have l1 := itoa_le3 hr0 (by omega)
        have l2 := itoa_le3 (n := pt) (by omega) (by omega)
        obtain ⟨t1, ht1⟩ : ∃ t1, t1 = Lib.itoa pr := ⟨_, rfl⟩
        obtain ⟨t2, ht2⟩ : ∃ t2, t2 = Lib.itoa pt := ⟨_, rfl⟩
        have hw : ∀ cb : ByteArray, cb.data.toList = (if pw = true then [87] else []) → S t1 ++ cb ++ (⟨#[58]⟩ : ByteArray) ++ S t2 = S (otcW ⟨pr, pw, pt⟩) := fun cb hcb => by
          rw [str_sum, hcb, ht1, ht2]; rfl
        rw [← ht1] at k1 l1
        rw [← ht2] at k2 l2
        have K1 := Lib.hid k1
        have K2 := Lib.hid k2
        have HTK := Lib.hid htk
        have HLN := Lib.hid hlen
        obtain ⟨l, hl⟩ : ∃ l, l = (d.take k).map otcW := ⟨_, rfl⟩
        rw [← hl] at HO HTK HLN
        obtain ⟨wa, hwa⟩ : ∃ wa, wa = wr.alloc (.cells #[.int .i64 pr, .bool pw, .int .i64 pt] 46) := ⟨_, rfl⟩
        have hka : Blk wa wr.heap.size 46 #[.int .i64 pr, .bool pw, .int .i64 pt] := by rw [hwa]; exact Blk.new wr _ _
        have hba : Below w2.heap.size w2 wa := by rw [hwa]; exact Below.alloc hbw hbw.size _
        have hoa : OwnSl 1 elStr 9 w2.heap.size wa u5 l := by rw [hwa]; exact HO.out.alloc elStr_good _
        have HWA := Lib.hid hwa
        have HKA := Lib.hid hka
        have HBA := Lib.hid hba
        have HOA := Lib.hid hoa
        obtain ⟨g, hgg⟩ : ∃ g, g = wr.heap.size := ⟨_, rfl⟩
        have HGG := Lib.hid hgg
        have HW := Lib.hid hw
        clear hb hbw hown hp hoo htk hlen y0' y1' y2' k1 k2 hwa hka hba hoa hgg hl ht1 ht2 hw
        cases pw
        · have hws := HW.out (⟨#[]⟩ : ByteArray) rfl
          have z1 : ((⟨#[]⟩ : ByteArray) : ByteArray).size ≤ 1 := by decide
          have z2 : (⟨#[58]⟩ : ByteArray).size = 1 := rfl
          have a1 := fun W => run_string_add_sum (P := Tryz.prog) W (S t1) (⟨#[]⟩ : ByteArray) (by rw [S_size]; omega)
          have a2 := fun W => run_string_add_sum (P := Tryz.prog) W (S t1 ++ (⟨#[]⟩ : ByteArray)) ⟨#[58]⟩ (by rw [ByteArray.size_append, S_size]; omega)
          have a3 := fun W => run_string_add_sum (P := Tryz.prog) W (S t1 ++ (⟨#[]⟩ : ByteArray) ++ ⟨#[58]⟩) (S t2) (by rw [ByteArray.size_append, ByteArray.size_append, S_size, S_size]; omega)
          obtain ⟨ow, how⟩ : ∃ ow, ow = otcW ⟨pr, false, pt⟩ := ⟨_, rfl⟩
          rw [← how] at HTK hws
          rw [hws] at a3
          have h63 : l.length + 1 ≤ maxLen := by rw [HLN.out]; simp [maxLen]; omega
          have h16b : (l.length + 1) * 16 ≤ 140737488355328 := by rw [HLN.out]; omega
          clear hws z1 z2 l1 l2 how HW
          go_wp2
          rw [← HWA.out, ← HGG.out]
          rw [← HGG.out] at HKA
          have NE := Lib.hid (show u5.ownBlock ≠ some g from fun e => by have := (HO.out.block g e).2; have := HGG.out; omega)
          have HOAD := Lib.hid (OwnG.keep elStr_good (w' := wa.drew) HOA.out (fun _ h => h.elim) (fun _ h => h) fun _ _ => rfl : OwnSl 1 elStr 9 w2.heap.size wa.drew u5 l)
          have x0 : wa.cell? ⟨g, 0, none⟩ = some (.int .i64 pr) := HKA.out.cell 0
          have x2 : wa.cell? ⟨g, 2, none⟩ = some (.int .i64 pt) := HKA.out.cell 2
          go_region_held3 (fun w' => w'.cell? ⟨g, 0, none⟩ = some (.int .i64 pr) ∧ w'.cell? ⟨g, 2, none⟩ = some (.int .i64 pt)) (first | exact ⟨x0, x2⟩ | go_keep) (first
            | (clear tokT; go_at_call 118; refine (K2.out _ (HB2.out.trans (HB3.out.mono HB2.out.size))).mono ?_; rintro e w4 ⟨rfl, hb4⟩; have hk4 := HK3.out.below hb4 HK3.out.lt; have x0 : w4.cell? ⟨g, 0, none⟩ = some (.int .i64 pr) := hk4.cell 0; have x2 : w4.cell? ⟨g, 2, none⟩ = some (.int .i64 pt) := hk4.cell 2; have HK4 := Lib.hid hk4; have HO4 := Lib.hid (HO3.out.below elStr_good hb4); have HB4 := Lib.hid (HB3.out.trans (hb4.mono HB3.out.size)); have tokA : True := trivial; clear hk4 hb4)
            | (go_at_call 118; refine (K1.out _ (HB2.out.trans ((Below.drew HBA.out).mono HB2.out.size))).mono ?_; rintro e w3 ⟨rfl, hb3⟩; have hk3 : Blk w3 g 46 #[.int .i64 pr, .bool false, .int .i64 pt] := Blk.below (w := wa.drew) HKA.out hb3 HKA.out.lt; have x0 : w3.cell? ⟨g, 0, none⟩ = some (.int .i64 pr) := hk3.cell 0; have x2 : w3.cell? ⟨g, 2, none⟩ = some (.int .i64 pt) := hk3.cell 2; have HK3 := Lib.hid hk3; have HO3 := Lib.hid (OwnSl.below elStr_good (w := wa.drew) HOAD.out hb3); have HB3 := Lib.hid ((Below.drew HBA.out).trans (hb3.mono (Below.drew HBA.out).size)); have tokT : True := trivial; clear hk3 hb3)
            | (clear tokA; refine step_append_el rfl (.tmp 22) (.tmp 33) _ rfl E_strs elStr_good w2.heap.size u5 l rfl (HO4.out.alloc elStr_good _) ⟨w4.heap.size, 0, none⟩ 1 [.string (S ow)] rfl ow rfl (cells_new _ _ _ _) (oneCells rfl) rfl h63 h16b (Below.alloc HB4.out HB4.out.size (.cells #[.string (S ow)] 9)).size ?_; intro g5 cap5 w5 hown5 hg5 hat5; have hbel5 : Below w2.heap.size w2 w5 := below_own (Below.alloc HB4.out HB4.out.size (.cells #[.string (S ow)] 9)) (HO4.out.alloc elStr_good (.cells #[.string (S ow)] 9)) hg5 (Nat.le_refl _) (Below.alloc HB4.out HB4.out.size (.cells #[.string (S ow)] 9)).size; rw [← HTK.out] at hown5; have hk5 := Blk.grown (HK4.out.alloc (.cells #[.string (S ow)] 9)) hg5 NE.out; have x0 : w5.cell? ⟨g, 0, none⟩ = some (.int .i64 pr) := hk5.cell 0; have x2 : w5.cell? ⟨g, 2, none⟩ = some (.int .i64 pt) := hk5.cell 2; have HO5 := Lib.hid hown5; have HB5 := Lib.hid hbel5; clear hown5 hbel5 hg5 hat5 hk5))
          all_goals go_wp2
          all_goals go_roundw
          case rel => exact ⟨k + 1, by omega, by go_num, HB5.out, HO5.out⟩
          case measure => simp [intOf]; omega
        · have hws := HW.out (⟨#[87]⟩ : ByteArray) rfl
          have z1 : ((⟨#[87]⟩ : ByteArray) : ByteArray).size ≤ 1 := by decide
          have z2 : (⟨#[58]⟩ : ByteArray).size = 1 := rfl
          have a1 := fun W => run_string_add_sum (P := Tryz.prog) W (S t1) (⟨#[87]⟩ : ByteArray) (by rw [S_size]; omega)
          have a2 := fun W => run_string_add_sum (P := Tryz.prog) W (S t1 ++ (⟨#[87]⟩ : ByteArray)) ⟨#[58]⟩ (by rw [ByteArray.size_append, S_size]; omega)
          have a3 := fun W => run_string_add_sum (P := Tryz.prog) W (S t1 ++ (⟨#[87]⟩ : ByteArray) ++ ⟨#[58]⟩) (S t2) (by rw [ByteArray.size_append, ByteArray.size_append, S_size, S_size]; omega)
          obtain ⟨ow, how⟩ : ∃ ow, ow = otcW ⟨pr, true, pt⟩ := ⟨_, rfl⟩
          rw [← how] at HTK hws
          rw [hws] at a3
          have h63 : l.length + 1 ≤ maxLen := by rw [HLN.out]; simp [maxLen]; omega
          have h16b : (l.length + 1) * 16 ≤ 140737488355328 := by rw [HLN.out]; omega
          clear hws z1 z2 l1 l2 how HW
          go_wp2
          rw [← HWA.out, ← HGG.out]
          rw [← HGG.out] at HKA
          have NE := Lib.hid (show u5.ownBlock ≠ some g from fun e => by have := (HO.out.block g e).2; have := HGG.out; omega)
          have HOAD := Lib.hid (OwnG.keep elStr_good (w' := wa.drew) HOA.out (fun _ h => h.elim) (fun _ h => h) fun _ _ => rfl : OwnSl 1 elStr 9 w2.heap.size wa.drew u5 l)
          have x0 : wa.cell? ⟨g, 0, none⟩ = some (.int .i64 pr) := HKA.out.cell 0
          have x2 : wa.cell? ⟨g, 2, none⟩ = some (.int .i64 pt) := HKA.out.cell 2
          go_region_held3 (fun w' => w'.cell? ⟨g, 0, none⟩ = some (.int .i64 pr) ∧ w'.cell? ⟨g, 2, none⟩ = some (.int .i64 pt)) (first | exact ⟨x0, x2⟩ | go_keep) (first
            | (clear tokT; go_at_call 118; refine (K2.out _ (HB2.out.trans (HB3.out.mono HB2.out.size))).mono ?_; rintro e w4 ⟨rfl, hb4⟩; have hk4 := HK3.out.below hb4 HK3.out.lt; have x0 : w4.cell? ⟨g, 0, none⟩ = some (.int .i64 pr) := hk4.cell 0; have x2 : w4.cell? ⟨g, 2, none⟩ = some (.int .i64 pt) := hk4.cell 2; have HK4 := Lib.hid hk4; have HO4 := Lib.hid (HO3.out.below elStr_good hb4); have HB4 := Lib.hid (HB3.out.trans (hb4.mono HB3.out.size)); have tokA : True := trivial; clear hk4 hb4)
            | (go_at_call 118; refine (K1.out _ (HB2.out.trans ((Below.drew HBA.out).mono HB2.out.size))).mono ?_; rintro e w3 ⟨rfl, hb3⟩; have hk3 : Blk w3 g 46 #[.int .i64 pr, .bool true, .int .i64 pt] := Blk.below (w := wa.drew) HKA.out hb3 HKA.out.lt; have x0 : w3.cell? ⟨g, 0, none⟩ = some (.int .i64 pr) := hk3.cell 0; have x2 : w3.cell? ⟨g, 2, none⟩ = some (.int .i64 pt) := hk3.cell 2; have HK3 := Lib.hid hk3; have HO3 := Lib.hid (OwnSl.below elStr_good (w := wa.drew) HOAD.out hb3); have HB3 := Lib.hid ((Below.drew HBA.out).trans (hb3.mono (Below.drew HBA.out).size)); have tokT : True := trivial; clear hk3 hb3)
            | (clear tokA; refine step_append_el rfl (.tmp 22) (.tmp 33) _ rfl E_strs elStr_good w2.heap.size u5 l rfl (HO4.out.alloc elStr_good _) ⟨w4.heap.size, 0, none⟩ 1 [.string (S ow)] rfl ow rfl (cells_new _ _ _ _) (oneCells rfl) rfl h63 h16b (Below.alloc HB4.out HB4.out.size (.cells #[.string (S ow)] 9)).size ?_; intro g5 cap5 w5 hown5 hg5 hat5; have hbel5 : Below w2.heap.size w2 w5 := below_own (Below.alloc HB4.out HB4.out.size (.cells #[.string (S ow)] 9)) (HO4.out.alloc elStr_good (.cells #[.string (S ow)] 9)) hg5 (Nat.le_refl _) (Below.alloc HB4.out HB4.out.size (.cells #[.string (S ow)] 9)).size; rw [← HTK.out] at hown5; have hk5 := Blk.grown (HK4.out.alloc (.cells #[.string (S ow)] 9)) hg5 NE.out; have x0 : w5.cell? ⟨g, 0, none⟩ = some (.int .i64 pr) := hk5.cell 0; have x2 : w5.cell? ⟨g, 2, none⟩ = some (.int .i64 pt) := hk5.cell 2; have HO5 := Lib.hid hown5; have HB5 := Lib.hid hbel5; clear hown5 hbel5 hg5 hat5 hk5))
          all_goals go_wp2
          all_goals go_roundw
          case rel => exact ⟨k + 1, by omega, by go_num, HB5.out, HO5.out⟩
          case measure => simp [intOf]; omega
      · obtain rfl : k = d.length := by omega
        have hsl := hown.sl elStr_good
        rw [List.take_of_length_le (Nat.le_refl _)] at hsl
        obtain ⟨A5, c5, rfl, hc5, hc6⟩ := hsl.shape
        have hml : (d.map otcW).length = d.length := by simp
        obtain ⟨jb, jo, hA5, hjb, _⟩ := hsl.str_at (k := 0) (by rw [hml]; omega)
        subst hA5
        have hcs : ∀ (j : Nat) x, ((d.map otcW).map S)[j]? = some x → wr.cell? ⟨jb, jo + j, none⟩ = some (.string x) := fun j x hj => by
          have hjl : j < (d.map otcW).length := by have := (List.getElem?_eq_some_iff.1 hj).1; simpa using this
          obtain ⟨b', o', e', _, hcell⟩ := hsl.str_at hjl
          injection e' with e'
          injection e' with e1 e2 e3
          subst e1
          subst e2
          rw [List.getElem?_map, List.getElem?_eq_getElem hjl] at hj
          simp only [Option.map_some, Option.some.injEq] at hj
          rw [← hj]; exact hcell
        have hxs : ((d.map otcW).map S).map (·.data.toList) = d.map otcW := by rw [List.map_map, show ((fun x : ByteArray => x.data.toList) ∘ S) = id from by funext x; rfl, List.map_id]
        have hxl : ((d.map otcW).map S).length = d.length := by simp
        have hjn := Tryz.strings_Join jb jo c5 ((d.map otcW).map S) ⟨#[32]⟩ wr hcs hjb.2 (by rw [hxl]; omega) (by rw [hxl, ← hml]; exact hc5) (by
          rw [hxs]
          have := join_len (xs := d.map otcW) (sep := [32]) (B := 50) fun x hx => by obtain ⟨o, ho, rfl⟩ := List.mem_map.1 hx; exact otcW_len (HOK.out o ho)
          rw [hml] at this
          have e : (⟨#[32]⟩ : ByteArray).data.toList = [32] := rfl
          rw [e]
          simp only [List.length_cons, List.length_nil] at this
          omega)
        rw [hxs, hxl] at hjn
        rw [hml]
        have HJ := Lib.hid hjn
        clear hbw hown hsl hcs hjn hxs hxl hjb hb
        go_wp2_with (go_at_call 119; refine HJ.out.mono ?_; rintro e w5 ⟨rfl, hb5⟩; have HB5 := Lib.hid (HB.out.trans (hb5.mono HB.out.size)); clear hb5)
        go_ret2
        exact ⟨by rw [HZ.out] <;> rfl, HB5.out⟩
  · rw [if_pos h0] at hz
    obtain ⟨z9, hz9⟩ : ∃ z9, z9 = checkD d := ⟨_, rfl⟩
    rw [← hz9] at kc hz h0
    have g1 : (z9 != 0) = true := by rw [bne_iff_ne]; exact h0
    have KC := Lib.hid kc
    have HZ := Lib.hid hz
    clear kc hz h0 h hz9 hg
    go_enter Tryz.func82, Tryz.ntmps82
    go_wp2_with (go_at_call 83; refine KC.out.mono ?_; rintro e w2 ⟨rfl, hb2⟩; have HB2 := Lib.hid hb2; clear hb2)
    go_ret2
    exact ⟨by rw [HZ.out] <;> rfl, HB2.out⟩
end Go.Proofs.YtfnfbojaiikigaaGreatDoor
