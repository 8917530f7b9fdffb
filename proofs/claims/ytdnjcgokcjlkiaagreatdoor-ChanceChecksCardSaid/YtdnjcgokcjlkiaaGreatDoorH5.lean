/- The contracts of Of, of the program and of the reference. No conditions but that the distribution can be read. -/
import Derived.Test.YtdnjcgokcjlkiaaGreatDoorH4
set_option linter.unusedSimpArgs false
set_option linter.unusedVariables false
namespace Go.Proofs.YtdnjcgokcjlkiaaGreatDoor
open Go.RowKit

theorem Blk.two {w : World} {g : Nat} {t : TypeId} {a b : Value} (h : Blk w g t #[a, b]) :
    w.cell? ⟨g, 0, none⟩ = some a ∧ w.cell? ⟨g, 1, none⟩ = some b ∧ w.frozen? ⟨g, 0, none⟩ = false ∧ w.frozen? ⟨g, 1, none⟩ = false := ⟨h.cell 0, h.cell 1, h.frozen 0, h.frozen 1⟩
def put2 (W : World) (R : Nat) (a b : Value) : World := (W.setCell ⟨R, 0, none⟩ a).setCell ⟨R, 1, none⟩ b
theorem put2_only (W : World) (R : Nat) (a b : Value) : Only R W (put2 W R a b) :=
  ((Only.refl R W).setCell (p := ⟨R, 0, none⟩) (.inl rfl) _).setCell (p := ⟨R, 1, none⟩) (.inl rfl) _
theorem blk_put2 {w : World} {g : Nat} {t : TypeId} {a b : Value} (h : Blk w g t #[a, b]) (x0 x1 : Value) : Blk (put2 w g x0 x1) g t #[x0, x1] := (h.set_ 0 x0).set_ 1 x1
/-- A spread and an error, handed back. -/
def SprPost (w : World) (r : Spr × Int) (e : Ending) (w' : World) : Prop :=
  ∃ v, e = .returned (.tuple #[sprV r.1 v, .int .i64 r.2]) ∧ Sl 1 elInt w' (fun b => w.heap.size ≤ b ∧ b < w'.heap.size) v r.1.ws ∧ Below w.heap.size w w'
/-- A row of numbers reads as a list. -/
theorem rowI_sl {w : World} {b n : Nat} {g : Nat → Int} (h : w.rowIs b 2 n (fun i => .int .i64 (g i))) (hn : n ≤ maxLen) : Sl 1 elInt w (fun x => x = b) (.slice (some ⟨b, 0, none⟩) n n) ((List.range n).map g) := by
  refine ⟨some ⟨b, 0, none⟩, n, by simp, by simp, hn, fun _ => ⟨b, 0, rfl, rfl, fun i a hi => ?_⟩⟩
  have hin : i < n := by have := (List.getElem?_eq_some_iff.1 hi).1; simpa using this
  rw [List.getElem?_map, List.getElem?_range hin] at hi
  obtain rfl := Option.some.inj hi
  refine ⟨[.int .i64 (g i)], rfl, fun j u hj => ?_, rfl⟩
  cases j with
  | zero => simp at hj; subst hj; simpa using h.cell hin
  | succ j => simp at hj
theorem spr_end {w W : World} {R : Nat} {s : Spr} {e : Int} {v : Value} {F : Nat → Prop} (hb : Below w.heap.size w W) (hR : w.heap.size ≤ R) (hlt : R < W.heap.size) (h : Sl 1 elInt W F v s.ws) (hF : ∀ x, F x → w.heap.size ≤ x ∧ x < W.heap.size ∧ x ≠ R) :
    SprPost w (s, e) (.returned (.tuple #[.agg #[.int .i64 s.balls, v], .int .i64 e])) (put2 W R (.int .i64 s.balls) v) := by
  have ho := put2_only W R (.int .i64 s.balls) v
  exact ⟨v, rfl, h.keep elInt_good (ho.same fun x hx => ⟨(hF x hx).2.1, (hF x hx).2.2⟩) fun x hx => ⟨(hF x hx).1, Nat.lt_of_lt_of_le (hF x hx).2.1 ho.size⟩, hb.trans (ho.below hR (hb.size))⟩
@[go_sem] theorem build_spr0 (w : World) : (Instr.build 90 #[]).run Tryz.prog w = .ok (.agg #[.int .i64 0, .slice none 0 0]) w := run_build w 90 _ _ (by kernel_rfl)
@[go_sem] theorem build_spr2 (x : Int) (A : Option Addr) (n c : Nat) (w : World) : (Instr.build 90 #[(0, .int .i64 x), (1, .slice A n c)]).run Tryz.prog w = .ok (.agg #[.int .i64 x, .slice A n c]) w := run_build w 90 _ _ (by kernel_rfl)
theorem make_ints (n : Nat) (hn : n ≤ 100000) (W : World) : (Instr.makeSlice 88 (.int .i64 (n : Int)) (.int .i64 (n : Int))).run Tryz.prog W = .ok (.slice (some ⟨W.heap.size, 0, none⟩) n n) (W.alloc (.cells (madeCells #[.int .i64 0] n) 2)) :=
  run_make_row' (P := Tryz.prog) 88 2 (.int .i64 0) 8 Tryz.underlying88 (by kernel_rfl) rfl .i64 .i64 n (by omega) (by omega) W
theorem drop_take_sum {d : List Otc} (h : OkD d) (k r : Nat) : 0 ≤ ofC (d.take k) r ∧ ofC (d.take k) r ≤ 16 := by
  have h1 := ofC_pos (d := d.take k) (fun o ho => h.each o (List.mem_of_mem_take ho)) r
  have h2 := (sumI_take_le (l := d.map (·.wt)) (fun x hx => by obtain ⟨o, ho, rfl⟩ := List.mem_map.1 hx; have := (h.each o ho).w1; omega) k).2
  rw [← List.map_take, h.sum] at h2
  omega

theorem ch_Of_ret {R' : Ending → World → Prop} {a : Act} {w : World} {x0 x1 v : Value} {g : Nat} (h2 : a.tmps[2]? = some (.pointer (some ⟨g, 0, none⟩))) (h3 : a.tmps[3]? = some v) (hb : Blk w g 90 #[x0, x1])
    (hd : a.defers = []) (hR : R' (.returned (.tuple #[.agg #[x0, x1], v])) w) : bodyPost Tryz.prog Tryz.f100 R' .ret a w := by
  obtain ⟨r0, r1, _⟩ := hb.two
  refine bodyPost_ret (v := .tuple #[.agg #[x0, x1], v]) (by simp [results, Tryz.results100, go_sem, h2, h3, r0, r1]) hd hR
set_option maxRecDepth 100000 in
set_option maxHeartbeats 1000000 in
theorem ch_Of (d : List Otc) (v : Value) (w : World) (h : Sl 3 elOtc w (· < w.heap.size) v d) : Calls Tryz.prog 100 #[v] w (SprPost w (ofS d)) := by
  obtain ⟨z, hz⟩ : ∃ z, z = ofS d := ⟨_, rfl⟩
  rw [← hz]
  unfold ofS at hz
  have hb0 : Below w.heap.size w (w.alloc (.cells #[.int .i64 0, .slice none 0 0] 90)) := Below.alloc (Below.refl _ _) (Nat.le_refl _) _
  have hk0 : Blk (w.alloc (.cells #[.int .i64 0, .slice none 0 0] 90)) w.heap.size 90 #[.int .i64 0, .slice none 0 0] := Blk.new w _ _
  have kc : Calls Tryz.prog 14 #[v] (w.alloc (.cells #[.int .i64 0, .slice none 0 0] 90)) fun e w' => e = .returned (.int .i64 (checkD d)) ∧ Below w.heap.size w w' ∧ Blk w' w.heap.size 90 #[.int .i64 0, .slice none 0 0] := by
    refine (ch_Check d v _ (h.keep elOtc_good (Same.of_below hb0) fun b hb => Nat.lt_of_lt_of_le hb hb0.size)).mono ?_
    rintro e w' ⟨rfl, hb⟩
    exact ⟨rfl, hb0.trans (hb.mono hb0.size), hk0.below hb hk0.lt⟩
  obtain ⟨A, c, rfl, hc, hc2⟩ := h.shape
  by_cases h0 : checkD d = 0
  · rw [if_neg (fun k => k h0)] at hz
    rw [h0] at kc
    have hok := checkD_ok h0
    have hl16 := hok.len.2
    have hl1 := hok.len.1
    obtain ⟨ol, hol, hlr, hlast, hmax⟩ := hok.lastR
    obtain ⟨N, hN⟩ : ∃ N, N = (lastR d).toNat + 1 := ⟨_, rfl⟩
    have hoo := hok.each ol hol
    have hor0 := hoo.r0
    have hor7 := hoo.r7
    have hNN : ol.runs + 1 = (N : Int) := by rw [hN, hlr]; omega
    have hN8 : N ≤ 8 := by omega
    have hmk := fun W => make_ints N (by omega) W
    have HMAX := Lib.hid fun (a : Otc) (ha : a ∈ d) => show a.runs < (N : Int) by have := hmax a ha; omega
    have HLAST := Lib.hid hlast
    have HOK := Lib.hid hok
    have KC := Lib.hid kc
    have HZ := Lib.hid (show z = (⟨1, (List.range N).map (ofC d)⟩, 0) by rw [hz, hN]; rfl)
    have H := Lib.hid h
    obtain ⟨lb, lo, hAe, hlb, ly0', ly1', ly2'⟩ := otc_at h (k := d.length - 1) (by omega)
    have hle : d[d.length - 1]'(by omega) = ol := by rw [List.getElem?_eq_getElem (by omega)] at hlast; exact Option.some.inj hlast
    rw [hle] at ly0'
    subst hAe
    have s1 : IntKind.i64.wrap ((d.length : Int) - 1) = (d.length : Int) - 1 := IntWalk.i64_in _ (by omega)
    have s2 : (0 : Int) ≤ (d.length : Int) - 1 := by omega
    have s2' : (1 : Int) ≤ (d.length : Int) := by omega
    have s3 : ((d.length : Int) - 1).toNat = d.length - 1 := by omega
    have s4 : (d.length : Int) - 1 < (d.length : Int) := by omega
    obtain ⟨lr, hlrr⟩ : ∃ lr, lr = ol.runs := ⟨_, rfl⟩
    rw [← hlrr] at ly0' hNN hor0 hor7
    clear kc hz h0 hok h hb0 hk0 hmax hN hlr hlast hle hlrr hoo hol ly1' ly2'
    go_enter Tryz.func100, Tryz.ntmps100
    go_wp2_with (go_at_call 14; refine KC.out.mono ?_; rintro e w2 ⟨rfl, hb2, hk2⟩; have ly0 := (hb2.cell (p := ⟨lb, lo + (d.length - 1) * 3, none⟩) hlb).trans ly0'; have hz2 : w.heap.size < w2.heap.size := hk2.lt; have HB2 := Lib.hid hb2; have HK2 := Lib.hid hk2; clear hb2 hk2)
    obtain ⟨gr, hgr⟩ : ∃ gr, gr = w2.heap.size := ⟨_, rfl⟩
    have hgs : gr + 1 = w2.heap.size + 1 := by rw [hgr]
    go_loopw [26] (fun i wr => ∃ k : Nat, k ≤ d.length ∧ i = .int .i64 k ∧ Below w2.heap.size w2 wr ∧ wr.rowIs w2.heap.size 2 N (fun j => .int .i64 (ofC (d.take k) j)) ∧ Blk wr (w2.heap.size + 1) 90 #[.int .i64 1, .slice (some ⟨w2.heap.size, 0, none⟩) N N]) (fun i _ => d.length - (intOf i).toNat)
    case atStart => exact ⟨0, Nat.zero_le _, rfl, Below.alloc (Below.alloc (Below.refl _ _) (Nat.le_refl _) _) (by simp) _, ((World.rowIs_made w2 (.int .i64 0) N _).alloc _).congr fun j _ => rfl, by have := Blk.new (w2.alloc (.cells (madeCells #[.int .i64 0] N) 2)) 90 #[.int .i64 1, .slice (some ⟨w2.heap.size, 0, none⟩) N N]; simpa using this⟩
    case round =>
      obtain ⟨k, hk, rfl, hbw, hrow, hks⟩ := hrel
      have hb := HB2.out.trans (hbw.mono HB2.out.size)
      have HB := Lib.hid hb
      have HBW := Lib.hid hbw
      have HROW := Lib.hid hrow
      obtain ⟨p0, p1, _⟩ := hks.two
      have hksl := hks.lt
      have HKS := Lib.hid hks
      clear hks
      by_cases hlt : k < d.length
      · obtain ⟨b, o, hAe, hbl, y0', y1', y2'⟩ := otc_at H.out hlt
        simp only [Option.some.injEq, Addr.mk.injEq] at hAe
        obtain ⟨rfl, rfl, _⟩ := hAe
        have hoo := HOK.out.each _ (List.getElem_mem hlt)
        have hmx := HMAX.out _ (List.getElem_mem hlt)
        have htk := fun r => ofC_take hlt r
        have hbd := drop_take_sum HOK.out k
        obtain ⟨⟨pr, pw, pt⟩, hp⟩ : ∃ p, p = d[k] := ⟨_, rfl⟩
        rw [← hp] at y0' y1' y2' hoo hmx htk
        have hr0 := hoo.r0
        have hw1 := hoo.w1
        have hw16 := hoo.w16
        dsimp only at hr0 hw1 hw16 hmx htk y0' y1' y2'
        obtain ⟨r, rfl⟩ : ∃ r : Nat, pr = (r : Int) := ⟨pr.toNat, by omega⟩
        have hrN : r < N := by omega
        have q0 := hrow.cell hrN
        have qf := hrow.frozen r
        have hglt := hrow.lt
        obtain ⟨ha0, ha16⟩ := hbd r
        have HNEW := Lib.hid fun (W : World) (hW : W.rowIs w2.heap.size 2 N (fun j => .int .i64 (ofC (d.take k) j))) => (hW.set r (.int .i64 (ofC (d.take k) r + pt))).congr (g := fun j => .int .i64 (ofC (d.take (k + 1)) j)) fun j hj => by
          rw [htk j]
          by_cases e : j = r
          · subst e; rw [if_pos rfl, if_pos rfl]
          · rw [if_neg e, if_neg (by omega)]; simp
        obtain ⟨a, ha⟩ : ∃ a, a = ofC (d.take k) r := ⟨_, rfl⟩
        rw [← ha] at q0 ha0 ha16 HNEW
        have y0 := (hb.cell (p := ⟨lb, lo + k * 3, none⟩) hbl).trans y0'
        have y1 := (hb.cell (p := ⟨lb, lo + k * 3 + 1, none⟩) hbl).trans y1'
        have y2 := (hb.cell (p := ⟨lb, lo + k * 3 + 2, none⟩) hbl).trans y2'
        clear hb hbw hrow hp hoo htk hbd y0' y1' y2' ha ly0
        go_wp2
        go_region
        go_wp2
        go_roundw
        case rel => exact ⟨k + 1, by omega, by go_num, Below.drew (Below.alloc (Below.setCell HBW.out (Nat.le_refl _) _) (by have := HBW.out.size; simpa [World.setCell] using this) _), ((HNEW.out _ HROW.out).alloc _).drew, Blk.drew ((HKS.out.far (p := ⟨w2.heap.size, r, none⟩) (by show w2.heap.size + 1 ≠ w2.heap.size; omega) _).alloc _)⟩
        case measure => simp [intOf]; omega
      · obtain rfl : k = d.length := by omega
        rw [List.take_of_length_le (Nat.le_refl _)] at hrow
        have hsl := rowI_sl hrow (by simp [maxLen]; omega)
        have hkk := HK2.out.below hbw hz2
        obtain ⟨r0, r1, f0, f1⟩ := hkk.two
        have hgl := hkk.lt
        have HSL := Lib.hid hsl
        have HKK := Lib.hid (blk_put2 hkk (.int .i64 1) (.slice (some ⟨w2.heap.size, 0, none⟩) N N))
        have hwz := hbw.size
        have hrl := hrow.lt
        have HEND := Lib.hid (spr_end (s := ⟨1, (List.range N).map (ofC d)⟩) (e := 0) HB.out (Nat.le_refl _) hgl hsl (fun x hx => by subst hx; exact ⟨by omega, hrl, by omega⟩))
        clear hb hbw hrow hsl hkk ly0 hwz
        go_wp2
        refine ch_Of_ret rfl rfl HKK.out rfl ?_
        rw [HZ.out]
        exact HEND.out
  · rw [if_pos h0] at hz
    obtain ⟨z9, hz9⟩ : ∃ z9, z9 = checkD d := ⟨_, rfl⟩
    rw [← hz9] at kc hz h0
    have g1 : (z9 != 0) = true := by rw [bne_iff_ne]; exact h0
    have KC := Lib.hid kc
    have HZ := Lib.hid hz
    clear kc hz h0 h hz9 hb0 hk0
    go_enter Tryz.func100, Tryz.ntmps100
    go_wp2_with (go_at_call 14; refine KC.out.mono ?_; rintro e w2 ⟨rfl, hb2, hk2⟩; have hz2 : w.heap.size < w2.heap.size := hk2.lt; obtain ⟨r0, r1, f0, f1⟩ := hk2.two; have HB2 := Lib.hid hb2; have HK2 := Lib.hid hk2; clear hb2 hk2)
    have HK3 := Lib.hid (blk_put2 HK2.out (.int .i64 0) (.slice none 0 0))
    have hend := spr_end (s := noSpr) (e := z9) (F := fun _ => False) HB2.out (Nat.le_refl _) hz2 (Sl.nil _ _) (fun _ h => h.elim)
    refine ch_Of_ret rfl rfl HK3.out rfl ?_
    rw [HZ.out]
    exact hend

end Go.Proofs.YtdnjcgokcjlkiaaGreatDoor
