/- Several texts of this family in one: J8 J9 J13 J14 P70 P71 W7 Y0 W8 Y1 Y2 Y3 Y4 P80 Z1 W10. -/
import Derived.Test.YtfnfbojaiikigaaGreatDoorJ7
import Derived.Test.YtfnfbojaiikigaaGreatDoorJ0
import Derived.Test.YtfnfbojaiikigaaGreatDoorH2
import Derived.Test.YtfnfbojaiikigaaGreatDoorF0
import Derived.Test.YtfnfbojaiikigaaGreatDoorP63
import Derived.Test.YtfnfbojaiikigaaGreatDoorW6
import Derived.Deep.RegionHeld3
import Derived.DeepKeys5
import Derived.Maps.OwnSet
import Derived.Laws.BitsAllLaws
import Derived.Laws.IdiomArrays
set_option linter.unusedSimpArgs false
set_option linter.unusedVariables false
namespace Go.Proofs.YtfnfbojaiikigaaGreatDoor
open Go.RowKit

theorem placeO_hit {r : Int} {w : Bool} {l : List Otc} {k : Nat} (hk : k < l.length) (hit : l[k].runs = r ∧ l[k].wick = w) (hno : ∀ j (hj : j < l.length), j < k → ¬ (l[j].runs = r ∧ l[j].wick = w)) : placeO r w l = k := by
  rcases Nat.lt_trichotomy (placeO r w l) k with h | h | h
  · exact absurd (placeO_lt r w l (by omega)) (hno _ (by omega) h)
  · exact h
  · exact absurd hit (placeO_before r w l k hk h)
theorem give_hit {r : Int} {w : Bool} {l : List Otc} {k : Nat} (hk : k < l.length) (hit : l[k].runs = r ∧ l[k].wick = w) (hno : ∀ j (hj : j < l.length), j < k → ¬ (l[j].runs = r ∧ l[j].wick = w)) : giveL l r w = l.set k { l[k] with wt := l[k].wt + 1 } := by
  unfold giveL
  rw [placeO_hit hk hit hno, List.getElem?_eq_getElem hk]
theorem give_new {r : Int} {w : Bool} {l : List Otc} (hno : ∀ j (hj : j < l.length), j < l.length → ¬ (l[j].runs = r ∧ l[j].wick = w)) : giveL l r w = l ++ [⟨r, w, 1⟩] :=
  giveL_new fun h => hno _ h h (placeO_lt r w l h)
theorem no_step {r : Int} {w : Bool} {l : List Otc} {k : Nat} (hk : k < l.length) (hno : ∀ j (hj : j < l.length), j < k → ¬ (l[j].runs = r ∧ l[j].wick = w)) (h : ¬ (l[k].runs = r ∧ l[k].wick = w)) : ∀ j (hj : j < l.length), j < k + 1 → ¬ (l[j].runs = r ∧ l[j].wick = w) := fun j hj h1 => by
  by_cases e : j = k
  · subst e; exact h
  · exact hno j hj (by omega)
/-- Whie the reference moves a unit: the box lies in block w.heap.size, the row is younger. -/
structure Mv (w W : World) (ov : Value) (out : List Otc) (r : Int) (wk : Bool) : Prop where
  bel : Below w.heap.size w W
  own : OwnSl 3 elOtc 46 (w.heap.size + 1) W ov out
  xk : Blk W w.heap.size 46 #[.int .i64 r, .bool wk, .int .i64 0]
section
variable {w W W' : World} {ov : Value} {out : List Otc} {r : Int} {wk : Bool} {g n c : Nat}
theorem Mv.below (h : Mv w W ov out r wk) (hb : Below W.heap.size W W') : Mv w W' ov out r wk := ⟨h.bel.trans (hb.mono h.bel.size), h.own.below elOtc_good hb, h.xk.below hb h.xk.lt⟩
theorem Mv.gt (h : Mv w W (.slice (some ⟨g, 0, none⟩) n c) out r wk) : w.heap.size < g := (h.own.block g rfl).1
theorem own_at {B k : Nat} (h : OwnSl 3 elOtc 46 B W (.slice (some ⟨g, 0, none⟩) n c) out) (hk : k < out.length) : W.cell? ⟨g, k * 3, none⟩ = some (.int .i64 out[k].runs) ∧ W.cell? ⟨g, k * 3 + 1, none⟩ = some (.bool out[k].wick) ∧ W.cell? ⟨g, k * 3 + 2, none⟩ = some (.int .i64 out[k].wt) ∧ W.frozen? ⟨g, k * 3 + 2, none⟩ = false := by
  obtain ⟨b, o, e, hF, y0, y1, y2⟩ := otc_at (h.sl elOtc_good) hk
  simp only [Option.some.injEq, Addr.mk.injEq, and_true] at e
  obtain ⟨rfl, rfl⟩ := e
  rw [Nat.zero_add] at y0 y1 y2
  obtain ⟨A', c', hv, _⟩ := (h.sl elOtc_good).shape
  injection hv with e1 e2 e3
  subst e2
  obtain ⟨css, h1, h2, h3, h4⟩ := h
  exact ⟨y0, y1, y2, h2.frozenAt _⟩
theorem own_put {B k : Nat} (h : OwnSl 3 elOtc 46 B W (.slice (some ⟨g, 0, none⟩) n c) out) (hk : k < out.length) (x : Int) : OwnSl 3 elOtc 46 B (W.setCell ⟨g, k * 3 + 2, none⟩ (.int .i64 x)) (.slice (some ⟨g, 0, none⟩) n c) (out.set k { out[k] with wt := x }) :=
  OwnG.put h (fun _ _ _ h => h) hk (show 2 < 3 by decide) (.int .i64 x) { out[k] with wt := x } fun c9 w9 h9 => by rw [show c9 = _ from h9]; rfl
theorem Mv.put {k : Nat} (h : Mv w W (.slice (some ⟨g, 0, none⟩) n c) out r wk) (hk : k < out.length) (x : Int) : Mv w (W.setCell ⟨g, k * 3 + 2, none⟩ (.int .i64 x)) (.slice (some ⟨g, 0, none⟩) n c) (out.set k { out[k] with wt := x }) r wk := by
  have hg := h.gt
  exact ⟨h.bel.setCell (by show w.heap.size ≤ g; omega) _, own_put h.own hk x, h.xk.far (by show w.heap.size ≠ g; omega) _⟩
end
def MvPost (w : World) (l : List Otc) (e : Ending) (w' : World) : Prop := ∃ v, e = .returned v ∧ Sl 3 elOtc w' (· < w'.heap.size) v l ∧ Below w.heap.size w w'
theorem Mv.post {w W : World} {ov : Value} {out : List Otc} {B : Nat} (hb : Below w.heap.size w W) (ho : OwnSl 3 elOtc 46 B W ov out) : MvPost w out (.returned ov) W := ⟨ov, rfl, (ho.sl elOtc_good).keep elOtc_good (Same.refl _ _) fun _ h => h.2, hb⟩
theorem own_made (w : World) (ob : Obj) : OwnG 3 elOtc 46 (w.heap.size + 1) ((w.alloc ob).alloc (.cells #[] 46)) (.slice (some ⟨w.heap.size + 1, 0, none⟩) 0 0) NoG [] := by
  have e : (w.alloc ob).heap.size = w.heap.size + 1 := by simp
  have := World.ownsRow_made (base := (w.alloc ob).heap.size) (e := 46) (size := 3) (w.alloc ob) #[] 0 (Nat.le_refl _) (by decide) rfl
  rw [e] at this
  exact ⟨[], rfl, this, by simp, by simp⟩
set_option maxRecDepth 100000 in
set_option maxHeartbeats 4000000 in
theorem r_move (d : List Otc) (v : Value) (i : Nat) (r : Int) (wk : Bool) (w : World) (h : Sl 3 elOtc w (· < w.heap.size) v d) (hi : i < d.length) (hok : ∀ o ∈ d, OkN o) (hl : d.length ≤ 100) :
    Calls Tryz.prog 193 #[v, .int .i64 i, .agg #[.int .i64 r, .bool wk, .int .i64 0]] w (MvPost w (moveL d i r wk)) := by
  obtain ⟨out, hout⟩ : ∃ out, out = takeL d i := ⟨_, rfl⟩
  have hz : moveL d i r wk = giveL out r wk := by rw [hout]; rfl
  rw [hz]
  obtain ⟨z, hzz⟩ : ∃ z, z = giveL out r wk := ⟨_, rfl⟩
  rw [← hzz]
  obtain ⟨A, c, rfl, hc, hc2⟩ := h.shape
  have hb1 : Below w.heap.size w ((w.alloc (.cells #[.int .i64 r, .bool wk, .int .i64 0] 46)).alloc (.cells #[] 46)) := (Below.alloc (Below.refl _ _) (Nat.le_refl _) _).alloc (by simp) _
  have hsl := h.keep elOtc_good (Same.of_below hb1) (G := (· < w.heap.size)) fun _ h => h
  have hxk : Blk ((w.alloc (.cells #[.int .i64 r, .bool wk, .int .i64 0] 46)).alloc (.cells #[] 46)) w.heap.size 46 #[.int .i64 r, .bool wk, .int .i64 0] := (Blk.new w _ _).alloc _
  have hsz : w.heap.size + 1 ≤ ((w.alloc (.cells #[.int .i64 r, .bool wk, .int .i64 0] 46)).alloc (.cells #[] 46)).heap.size := by simp
  have HB1 := Lib.hid hb1
  have HSL := Lib.hid hsl
  have HXK := Lib.hid hxk
  have HSZ := Lib.hid hsz
  have HOM := Lib.hid (own_made w (.cells #[.int .i64 r, .bool wk, .int .i64 0] 46))
  have hdi : out = d.set i { d[i] with wt := d[i].wt - 1 } := by rw [hout, takeL_at hi]
  have hto : ∀ o ∈ out, -1 ≤ o.wt ∧ o.wt ≤ 16 := fun o ho => by
    rw [hdi] at ho
    rcases List.mem_or_eq_of_mem_set ho with h | h
    · have := hok o h; exact ⟨by have := this.w0; omega, this.w16⟩
    · have := hok _ (List.getElem_mem hi)
      rw [h]; exact ⟨by show (-1 : Int) ≤ d[i].wt - 1; have := this.w0; omega, by show d[i].wt - 1 ≤ 16; have := this.w16; omega⟩
  have hol : d.length = out.length := by rw [hdi, List.length_set]
  have hw0 := (hok _ (List.getElem_mem hi)).w0
  have hw1 := (hok _ (List.getElem_mem hi)).w16
  obtain ⟨pt, hpt⟩ : ∃ pt, pt = d[i].wt := ⟨_, rfl⟩
  rw [← hpt] at hw0 hw1 hdi
  have h63 : d.length ≤ maxLen := by simp only [maxLen]; omega
  have h64 : d.length * 24 ≤ 140737488355328 := by omega
  have ei : (i : Int) < (d.length : Int) := by omega
  have hpos : 0 < d.length := by omega
  have HDI := Lib.hid hdi
  have HPT := Lib.hid hpt
  have HTO := Lib.hid hto
  have HOL := Lib.hid hol
  have HZZ := Lib.hid hzz
  have H63 := Lib.hid h63
  clear h hb1 hsl hxk hsz hdi hpt hto hol hzz hz hout hok h63
  go_enter Tryz.func193, Tryz.ntmps193
  go_wp2_with (at_builtin; refine wpList_append_mine rfl (.tmp 9) (.tmp 10) _ rfl E_otc elOtc_good (w.heap.size + 1) ⟨w.heap.size + 1, 0, none⟩ d rfl HOM.out (· < w.heap.size) A d.length c rfl HSL.out elOtc_F elOtc_one H63.out h64 HSZ.out ?_; intro A1 c1 w1 hs1 hb1; obtain ⟨g, rfl⟩ := own_some hs1 hpos; obtain ⟨_, _, p2, pf⟩ := own_at hs1 hi; rw [← HPT.out] at p2; have hm1 : Mv w (w1.setCell ⟨g, i * 3 + 2, none⟩ (.int .i64 (pt - 1))) (.slice (some ⟨g, 0, none⟩) d.length c1) out r wk := (by rw [HDI.out]; exact Mv.put ⟨HB1.out.trans (hb1.mono (by omega)), hs1, HXK.out.below hb1 (by omega)⟩ hi (pt - 1)); have HM1 := Lib.hid hm1; clear hs1 hb1 hm1)
  generalize w1.setCell _ _ = W2 at HM1 ⊢
  clear p2 pf
  have hdm : d.length = out.length := HOL.out
  go_loopw [22] (fun j wr => ∃ k : Nat, k ≤ d.length ∧ j = .int .i64 k ∧ Hid (Mv w wr (.slice (some ⟨g, 0, none⟩) d.length c1) out r wk) ∧ Hid (∀ j (hj : j < out.length), j < k → ¬ (out[j].runs = r ∧ out[j].wick = wk))) (fun j _ => d.length - (intOf j).toNat)
  case atStart => exact ⟨0, Nat.zero_le _, rfl, HM1, Lib.hid fun j _ h => absurd h (Nat.not_lt_zero _)⟩
  case round =>
    obtain ⟨k, hk, rfl, HM, HNO⟩ := hrel
    by_cases hlt : k < d.length
    · have hko : k < out.length := by rw [← HOL.out]; exact hlt
      obtain ⟨y0, y1, y2, _⟩ := own_at HM.out.own hko
      obtain ⟨x0, x1, _, _, _, _⟩ := Blk.three HM.out.xk
      have hbo := HTO.out _ (List.getElem_mem hko)
      have hgv := fun h1 => give_hit (r := r) (w := wk) hko h1 HNO.out
      have hnx := fun h1 => no_step (r := r) (w := wk) hko HNO.out h1
      have hput := fun W (h : Mv w W (.slice (some ⟨g, 0, none⟩) d.length c1) out r wk) x => h.put hko x
      have hat := fun W (h : Mv w W (.slice (some ⟨g, 0, none⟩) d.length c1) out r wk) => own_at h.own hko
      obtain ⟨⟨pr, pw, qt⟩, hp⟩ : ∃ p, p = out[k] := ⟨_, rfl⟩
      rw [← hp] at y0 y1 y2 hbo hgv hnx hput hat
      dsimp only at y0 y1 y2 hbo hgv hnx hput hat
      obtain ⟨hb0, hb1⟩ := hbo
      have HGV := Lib.hid hgv
      have HNX := Lib.hid hnx
      have HPUT := Lib.hid hput
      have HAT := Lib.hid hat
      have ek : (k : Int) < (d.length : Int) := by omega
      clear hgv hnx hput hat hp hko
      rcases boorJ (pr == r) with e1 | e1
      · rcases boorJ (pw == wk) with e2 | e2
        · have h1 : pr = r := by simpa using e1
          have h2 : pw = wk := by simpa using e2
          have HR := Lib.hid (show z = out.set k ⟨pr, pw, qt + 1⟩ from by rw [HZZ.out, HGV.out ⟨h1, h2⟩])
          clear h1 h2 HGV HNX
          go_wp2_with fail
          go_quiet (fail)
          generalize hW : World.drewN wr _ = W3
          have hm3 := HM.out.below (W' := W3) (hW ▸ Below.drewN_ (Below.refl _ _) _)
          obtain ⟨q0, q1, q2, qf⟩ := HAT.out W3 hm3
          have hm4 := HPUT.out W3 hm3 (qt + 1)
          have HM4 := Lib.hid hm4
          clear hW hm3 hm4 y0 y1 y2 x0 x1
          go_wp2
          go_ret
          exact HR.out ▸ Mv.post HM4.out.bel HM4.out.own
        · have h2 : ¬ pw = wk := by simpa using e2
          have HN2 := Lib.hid (HNX.out fun h => h2 h.2)
          clear h2 HGV HNX
          go_wp2_with fail
          go_quiet (fail)
          go_wp2_with fail
          go_roundw
          case rel => exact ⟨k + 1, by omega, by go_num, Lib.hid (HM.out.below (Below.drewN_ (Below.refl _ _) _)), HN2⟩
          case measure => simp [intOf]; omega
      · have h1 : ¬ pr = r := by simpa using e1
        have HN2 := Lib.hid (HNX.out fun h => h1 h.1)
        clear h1 HGV HNX
        go_wp2_with fail
        go_quiet (fail)
        go_wp2_with fail
        go_roundw
        case rel => exact ⟨k + 1, by omega, by go_num, Lib.hid (HM.out.below (Below.drewN_ (Below.refl _ _) _)), HN2⟩
        case measure => simp [intOf]; omega
    · obtain rfl : k = d.length := by omega
      have hno := HNO.out
      rw [HOL.out] at hno
      have HR := Lib.hid (show z = out ++ [⟨r, wk, 1⟩] from by rw [HZZ.out, give_new hno])
      obtain ⟨x0, x1, x2, xf0, xf1, xf2⟩ := Blk.three HM.out.xk
      have hbx : Blk (wr.setCell ⟨w.heap.size, 2, none⟩ (.int .i64 1)) w.heap.size 46 #[.int .i64 r, .bool wk, .int .i64 1] := HM.out.xk.set_ 2 _
      have hos := (Only.refl w.heap.size wr).setCell (p := ⟨w.heap.size, 2, none⟩) (.inl rfl) (.int .i64 1)
      have hown := HM.out.own.grown elOtc_good hos fun b hb e => by
        have := (HM.out.own.block b hb).1
        have := Option.some.inj e
        omega
      have hbel := HM.out.bel.trans (hos.below (Nat.le_refl _) HM.out.bel.size)
      have hsz : w.heap.size + 1 ≤ (wr.setCell ⟨w.heap.size, 2, none⟩ (.int .i64 1)).heap.size := by have := (HM.out.own.block g rfl); simp; omega
      have HBX := Lib.hid hbx
      have hcn := cells_new (wr.setCell ⟨w.heap.size, 2, none⟩ (.int .i64 1)) [.int .i64 r, .bool wk, .int .i64 1] 46 (0, 0)
      rw [show (wr.setCell ⟨w.heap.size, 2, none⟩ (.int .i64 1)).heap.size = wr.heap.size from by simp] at hcn
      have HCN := Lib.hid hcn
      have HOS := Lib.hid hown
      have HBE := Lib.hid hbel
      have hol : out.length ≤ 100 := by rw [← HOL.out]; exact hl
      have HRM := Lib.hid (room1 (k := 100) hol (by omega))
      clear hcn hno hbx hos hown hbel HNO hlt hk hol
      go_wp2_with (at_builtin; refine wpList_append_sl _ rfl (.tmp 54) (.tmp 56) _ rfl E_otc elOtc_good (w.heap.size + 1) (.slice (some ⟨g, 0, none⟩) d.length c1) out rfl (HOS.out.alloc elOtc_good _) ⟨wr.heap.size, 0, none⟩ 1 [.int .i64 r, .bool wk, .int .i64 1] rfl ⟨r, wk, 1⟩ rfl HCN.out (oneCells rfl) rfl HRM.out.1 HRM.out.2 (base1 hsz _) ?_; intro v6 w6 hown6 hg6 hat6; have hb6 := below_own (Below.alloc HBE.out HBE.out.size (.cells #[.int .i64 r, .bool wk, .int .i64 1] 46)) (HOS.out.alloc elOtc_good (.cells #[.int .i64 r, .bool wk, .int .i64 1] 46)) hg6 (Nat.le_succ _) (base1 hsz _); have HO6 := Lib.hid hown6; have HB6 := Lib.hid hb6; clear hown6 hg6 hat6 hb6)
      go_ret
      exact HR.out ▸ Mv.post HB6.out HO6.out
end Go.Proofs.YtfnfbojaiikigaaGreatDoor

namespace Go.Proofs.YtfnfbojaiikigaaGreatDoor
open Go.RowKit

/-- While the reference shifts: the list that lies is fit to be moved in. -/
structure Sf (w W : World) (v : Value) (l : List Otc) (n : Nat) : Prop where
  bel : Below w.heap.size w W
  sl : Sl 3 elOtc W (· < W.heap.size) v l
  uni : Uni l
  sum : sumK (wAt l) 16 0 = 16
  len : l.length ≤ 16 + n
theorem Sf.ok {w W : World} {v : Value} {l : List Otc} {n : Nat} (h : Sf w W v l n) : ∀ o ∈ l, OkN o := h.uni.small h.sum
theorem Sf.below {w W W' : World} {v : Value} {l : List Otc} {n : Nat} (h : Sf w W v l n) (hb : Below W.heap.size W W') : Sf w W' v l n :=
  ⟨h.bel.trans (hb.mono h.bel.size), h.sl.keep elOtc_good (Same.of_below hb) fun _ hx => Nat.lt_of_lt_of_le hx hb.size, h.uni, h.sum, h.len⟩
theorem fit_uni {l : List Otc} (h : Uni l) (hs : sumK (wAt l) 16 0 = 16) : Fit (wAt l) := ⟨fun j _ => wAt_nonneg (fun o ho => (h.each o ho).2.2) j, hs⟩
theorem Sf.hard {w W W' : World} {v v' : Value} {l : List Otc} {n : Nat} (h : Sf w W v l n) (k : Nat) (hp : ∃ v, Ending.returned v' = .returned v ∧ Sl 3 elOtc W' (· < W'.heap.size) v (hardL k l) ∧ Below W.heap.size W W') : Sf w W' v' (hardL k l) (n + 1) := by
  obtain ⟨v2, e, hs, hb⟩ := hp
  injection e with e
  subst e
  obtain ⟨h1, h2, h3⟩ := hardL_law h.uni k
  exact ⟨h.bel.trans (hb.mono h.bel.size), hs, h1, by rw [h2]; exact ((fit_uni h.uni h.sum).hard k).sum, by have := h.len; omega⟩
theorem Sf.easy {w W W' : World} {v v' : Value} {l : List Otc} {n : Nat} (h : Sf w W v l n) (hp : ∃ v, Ending.returned v' = .returned v ∧ Sl 3 elOtc W' (· < W'.heap.size) v (easyL l) ∧ Below W.heap.size W W') : Sf w W' v' (easyL l) (n + 1) := by
  obtain ⟨v2, e, hs, hb⟩ := hp
  injection e with e
  subst e
  obtain ⟨h1, h2, h3⟩ := easyL_law h.uni
  exact ⟨h.bel.trans (hb.mono h.bel.size), hs, h1, by rw [h2]; exact (fit_uni h.uni h.sum).easy.sum, by have := h.len; omega⟩
theorem Sf.more {w W : World} {v : Value} {l : List Otc} {n m : Nat} (h : Sf w W v l n) (hm : n ≤ m) : Sf w W v l m := ⟨h.bel, h.sl, h.uni, h.sum, by have := h.len; omega⟩
/-- What most and dot hand back lies in the list, or is below 0. -/
theorem most_in (l : List Otc) : mostS l = -1 ∨ ∃ i : Nat, i < l.length ∧ mostS l = i := by
  rcases mostK_at l l.length (Nat.le_refl _) with ⟨h, _⟩ | ⟨i, hi, _, h, _⟩
  · exact .inl h
  · exact .inr ⟨i, hi, h⟩
theorem dot_in (l : List Otc) (t : Bool) : dotS l t = -1 ∨ ∃ i : Nat, i < l.length ∧ dotS l t = i := by
  rcases dotF_at t l 0 with ⟨h, _⟩ | ⟨i, hi, h, _⟩
  · exact .inl h
  · exact .inr ⟨i, hi, by unfold dotS; rw [h]; congr 1; omega⟩
theorem hard_is {l : List Otc} {i : Nat} (h : mostS l = i) (k : Nat) : hardL k l = moveL l i 0 (decide (k % 2 = 1)) := by unfold hardL; rw [h, if_pos (by omega), Int.toNat_natCast]
theorem hard_not {l : List Otc} (h : mostS l = -1) (k : Nat) : hardL k l = l := by unfold hardL; rw [h, if_neg (by omega)]
theorem easy_true {l : List Otc} {i : Nat} (h : dotS l true = i) : easyL l = moveL l i 1 false := by
  have e : easyI l = i := by unfold easyI; rw [if_neg (by omega), h]
  unfold easyL; rw [e, if_pos (by omega), Int.toNat_natCast]
theorem easy_false {l : List Otc} {i : Nat} (h1 : dotS l true = -1) (h : dotS l false = i) : easyL l = moveL l i 1 false := by
  have e : easyI l = i := by unfold easyI; rw [if_pos (by omega), h]
  unfold easyL; rw [e, if_pos (by omega), Int.toNat_natCast]
theorem easy_not {l : List Otc} (h1 : dotS l true = -1) (h : dotS l false = -1) : easyL l = l := by
  have e : easyI l = -1 := by unfold easyI; rw [if_pos (by omega), h]
  unfold easyL; rw [e, if_neg (by omega)]
@[go_sem] theorem build_otcW (b : Bool) (w : World) : (Instr.build 46 #[(1, .bool b)]).run Tryz.prog w = .ok (.agg #[.int .i64 0, .bool b, .int .i64 0]) w := run_build w 46 _ _ (by kernel_rfl)
@[go_sem] theorem build_otcR (x : Int) (w : World) : (Instr.build 46 #[(0, .int .i64 x)]).run Tryz.prog w = .ok (.agg #[.int .i64 x, .bool false, .int .i64 0]) w := run_build w 46 _ _ (by kernel_rfl)
set_option maxRecDepth 100000 in
set_option maxHeartbeats 4000000 in
theorem r_Shift (d : List Otc) (v : Value) (n : Int) (w : World) (h : Sl 3 elOtc w (· < w.heap.size) v d) : Calls Tryz.prog 157 #[v, .int .i64 n] w (OtcPost w (shiftS d n)) := by
  obtain ⟨z, hz⟩ : ∃ z, z = shiftS d n := ⟨_, rfl⟩
  rw [← hz]
  obtain ⟨A, c, rfl, hc, hc2⟩ := h.shape
  have kch := ref_CCheck d _ w h
  have hbad := fun h0 : checkD d ≠ 0 => shift_bad (n := n) h0
  have hfar := fun (h0 : checkD d = 0) => shift_far (n := n) h0
  have hok := fun (h0 : checkD d = 0) (h1 : -12 ≤ n) (h2 : n ≤ 12) => shiftL_norm (n := n) h0 h1 h2
  have hsf : checkD d = 0 → ∀ W, Below w.heap.size w W → Sf w W (.slice A d.length c) (hardLK d 0) 0 := fun h0 W hb =>
    ⟨hb, h.keep elOtc_good (Same.of_below hb) fun _ hx => Nat.lt_of_lt_of_le hx hb.size, uni_of h0, (fit_of h0).sum, by have := (checkD_ok h0).len; show d.length ≤ 16 + 0; omega⟩
  obtain ⟨cd, hcd⟩ : ∃ cd, cd = checkD d := ⟨_, rfl⟩
  rw [← hcd] at kch hbad hfar hok hsf
  have HZ := Lib.hid hz
  have KCH := Lib.hid kch
  clear h hz kch hcd
  go_enter Tryz.func157, Tryz.ntmps157
  by_cases h0 : cd = 0
  · by_cases h1 : n < -12 ∨ 12 < n
    · have hz2 := HZ.out
      rw [hfar h0 h1] at hz2
      have HZ2 := Lib.hid hz2
      have e0 : (cd != 0) = false := by simpa using h0
      clear hz2 hbad hfar hok hsf h0
      rcases h1 with h1 | h1
      · have e1 : decide (n < -12) = true := decide_eq_true h1
        go_wp2_with (go_at_call 94; refine KCH.out.mono ?_; rintro e w1 ⟨rfl, hb1⟩; have HB1 := Lib.hid hb1; clear hb1)
        go_ret2
        exact otc_nil HB1.out HZ2.out
      · have e1 : decide (n < -12) = false := decide_eq_false (by omega)
        have e2 : decide (12 < n) = true := decide_eq_true h1
        go_wp2_with (go_at_call 94; refine KCH.out.mono ?_; rintro e w1 ⟨rfl, hb1⟩; have HB1 := Lib.hid hb1; clear hb1)
        go_ret2
        exact otc_nil HB1.out HZ2.out
    · have hz2 := HZ.out
      rw [← hok h0 (by omega) (by omega)] at hz2
      have HZ2 := Lib.hid hz2
      have HSF := Lib.hid (hsf h0)
      have e0 : (cd != 0) = false := by simpa using h0
      have e1 : decide (n < -12) = false := decide_eq_false (by omega)
      have e2 : decide (12 < n) = false := decide_eq_false (by omega)
      have n0 : -12 ≤ n := by omega
      have n1 : n ≤ 12 := by omega
      clear hz2 hbad hfar hok hsf h0 h1 HZ
      go_wp2_with (go_at_call 94; refine KCH.out.mono ?_; rintro e w1 ⟨rfl, hb1⟩; have HF1 := Lib.hid (HSF.out _ hb1); clear hb1)
      go_loopw [7, 0] (fun i dv wr => ∃ k : Nat, (k = 0 ∨ (k : Int) ≤ n) ∧ i = .int .i64 k ∧ Hid (Sf w wr dv (hardLK d k) k)) (fun i _ _ => 12 - (intOf i).toNat)
      case atStart => exact ⟨0, .inl rfl, rfl, HF1⟩
      case round =>
        obtain ⟨k, hk, rfl, HS⟩ := hrel
        have hk12 : k ≤ 12 := by omega
        by_cases hlt : (k : Int) < n
        · have el : decide ((k : Int) < n) = true := decide_eq_true hlt
          obtain ⟨l, hl⟩ : ∃ l, l = hardLK d k := ⟨_, rfl⟩
          have hnx : hardLK d (k + 1) = hardL k l := by rw [hl]; rfl
          rw [← hl] at HS
          have HNX := Lib.hid hnx
          have km := r_most l _ _ _ HS.out.sl fun _ h => h
          obtain ⟨m, hm⟩ : ∃ m, m = mostS l := ⟨_, rfl⟩
          rw [← hm] at km
          rcases most_in l with h1 | ⟨i, hi, h1⟩
          · obtain rfl : m = -1 := by rw [hm, h1]
            have KM := Lib.hid km
            have HE := Lib.hid (show hardLK d (k + 1) = l from by rw [hnx, hard_not h1])
            clear hm h1 km hnx hl hk
            go_wp2_with (go_at_call 192; refine KM.out.mono ?_; rintro e w2 ⟨rfl, hb2⟩; have HS2 := Lib.hid (HS.out.below hb2); clear hb2)
            go_roundw
            case rel => exact ⟨k + 1, .inr (by omega), by go_num, Lib.hid (by rw [HE.out]; exact HS2.out.more (Nat.le_succ _))⟩
            case measure => simp [intOf]; omega
          · obtain rfl : m = (i : Int) := by rw [hm, h1]
            obtain ⟨b, hb⟩ : ∃ b, b = decide (k % 2 = 1) := ⟨_, rfl⟩
            have em : ((k : Int) % 2 == 1) = b := by
              rw [hb, Bool.eq_iff_iff, beq_iff_eq, decide_eq_true_eq]; omega
            have KM := Lib.hid km
            have hlen := HS.out.len
            have hnew : ∀ W W' v', Below w.heap.size w W → Sf w W v' l k → ∀ v3, Sl 3 elOtc W' (· < W'.heap.size) v3 (moveL l i 0 b) → Below W.heap.size W W' → Sf w W' v3 (hardLK d (k + 1)) (k + 1) := fun W W' v' _ hs v3 h3 hb3 => by
              rw [hnx]; exact hs.hard k ⟨v3, rfl, by rw [hard_is h1, ← hb]; exact h3, hb3⟩
            have HNW := Lib.hid hnew
            have kv := fun W v' (hs : Sf w W v' l k) => r_move l v' i 0 b W hs.sl hi hs.ok (by omega)
            have KV := Lib.hid kv
            clear hm h1 km hnx hl hk hb hnew kv hlen hi
            go_wp2_with (first
              | (go_at_call 192; refine KM.out.mono ?_; rintro e w2 ⟨rfl, hb2⟩; have HS2 := Lib.hid (HS.out.below hb2); clear hb2)
              | (go_at_call 193; refine (KV.out _ _ HS2.out).mono ?_; rintro e w3 ⟨v3, rfl, hs3, hb3⟩; have HS3 := Lib.hid (HNW.out _ w3 _ HS2.out.bel HS2.out v3 hs3 hb3); clear hs3 hb3))
            go_roundw
            case rel => exact ⟨k + 1, .inr (by omega), by go_num, HS3⟩
            case measure => simp [intOf]; omega
        · have el : decide ((k : Int) < n) = false := decide_eq_false hlt
          obtain ⟨d1, hd1⟩ : ∃ d1, d1 = hardLK d n.toNat := ⟨_, rfl⟩
          have hs1 := HS.out.more hk12
          rw [show hardLK d k = d1 from by rw [hd1]; congr 1; omega] at hs1
          have HS1 := Lib.hid hs1
          have hz3 := HZ2.out
          unfold shiftL at hz3
          rw [← hd1] at hz3
          have HZ3 := Lib.hid hz3
          clear hs1 hz3 hd1 HS hlt hk HZ2
          go_wp2
          go_loopw [9, 0] (fun i dv wr => ∃ k : Nat, (k = 0 ∨ (k : Int) ≤ -n) ∧ i = .int .i64 k ∧ Hid (Sf w wr dv (easyLK d1 k) (12 + k))) (fun i _ _ => 12 - (intOf i).toNat)
          case atStart => exact ⟨0, .inl rfl, rfl, HS1⟩
          case round =>
            obtain ⟨k, hk, rfl, HS⟩ := hrel
            have hk12 : k ≤ 12 := by omega
            by_cases hlt : (k : Int) < -n
            · have el : decide ((k : Int) < -n) = true := decide_eq_true hlt
              obtain ⟨l, hl⟩ : ∃ l, l = easyLK d1 k := ⟨_, rfl⟩
              have hnx : easyLK d1 (k + 1) = easyL l := by rw [hl]; rfl
              rw [← hl] at HS
              have kd := fun t W v' (hs : Sf w W v' l (12 + k)) => r_dot l v' t _ W hs.sl fun _ h => h
              have hnew : ∀ i : Nat, easyL l = moveL l i 1 false → ∀ W W' v', Sf w W v' l (12 + k) → ∀ v3, Sl 3 elOtc W' (· < W'.heap.size) v3 (moveL l i 1 false) → Below W.heap.size W W' → Sf w W' v3 (easyLK d1 (k + 1)) (12 + (k + 1)) := fun i he W W' v' hs v3 h3 hb3 => by
                rw [hnx]; exact hs.easy ⟨v3, rfl, by rw [he]; exact h3, hb3⟩
              have kv := fun (i : Nat) (hi : i < l.length) W v' (hs : Sf w W v' l (12 + k)) => r_move l v' i 1 false W hs.sl hi hs.ok (by have := hs.len; omega)
              have hsame : easyL l = l → easyLK d1 (k + 1) = l := fun h => by rw [hnx, h]
              have ht := fun i (h : dotS l true = ((i : Nat) : Int)) => easy_true h
              have hf := fun i (h1 : dotS l true = -1) (h : dotS l false = ((i : Nat) : Int)) => easy_false h1 h
              have hn := fun (h1 : dotS l true = -1) (h : dotS l false = -1) => easy_not h1 h
              have dt := dot_in l true
              have df := dot_in l false
              have kt := kd true
              have kf := kd false
              obtain ⟨mt, hmt⟩ : ∃ m, m = dotS l true := ⟨_, rfl⟩
              obtain ⟨mf, hmf⟩ : ∃ m, m = dotS l false := ⟨_, rfl⟩
              rw [← hmt] at dt kt ht
              rw [← hmf] at df kf
              simp only [← hmt, ← hmf] at hf hn
              have HNW := Lib.hid hnew
              have KV := Lib.hid kv
              have KT := Lib.hid kt
              have KF := Lib.hid kf
              have tokT : True := trivial
              clear hnx hl hk kd hnew kv kt kf hmt hmf
              rcases dt with rfl | ⟨i, hi, rfl⟩
              · rcases df with rfl | ⟨i, hi, rfl⟩
                · have HE := Lib.hid (hsame (hn rfl rfl))
                  clear hsame ht hf hn
                  go_wp2_with (first
                    | (clear tokT; go_at_call 194; refine (KT.out _ _ HS.out).mono ?_; rintro e w2 ⟨rfl, hb2⟩; have HS2 := Lib.hid (HS.out.below hb2); clear hb2; have tokF : True := trivial)
                    | (clear tokF; go_at_call 194; refine (KF.out _ _ HS2.out).mono ?_; rintro e w3 ⟨rfl, hb3⟩; have HS3 := Lib.hid (HS2.out.below hb3); clear hb3))
                  go_roundw
                  case rel => exact ⟨k + 1, .inr (by omega), by go_num, Lib.hid (by rw [HE.out]; exact HS3.out.more (by omega))⟩
                  case measure => simp [intOf]; omega
                · have HE := Lib.hid (hf i rfl rfl)
                  have HI := Lib.hid hi
                  clear hsame ht hf hn hi
                  go_wp2_with (first
                    | (clear tokT; go_at_call 194; refine (KT.out _ _ HS.out).mono ?_; rintro e w2 ⟨rfl, hb2⟩; have HS2 := Lib.hid (HS.out.below hb2); clear hb2; have tokF : True := trivial)
                    | (clear tokF; go_at_call 194; refine (KF.out _ _ HS2.out).mono ?_; rintro e w3 ⟨rfl, hb3⟩; have HS3 := Lib.hid (HS2.out.below hb3); clear hb3; have tokM : True := trivial)
                    | (clear tokM; go_at_call 193; refine (KV.out i HI.out _ _ HS3.out).mono ?_; rintro e w4 ⟨v4, rfl, hs4, hb4⟩; have HS4 := Lib.hid (HNW.out i HE.out _ w4 _ HS3.out v4 hs4 hb4); clear hs4 hb4))
                  go_roundw
                  case rel => exact ⟨k + 1, .inr (by omega), by go_num, HS4⟩
                  case measure => simp [intOf]; omega
              · have HE := Lib.hid (ht i rfl)
                have HI := Lib.hid hi
                clear hsame ht hf hn hi df
                go_wp2_with (first
                  | (clear tokT; go_at_call 194; refine (KT.out _ _ HS.out).mono ?_; rintro e w2 ⟨rfl, hb2⟩; have HS2 := Lib.hid (HS.out.below hb2); clear hb2; have tokM : True := trivial)
                  | (clear tokM; go_at_call 193; refine (KV.out i HI.out _ _ HS2.out).mono ?_; rintro e w4 ⟨v4, rfl, hs4, hb4⟩; have HS4 := Lib.hid (HNW.out i HE.out _ w4 _ HS2.out v4 hs4 hb4); clear hs4 hb4))
                go_roundw
                case rel => exact ⟨k + 1, .inr (by omega), by go_num, HS4⟩
                case measure => simp [intOf]; omega
            · have el : decide ((k : Int) < -n) = false := decide_eq_false hlt
              have hs2 := HS.out
              have hz4 := HZ3.out
              rw [show (-n).toNat = k from by omega] at hz4
              have KN := Lib.hid (hz4 ▸ ref_Norm _ _ _ hs2.sl)
              have HBE := Lib.hid hs2.bel
              clear hs2 hz4 HZ3 HS hlt hk
              go_wp2_with (go_at_call 195; refine KN.out.mono ?_; rintro e w7 ⟨v7, rfl, hs7, hb7⟩; have HS7 := Lib.hid hs7; have HB7 := Lib.hid hb7; clear hs7 hb7)
              go_ret2
              exact ⟨v7, rfl, HS7.out.keep elOtc_good (Same.refl _ _) (fun b hx => ⟨Nat.le_trans HBE.out.size hx.1, hx.2⟩), HBE.out.trans (HB7.out.mono HBE.out.size)⟩
  · have hz2 := HZ.out
    rw [hbad h0] at hz2
    have HZ2 := Lib.hid hz2
    have e0 : (cd != 0) = true := by simp [h0]
    clear hz2 hbad hfar hok hsf h0
    go_wp2_with (go_at_call 94; refine KCH.out.mono ?_; rintro e w1 ⟨rfl, hb1⟩; have HB1 := Lib.hid hb1; clear hb1)
    go_ret2
    exact otc_nil HB1.out (by rw [HZ2.out])
end Go.Proofs.YtfnfbojaiikigaaGreatDoor

namespace Go.Proofs.YtfnfbojaiikigaaGreatDoor
open Go.RowKit

theorem S_beq (a b : List UInt8) : (a == b) = decide (a = b) := by by_cases h : a = b <;> simp [h]
theorem mdlB (m : Mdl) {w : World} {bv wv : Value} (h : MdlAt w (· < w.heap.size) bv wv m) (o : Obj) : MdlAt (w.alloc o) (· < (w.alloc o).heap.size) bv wv m := h.below (Below.alloc (Below.refl _ _) (Nat.le_refl _) o)
set_option maxRecDepth 100000 in
theorem bat_clo (x y : List UInt8) (v : Value) (g : Nat) (w : World) (h : w.cell? ⟨g, 0, none⟩ = some (.string (S x))) (hg : g < w.heap.size) :
    Calls Tryz.prog 122 #[.agg #[.string (S y), v], .pointer (some ⟨g, 0, none⟩)] w fun e w' => e = .returned (.bool (decide (y = x))) ∧ Below w.heap.size w w' := by
  have e1 := S_beq y x
  have hc : (w.alloc (.cells #[.string (S y), v] 77)).cell? ⟨g, 0, none⟩ = some (.string (S x)) := (World.cell?_alloc_lt w _ ⟨g, 0, none⟩ hg).trans h
  clear h
  go_enter Tryz.func122, Tryz.ntmps122
  go_wp2
  go_ret
  exact ⟨rfl, (Below.refl _ _).alloc (Nat.le_refl _) _⟩
theorem bat_drop {l : List Bat} {x : List UInt8} {z : Int} {k : Nat} (hk : k < l.length) (h : z = indexF x ((l.drop k).map (·.name)) k) : z = if l[k].name = x then (k : Int) else indexF x ((l.drop (k + 1)).map (·.name)) (k + 1) := by
  rw [drop_get hk, List.map_cons, indexF] at h; exact h
set_option maxRecDepth 100000 in
set_option maxHeartbeats 2000000 in
theorem bat_IndexFunc (l : List Bat) (lv : Value) (x : List UInt8) (g : Nat) (w : World) (hl : Sl 2 elBat w (· < w.heap.size) lv l) (h : w.cell? ⟨g, 0, none⟩ = some (.string (S x))) (hg : g < w.heap.size) :
    Calls Tryz.prog 121 #[lv, .func (.func 122) #[] #[.pointer (some ⟨g, 0, none⟩)]] w fun e w' => e = .returned (.int .i64 (batI l x)) ∧ Below w.heap.size w w' := by
  obtain ⟨z, hz⟩ : ∃ z, z = batI l x := ⟨_, rfl⟩
  rw [← hz]
  obtain ⟨A, c, rfl, hc, hc2⟩ := hl.shape
  have HZ : Hid (z = indexF x ((l.drop 0).map (·.name)) 0) := hz
  have HL := Lib.hid hl
  have HH := Lib.hid h
  have HG := Lib.hid hg
  have HB := Lib.hid (Below.refl w.heap.size w)
  clear hz hl h hg
  go_enter Tryz.func121, Tryz.ntmps121
  go_wp2
  go_loopw [8] (fun i wr => ∃ k : Nat, k ≤ l.length ∧ i = .int .i64 k ∧ Below w.heap.size w wr ∧ Hid (z = indexF x ((l.drop k).map (·.name)) k)) (fun i _ => l.length - (intOf i).toNat)
  case atStart => exact ⟨0, Nat.zero_le _, rfl, HB.out, HZ⟩
  case round =>
    obtain ⟨k, hk, rfl, hb, hzz⟩ := hrel
    have HBB := Lib.hid hb
    have KC := Lib.hid (fun (y : List UInt8) (v : Value) => bat_clo x y v g wr ((hb.cell (p := ⟨g, 0, none⟩) HG.out).trans HH.out) (Nat.lt_of_lt_of_le HG.out hb.size))
    by_cases hlt : k < l.length
    · obtain ⟨b0, o, v, rfl, hbl, yy0, yy1, _, _⟩ := bat_at HL.out hlt
      have y0 := (hb.cell (p := ⟨b0, o + k * 2, none⟩) hbl).trans yy0
      have y1 := (hb.cell (p := ⟨b0, o + k * 2 + 1, none⟩) hbl).trans yy1
      obtain ⟨p, hp⟩ : ∃ p, p = l[k].name := ⟨_, rfl⟩
      have hz2 := bat_drop hlt hzz.out
      rw [← hp] at hz2 y0
      clear hb hzz hp yy0 yy1
      by_cases hin : p = x
      · rw [if_pos hin] at hz2
        have e1 : decide (p = x) = true := decide_eq_true hin
        have HZZ := Lib.hid hz2
        clear hz2 hin
        go_wp2_with (go_at_call 122; refine (KC.out _ _).mono ?_; rintro e w2 ⟨rfl, hb2⟩; rw [e1]; have HB2 := Lib.hid (HBB.out.trans (hb2.mono HBB.out.size)); clear hb2)
        go_ret
        exact ⟨ret_i HZZ.out.symm, HB2.out⟩
      · rw [if_neg hin] at hz2
        have e1 : decide (p = x) = false := decide_eq_false hin
        have HZZ := Lib.hid hz2
        clear hz2 hin
        go_wp2_with (go_at_call 122; refine (KC.out _ _).mono ?_; rintro e w2 ⟨rfl, hb2⟩; rw [e1]; have HB2 := Lib.hid (HBB.out.trans (hb2.mono HBB.out.size)); clear hb2)
        go_roundw
        case rel => exact ⟨k + 1, by omega, by go_num, HB2.out, HZZ⟩
        case measure => simp [intOf]; omega
    · obtain rfl : k = l.length := by omega
      have hz2 := hzz.out
      rw [List.drop_of_length_le (Nat.le_refl _), List.map_nil, indexF] at hz2
      have HZZ := Lib.hid hz2
      clear hb hzz hz2
      go_wp2
      go_ret
      exact ⟨ret_i HZZ.out.symm, HBB.out⟩
set_option maxRecDepth 100000 in
set_option maxHeartbeats 2000000 in
theorem m_Batter (m : Mdl) (bv wv : Value) (x : List UInt8) (w : World) (h : MdlAt w (· < w.heap.size) bv wv m) :
    Calls Tryz.prog 85 #[.agg #[bv, wv], .string (S x)] w fun e w' => e = .returned (.int .i64 (batI m.bats x)) ∧ Below w.heap.size w w' := by
  obtain ⟨z, hz⟩ : ∃ z, z = batI m.bats x := ⟨_, rfl⟩
  have hb1 : Below w.heap.size w (w.alloc (.cells #[bv, wv] 25)) := Below.alloc (Below.refl _ _) (Nat.le_refl _) _
  have hb2 : Below w.heap.size w ((w.alloc (.cells #[bv, wv] 25)).alloc (.cells #[.string (S x)] 9)) := hb1.alloc hb1.size _
  have hm := h.below hb2
  have hk := bat_IndexFunc m.bats _ x (w.heap.size + 1) _ hm.bat (by have := (Blk.new (w.alloc (.cells #[bv, wv] 25)) 9 #[.string (S x)]).cell 0; rw [World.size_alloc] at this; exact this) (by simp)
  rw [← hz] at hk ⊢
  have HK := Lib.hid hk
  have HB := Lib.hid hb2
  clear hz hb1 hb2 hm hk h
  go_enter Tryz.func85, Tryz.ntmps85
  go_wp2_with (go_at_call 121; refine HK.out.mono ?_; rintro e w2 ⟨rfl, hb⟩; have HB2 := Lib.hid (HB.out.trans (hb.mono HB.out.size)); clear hb)
  go_ret
  exact ⟨rfl, HB2.out⟩
set_option maxRecDepth 100000 in
set_option maxHeartbeats 2000000 in
theorem r_Batter (m : Mdl) (bv wv : Value) (x : List UInt8) (w : World) (h : MdlAt w (· < w.heap.size) bv wv m) :
    Calls Tryz.prog 93 #[.agg #[bv, wv], .string (S x)] w fun e w' => e = .returned (.int .i64 (batI m.bats x)) ∧ Below w.heap.size w w' := by
  obtain ⟨z, hz⟩ : ∃ z, z = batI m.bats x := ⟨_, rfl⟩
  rw [← hz]
  have hl := h.bat
  obtain ⟨l, hle⟩ : ∃ l, l = m.bats := ⟨_, rfl⟩
  rw [← hle] at hz hl
  clear h hle
  obtain ⟨vv, hvv⟩ : ∃ vv, vv = bv := ⟨_, rfl⟩
  rw [← hvv] at hl
  obtain ⟨A, c, hA, hc, hc2⟩ := hl.shape
  rw [hA] at hvv hl
  subst hvv
  clear hA
  have HZ : Hid (z = indexF x ((l.drop 0).map (·.name)) 0) := hz
  have HL := Lib.hid hl
  have HB := Lib.hid ((Below.refl w.heap.size w).alloc (Nat.le_refl _) (.cells #[.slice A l.length c, wv] 25))
  clear hz hl
  go_enter Tryz.func93, Tryz.ntmps93
  go_wp2
  go_loopw [10] (fun i wr => ∃ k : Nat, k ≤ l.length ∧ i = .int .i64 k ∧ Below w.heap.size w wr ∧ Hid (z = indexF x ((l.drop k).map (·.name)) k)) (fun i _ => l.length - (intOf i).toNat)
  case atStart => exact ⟨0, Nat.zero_le _, rfl, HB.out, HZ⟩
  case round =>
    obtain ⟨k, hk, rfl, hb, hzz⟩ := hrel
    have HBB := Lib.hid hb
    by_cases hlt : k < l.length
    · obtain ⟨b0, o, v, rfl, hbl, yy0, yy1, hv, _⟩ := bat_at HL.out hlt
      obtain ⟨A2, c2, hve, _, _⟩ := hv.shape
      obtain ⟨n2, hn2⟩ : ∃ n, n = l[k].dist.length := ⟨_, rfl⟩
      rw [← hn2] at hve
      subst hve
      have y0 := (hb.cell (p := ⟨b0, o + k * 2, none⟩) hbl).trans yy0
      have y1 := (hb.cell (p := ⟨b0, o + k * 2 + 1, none⟩) hbl).trans yy1
      obtain ⟨p, hp⟩ : ∃ p, p = l[k].name := ⟨_, rfl⟩
      have hz2 := bat_drop hlt hzz.out
      rw [← hp] at hz2 y0
      have e0 := S_beq p x
      clear hb hzz hp yy0 yy1 hv hn2
      by_cases hin : p = x
      · rw [if_pos hin] at hz2
        rw [decide_eq_true hin] at e0
        have HZZ := Lib.hid hz2
        clear hz2 hin
        go_wp2
        go_ret
        exact ⟨ret_i HZZ.out.symm, HBB.out.alloc HBB.out.size _⟩
      · rw [if_neg hin] at hz2
        rw [decide_eq_false hin] at e0
        have HZZ := Lib.hid hz2
        clear hz2 hin
        go_wp2
        go_roundw
        case rel => exact ⟨k + 1, by omega, by go_num, HBB.out.alloc HBB.out.size _, HZZ⟩
        case measure => simp [intOf]; omega
    · obtain rfl : k = l.length := by omega
      have hz2 := hzz.out
      rw [List.drop_of_length_le (Nat.le_refl _), List.map_nil, indexF] at hz2
      have HZZ := Lib.hid hz2
      clear hb hzz hz2
      go_wp2
      go_ret
      exact ⟨ret_i HZZ.out.symm, HBB.out⟩
set_option maxRecDepth 100000 in
theorem bow_clo (x y : List UInt8) (v : Value) (g : Nat) (w : World) (h : w.cell? ⟨g, 0, none⟩ = some (.string (S x))) (hg : g < w.heap.size) :
    Calls Tryz.prog 124 #[.agg #[.string (S y), v], .pointer (some ⟨g, 0, none⟩)] w fun e w' => e = .returned (.bool (decide (y = x))) ∧ Below w.heap.size w w' := by
  have e1 := S_beq y x
  have hc : (w.alloc (.cells #[.string (S y), v] 90)).cell? ⟨g, 0, none⟩ = some (.string (S x)) := (World.cell?_alloc_lt w _ ⟨g, 0, none⟩ hg).trans h
  clear h
  go_enter Tryz.func124, Tryz.ntmps124
  go_wp2
  go_ret
  exact ⟨rfl, (Below.refl _ _).alloc (Nat.le_refl _) _⟩
theorem bow_drop {l : List Bow} {x : List UInt8} {z : Int} {k : Nat} (hk : k < l.length) (h : z = indexF x ((l.drop k).map (·.name)) k) : z = if l[k].name = x then (k : Int) else indexF x ((l.drop (k + 1)).map (·.name)) (k + 1) := by
  rw [drop_get hk, List.map_cons, indexF] at h; exact h
set_option maxRecDepth 100000 in
set_option maxHeartbeats 2000000 in
theorem bow_IndexFunc (l : List Bow) (lv : Value) (x : List UInt8) (g : Nat) (w : World) (hl : Sl 2 elBow w (· < w.heap.size) lv l) (h : w.cell? ⟨g, 0, none⟩ = some (.string (S x))) (hg : g < w.heap.size) :
    Calls Tryz.prog 123 #[lv, .func (.func 124) #[] #[.pointer (some ⟨g, 0, none⟩)]] w fun e w' => e = .returned (.int .i64 (bowI l x)) ∧ Below w.heap.size w w' := by
  obtain ⟨z, hz⟩ : ∃ z, z = bowI l x := ⟨_, rfl⟩
  rw [← hz]
  obtain ⟨A, c, rfl, hc, hc2⟩ := hl.shape
  have HZ : Hid (z = indexF x ((l.drop 0).map (·.name)) 0) := hz
  have HL := Lib.hid hl
  have HH := Lib.hid h
  have HG := Lib.hid hg
  have HB := Lib.hid (Below.refl w.heap.size w)
  clear hz hl h hg
  go_enter Tryz.func123, Tryz.ntmps123
  go_wp2
  go_loopw [8] (fun i wr => ∃ k : Nat, k ≤ l.length ∧ i = .int .i64 k ∧ Below w.heap.size w wr ∧ Hid (z = indexF x ((l.drop k).map (·.name)) k)) (fun i _ => l.length - (intOf i).toNat)
  case atStart => exact ⟨0, Nat.zero_le _, rfl, HB.out, HZ⟩
  case round =>
    obtain ⟨k, hk, rfl, hb, hzz⟩ := hrel
    have HBB := Lib.hid hb
    have KC := Lib.hid (fun (y : List UInt8) (v : Value) => bow_clo x y v g wr ((hb.cell (p := ⟨g, 0, none⟩) HG.out).trans HH.out) (Nat.lt_of_lt_of_le HG.out hb.size))
    by_cases hlt : k < l.length
    · obtain ⟨b0, o, rfl, hbl, yy0, yy1, _⟩ := bow_at HL.out hlt
      have y0 := (hb.cell (p := ⟨b0, o + k * 2, none⟩) hbl).trans yy0
      have y1 := (hb.cell (p := ⟨b0, o + k * 2 + 1, none⟩) hbl).trans yy1
      obtain ⟨sh, hsh⟩ : ∃ s, s = l[k].shift := ⟨_, rfl⟩
      rw [← hsh] at y1
      obtain ⟨p, hp⟩ : ∃ p, p = l[k].name := ⟨_, rfl⟩
      have hz2 := bow_drop hlt hzz.out
      rw [← hp] at hz2 y0
      clear hb hzz hp yy0 yy1 hsh
      by_cases hin : p = x
      · rw [if_pos hin] at hz2
        have e1 : decide (p = x) = true := decide_eq_true hin
        have HZZ := Lib.hid hz2
        clear hz2 hin
        go_wp2_with (go_at_call 124; refine (KC.out _ _).mono ?_; rintro e w2 ⟨rfl, hb2⟩; rw [e1]; have HB2 := Lib.hid (HBB.out.trans (hb2.mono HBB.out.size)); clear hb2)
        go_ret
        exact ⟨ret_i HZZ.out.symm, HB2.out⟩
      · rw [if_neg hin] at hz2
        have e1 : decide (p = x) = false := decide_eq_false hin
        have HZZ := Lib.hid hz2
        clear hz2 hin
        go_wp2_with (go_at_call 124; refine (KC.out _ _).mono ?_; rintro e w2 ⟨rfl, hb2⟩; rw [e1]; have HB2 := Lib.hid (HBB.out.trans (hb2.mono HBB.out.size)); clear hb2)
        go_roundw
        case rel => exact ⟨k + 1, by omega, by go_num, HB2.out, HZZ⟩
        case measure => simp [intOf]; omega
    · obtain rfl : k = l.length := by omega
      have hz2 := hzz.out
      rw [List.drop_of_length_le (Nat.le_refl _), List.map_nil, indexF] at hz2
      have HZZ := Lib.hid hz2
      clear hb hzz hz2
      go_wp2
      go_ret
      exact ⟨ret_i HZZ.out.symm, HBB.out⟩
set_option maxRecDepth 100000 in
set_option maxHeartbeats 2000000 in
theorem m_Bowler (m : Mdl) (bv wv : Value) (x : List UInt8) (w : World) (h : MdlAt w (· < w.heap.size) bv wv m) :
    Calls Tryz.prog 86 #[.agg #[bv, wv], .string (S x)] w fun e w' => e = .returned (.int .i64 (bowI m.bows x)) ∧ Below w.heap.size w w' := by
  obtain ⟨z, hz⟩ : ∃ z, z = bowI m.bows x := ⟨_, rfl⟩
  have hb1 : Below w.heap.size w (w.alloc (.cells #[bv, wv] 25)) := Below.alloc (Below.refl _ _) (Nat.le_refl _) _
  have hb2 : Below w.heap.size w ((w.alloc (.cells #[bv, wv] 25)).alloc (.cells #[.string (S x)] 9)) := hb1.alloc hb1.size _
  have hm := h.below hb2
  have hk := bow_IndexFunc m.bows _ x (w.heap.size + 1) _ hm.bow (by have := (Blk.new (w.alloc (.cells #[bv, wv] 25)) 9 #[.string (S x)]).cell 0; rw [World.size_alloc] at this; exact this) (by simp)
  rw [← hz] at hk ⊢
  have HK := Lib.hid hk
  have HB := Lib.hid hb2
  clear hz hb1 hb2 hm hk h
  go_enter Tryz.func86, Tryz.ntmps86
  go_wp2_with (go_at_call 123; refine HK.out.mono ?_; rintro e w2 ⟨rfl, hb⟩; have HB2 := Lib.hid (HB.out.trans (hb.mono HB.out.size)); clear hb)
  go_ret
  exact ⟨rfl, HB2.out⟩
set_option maxRecDepth 100000 in
set_option maxHeartbeats 2000000 in
theorem r_Bowler (m : Mdl) (bv wv : Value) (x : List UInt8) (w : World) (h : MdlAt w (· < w.heap.size) bv wv m) :
    Calls Tryz.prog 95 #[.agg #[bv, wv], .string (S x)] w fun e w' => e = .returned (.int .i64 (bowI m.bows x)) ∧ Below w.heap.size w w' := by
  obtain ⟨z, hz⟩ : ∃ z, z = bowI m.bows x := ⟨_, rfl⟩
  rw [← hz]
  have hl := h.bow
  obtain ⟨l, hle⟩ : ∃ l, l = m.bows := ⟨_, rfl⟩
  rw [← hle] at hz hl
  clear h hle
  obtain ⟨vv, hvv⟩ : ∃ vv, vv = wv := ⟨_, rfl⟩
  rw [← hvv] at hl
  obtain ⟨A, c, hA, hc, hc2⟩ := hl.shape
  rw [hA] at hvv hl
  subst hvv
  clear hA
  have HZ : Hid (z = indexF x ((l.drop 0).map (·.name)) 0) := hz
  have HL := Lib.hid hl
  have HB := Lib.hid ((Below.refl w.heap.size w).alloc (Nat.le_refl _) (.cells #[bv, .slice A l.length c] 25))
  clear hz hl
  go_enter Tryz.func95, Tryz.ntmps95
  go_wp2
  go_loopw [10] (fun i wr => ∃ k : Nat, k ≤ l.length ∧ i = .int .i64 k ∧ Below w.heap.size w wr ∧ Hid (z = indexF x ((l.drop k).map (·.name)) k)) (fun i _ => l.length - (intOf i).toNat)
  case atStart => exact ⟨0, Nat.zero_le _, rfl, HB.out, HZ⟩
  case round =>
    obtain ⟨k, hk, rfl, hb, hzz⟩ := hrel
    have HBB := Lib.hid hb
    by_cases hlt : k < l.length
    · obtain ⟨b0, o, rfl, hbl, yy0, yy1, _⟩ := bow_at HL.out hlt
      have y0 := (hb.cell (p := ⟨b0, o + k * 2, none⟩) hbl).trans yy0
      have y1 := (hb.cell (p := ⟨b0, o + k * 2 + 1, none⟩) hbl).trans yy1
      obtain ⟨sh, hsh⟩ : ∃ s, s = l[k].shift := ⟨_, rfl⟩
      rw [← hsh] at y1
      obtain ⟨p, hp⟩ : ∃ p, p = l[k].name := ⟨_, rfl⟩
      have hz2 := bow_drop hlt hzz.out
      rw [← hp] at hz2 y0
      have e0 := S_beq p x
      clear hb hzz hp yy0 yy1 hsh
      by_cases hin : p = x
      · rw [if_pos hin] at hz2
        rw [decide_eq_true hin] at e0
        have HZZ := Lib.hid hz2
        clear hz2 hin
        go_wp2
        go_ret
        exact ⟨ret_i HZZ.out.symm, HBB.out.alloc HBB.out.size _⟩
      · rw [if_neg hin] at hz2
        rw [decide_eq_false hin] at e0
        have HZZ := Lib.hid hz2
        clear hz2 hin
        go_wp2
        go_roundw
        case rel => exact ⟨k + 1, by omega, by go_num, HBB.out.alloc HBB.out.size _, HZZ⟩
        case measure => simp [intOf]; omega
    · obtain rfl : k = l.length := by omega
      have hz2 := hzz.out
      rw [List.drop_of_length_le (Nat.le_refl _), List.map_nil, indexF] at hz2
      have HZZ := Lib.hid hz2
      clear hb hzz hz2
      go_wp2
      go_ret
      exact ⟨ret_i HZZ.out.symm, HBB.out⟩
end Go.Proofs.YtfnfbojaiikigaaGreatDoor

namespace Go.Proofs.YtfnfbojaiikigaaGreatDoor
open Go.RowKit

/-- A model boxed in block g, a copy of an element in block B. -/
structure TwoM (w W : World) (g B : Nat) (t : TypeId) (bv wv x v : Value) : Prop where
  bel : Below w.heap.size w W
  box : Blk W g 25 #[bv, wv]
  el : Blk W B t #[x, v]
theorem Blk.duo {w : World} {g : Nat} {t : TypeId} {a b : Value} (h : Blk w g t #[a, b]) : w.cell? ⟨g, 0, none⟩ = some a ∧ w.cell? ⟨g, 1, none⟩ = some b ∧ w.frozen? ⟨g, 0, none⟩ = false ∧ w.frozen? ⟨g, 1, none⟩ = false := ⟨h.cell 0, h.cell 1, h.frozen 0, h.frozen 1⟩
theorem TwoM.below {w W W' : World} {g B : Nat} {t : TypeId} {bv wv x v : Value} (h : TwoM w W g B t bv wv x v) (hb : Below W.heap.size W W') : TwoM w W' g B t bv wv x v := ⟨h.bel.trans (hb.mono h.bel.size), h.box.below hb h.box.lt, h.el.below hb h.el.lt⟩
theorem TwoM.cells {w W : World} {g B : Nat} {t : TypeId} {bv wv x v : Value} (h : TwoM w W g B t bv wv x v) : W.cell? ⟨g, 0, none⟩ = some bv ∧ W.cell? ⟨g, 1, none⟩ = some wv ∧ W.cell? ⟨B, 0, none⟩ = some x ∧ W.cell? ⟨B, 1, none⟩ = some v := ⟨h.box.duo.1, h.box.duo.2.1, h.el.duo.1, h.el.duo.2.1⟩
theorem TwoM.new {w W : World} {g : Nat} {bv wv : Value} (hb : Below w.heap.size w W) (hx : Blk W g 25 #[bv, wv]) (t : TypeId) (x v : Value) : TwoM w (W.alloc (.cells #[x, v] t)) g W.heap.size t bv wv x v := ⟨hb.alloc hb.size _, hx.alloc _, Blk.new _ _ _⟩
theorem bat_ways (pre : List (List UInt8)) (b : Bat) : (nameS b.name = false ∧ batErr pre b = 5) ∨ (nameS b.name = true ∧ decide (b.name ∈ pre) = true ∧ batErr pre b = 7) ∨ (nameS b.name = true ∧ decide (b.name ∈ pre) = false ∧ batErr pre b = checkD b.dist) := by
  unfold batErr
  cases h1 : nameS b.name
  · exact .inl ⟨rfl, by simp⟩
  · by_cases h2 : b.name ∈ pre
    · exact .inr (.inl ⟨rfl, by simp [h2], by rw [if_neg (by simp), if_pos h2]⟩)
    · exact .inr (.inr ⟨rfl, by simp [h2], by rw [if_neg (by simp), if_neg h2]⟩)
theorem bow_ways (pre : List (List UInt8)) (b : Bow) : (nameS b.name = false ∧ bowErr pre b = 5) ∨ (nameS b.name = true ∧ decide (b.name ∈ pre) = true ∧ bowErr pre b = 7) ∨ (nameS b.name = true ∧ decide (b.name ∈ pre) = false ∧ b.shift < -12 ∧ bowErr pre b = 2) ∨ (nameS b.name = true ∧ decide (b.name ∈ pre) = false ∧ ¬ b.shift < -12 ∧ 12 < b.shift ∧ bowErr pre b = 2) ∨ (nameS b.name = true ∧ decide (b.name ∈ pre) = false ∧ ¬ b.shift < -12 ∧ ¬ 12 < b.shift ∧ bowErr pre b = 0) := by
  unfold bowErr
  cases h1 : nameS b.name
  · exact .inl ⟨rfl, by simp⟩
  · by_cases h2 : b.name ∈ pre
    · exact .inr (.inl ⟨rfl, by simp [h2], by rw [if_neg (by simp), if_pos h2]⟩)
    · by_cases h3 : b.shift < -12
      · exact .inr (.inr (.inl ⟨rfl, by simp [h2], h3, by rw [if_neg (by simp), if_neg h2, if_pos (.inl h3)]⟩))
      · by_cases h4 : 12 < b.shift
        · exact .inr (.inr (.inr (.inl ⟨rfl, by simp [h2], h3, h4, by rw [if_neg (by simp), if_neg h2, if_pos (.inr h4)]⟩)))
        · exact .inr (.inr (.inr (.inr ⟨rfl, by simp [h2], h3, h4, by rw [if_neg (by simp), if_neg h2, if_neg (by omega)]⟩)))
/-- What is left of a check: the batters from k on, then the bowlers. -/
def restM (m : Mdl) (k : Nat) : Int := if batsF ((m.bats.take k).map (·.name)) (m.bats.drop k) ≠ 0 then batsF ((m.bats.take k).map (·.name)) (m.bats.drop k) else bowsF [] m.bows
def restW (m : Mdl) (k : Nat) : Int := bowsF ((m.bows.take k).map (·.name)) (m.bows.drop k)
theorem restM_at {m : Mdl} {k : Nat} (hk : k < m.bats.length) : restM m k = if batErr ((m.bats.take k).map (·.name)) m.bats[k] ≠ 0 then batErr ((m.bats.take k).map (·.name)) m.bats[k] else restM m (k + 1) := by
  unfold restM
  rw [batsF_at hk]
  by_cases h : batErr ((m.bats.take k).map (·.name)) m.bats[k] ≠ 0
  · simp only [if_pos h]
  · rw [if_neg h, if_neg h]
theorem restM_end {m : Mdl} : restM m m.bats.length = restW m 0 := by
  unfold restM restW
  rw [List.drop_of_length_le (Nat.le_refl _), batsF, if_neg (by simp)]
  simp
theorem restW_at {m : Mdl} {k : Nat} (hk : k < m.bows.length) : restW m k = if bowErr ((m.bows.take k).map (·.name)) m.bows[k] ≠ 0 then bowErr ((m.bows.take k).map (·.name)) m.bows[k] else restW m (k + 1) := bowsF_at hk
theorem restW_end {m : Mdl} : restW m m.bows.length = 0 := by
  unfold restW
  rw [List.drop_of_length_le (Nat.le_refl _), bowsF]
theorem checkM_rest {m : Mdl} (h1 : ¬ (m.bats.length = 0 ∨ m.bows.length = 0)) (h2 : ¬ (11 < m.bats.length ∨ 11 < m.bows.length)) : checkM m = restM m 0 := by
  unfold checkM restM
  rw [if_neg h1, if_neg h2]; simp
set_option maxRecDepth 100000 in
set_option maxHeartbeats 4000000 in
theorem m_Check (m : Mdl) (bv wv : Value) (w : World) (h : MdlAt w (· < w.heap.size) bv wv m) :
    Calls Tryz.prog 41 #[.agg #[bv, wv]] w fun e w' => e = .returned (.int .i64 (checkM m)) ∧ Below w.heap.size w w' := by
  obtain ⟨z, hz⟩ : ∃ z, z = checkM m := ⟨_, rfl⟩
  rw [← hz]
  obtain ⟨A, c, rfl, hc, hc2⟩ := h.bat.shape
  obtain ⟨A', c', rfl, hc', hc2'⟩ := h.bow.shape
  have HM := Lib.hid h
  have hb1 : Below w.heap.size w (w.alloc (.cells #[.slice A m.bats.length c, .slice A' m.bows.length c'] 25)) := Below.alloc (Below.refl _ _) (Nat.le_refl _) _
  have hx1 := Blk.new w 25 #[.slice A m.bats.length c, .slice A' m.bows.length c']
  by_cases h1 : m.bats.length = 0 ∨ m.bows.length = 0
  · have HZ := Lib.hid (show z = 6 by rw [hz]; unfold checkM; rw [if_pos h1])
    have HB1 := Lib.hid hb1
    clear hz h hb1 hx1
    by_cases h2 : m.bats.length = 0
    · have e1 : ((m.bats.length : Int) == 0) = true := beq_iff_eq.2 (by omega)
      have h3 := Lib.hid h2
      clear h1 h2
      go_enter Tryz.func41, Tryz.ntmps41
      go_wp2
      go_ret
      exact ⟨ret_i HZ.out.symm, HB1.out⟩
    · have e1 : ((m.bats.length : Int) == 0) = false := beq_eq_false_iff_ne.2 (by omega)
      have e2 : ((m.bows.length : Int) == 0) = true := beq_iff_eq.2 (by omega)
      have h3 := Lib.hid h2
      clear h1 h2
      go_enter Tryz.func41, Tryz.ntmps41
      go_wp2
      go_ret
      exact ⟨ret_i HZ.out.symm, HB1.out⟩
  have e1 : ((m.bats.length : Int) == 0) = false := beq_eq_false_iff_ne.2 (by omega)
  have e2 : ((m.bows.length : Int) == 0) = false := beq_eq_false_iff_ne.2 (by omega)
  by_cases h2 : 11 < m.bats.length ∨ 11 < m.bows.length
  · have HZ := Lib.hid (show z = 9 by rw [hz]; unfold checkM; rw [if_neg h1, if_pos h2])
    have HB1 := Lib.hid hb1
    clear hz h hb1 hx1 h1
    by_cases h3 : 11 < m.bats.length
    · have e3 : (11 : Int) < (m.bats.length : Int) := by omega
      clear h2 h3
      go_enter Tryz.func41, Tryz.ntmps41
      go_wp2
      go_ret
      exact ⟨ret_i HZ.out.symm, HB1.out⟩
    · have e3 : ¬ (11 : Int) < (m.bats.length : Int) := by omega
      have e4 : (11 : Int) < (m.bows.length : Int) := by omega
      clear h2 h3
      go_enter Tryz.func41, Tryz.ntmps41
      go_wp2
      go_ret
      exact ⟨ret_i HZ.out.symm, HB1.out⟩
  have HZ0 := Lib.hid (show z = restM m 0 by rw [hz, checkM_rest h1 h2])
  have e3 : ¬ (11 : Int) < (m.bats.length : Int) := by omega
  have e4 : ¬ (11 : Int) < (m.bows.length : Int) := by omega
  have HB1 := Lib.hid hb1
  have HX1 := Lib.hid hx1
  clear hz h hb1 hx1 h1 h2
  go_enter Tryz.func41, Tryz.ntmps41
  go_wp2
  go_loopw [33] (fun i wr => ∃ k : Nat, k ≤ m.bats.length ∧ i = .int .i64 k ∧ Hid (Below w.heap.size w wr ∧ Blk wr w.heap.size 25 #[.slice A m.bats.length c, .slice A' m.bows.length c']) ∧ Hid (z = restM m k)) (fun i _ => m.bats.length - (intOf i).toNat)
  case atStart => exact ⟨0, Nat.zero_le _, rfl, Lib.hid ⟨HB1.out, HX1.out⟩, HZ0⟩
  case round =>
    clear HB1 HX1
    obtain ⟨k, hk, rfl, HW, hzz⟩ := hrel
    obtain ⟨r0, r1, _, _⟩ := HW.out.2.duo
    by_cases hlt : k < m.bats.length
    · obtain ⟨b0, o, v, rfl, hbl, yy0, yy1, hv, hpl⟩ := bat_at HM.out.bat hlt
      have y0 := (HW.out.1.cell (p := ⟨b0, o + k * 2, none⟩) hbl).trans yy0
      have y1 := (HW.out.1.cell (p := ⟨b0, o + k * 2 + 1, none⟩) hbl).trans yy1
      have hz2 := hzz.out
      rw [restM_at hlt] at hz2
      have hbf := batI_before hlt
      have hw := bat_ways ((m.bats.take k).map (·.name)) m.bats[k]
      obtain ⟨⟨p, d⟩, hp⟩ : ∃ b, b = m.bats[k] := ⟨_, rfl⟩
      rw [← hp] at y0 hv hpl hz2 hbf hw
      dsimp only at y0 hv hpl hbf hw
      obtain ⟨A2, c2, hve, _, _⟩ := hv.shape
      obtain ⟨n2, hn2⟩ : ∃ n, n = d.length := ⟨_, rfl⟩
      rw [← hn2] at hve
      subst hve
      generalize (m.bats.take k).map (·.name) = pre at hz2 hbf hw
      have hx := TwoM.new HW.out.1 HW.out.2 77 (.string (S p)) (.slice A2 n2 c2)
      obtain ⟨x0, x1, x2, x3⟩ := hx.cells
      have HX := Lib.hid hx
      clear hzz hp yy0 yy1 hx
      have tok0 : True := trivial
      have kb : ∀ W, Below w.heap.size w W → Calls Tryz.prog 85 #[.agg #[.slice (some ⟨b0, o, none⟩) m.bats.length c, .slice A' m.bows.length c'], .string (S p)] W fun e W' => e = .returned (.int .i64 (batI m.bats p)) ∧ Below W.heap.size W W' := fun W hW => m_Batter m _ _ p W (HM.out.below hW)
      have kd : ∀ W, Below w.heap.size w W → Calls Tryz.prog 83 #[.slice A2 n2 c2] W fun e W' => e = .returned (.int .i64 (checkD d)) ∧ Below W.heap.size W W' := fun W hW => ch_Check d _ W (hv.keep elOtc_good (Same.of_below hW) fun b h => Nat.lt_of_lt_of_le h hW.size)
      obtain ⟨i, hi⟩ : ∃ i, i = batI m.bats p := ⟨_, rfl⟩
      obtain ⟨u, hu⟩ : ∃ u, u = checkD d := ⟨_, rfl⟩
      rw [← hi] at kb hbf
      rw [← hu] at kd hw
      have KB := Lib.hid kb
      have KD := Lib.hid kd
      clear kb kd hi hu hn2
      rcases hw with ⟨hnm, he⟩ | ⟨hnm, hin, he⟩ | ⟨hnm, hin, he⟩
      · rw [he, if_pos (by decide)] at hz2
        have kn : ∀ W, Calls Tryz.prog 84 #[.string (S p)] W fun e W' => e = .returned (.bool false) ∧ Below W.heap.size W W' := fun W => (text_Name (S p) W (by rw [S_size]; exact hpl)).mono fun e W' h => by rw [S_data, hnm] at h; exact h
        have KN := Lib.hid kn
        have HZZ := Lib.hid hz2
        clear kn hz2 he hnm hbf hv hpl
        go_wp2_with (first
          | (clear tok0; go_at_call 84; refine (KN.out _).mono ?_; rintro e w2 ⟨rfl, hb2⟩; have HX2 := Lib.hid (HX.out.below hb2); obtain ⟨p0, p1, p2, p3⟩ := HX2.out.cells; clear hb2; have tok1 : True := trivial))
        go_ret
        exact ⟨ret_i HZZ.out.symm, HX2.out.bel⟩
      · rw [he, if_pos (by decide)] at hz2
        have kn : ∀ W, Calls Tryz.prog 84 #[.string (S p)] W fun e W' => e = .returned (.bool true) ∧ Below W.heap.size W W' := fun W => (text_Name (S p) W (by rw [S_size]; exact hpl)).mono fun e W' h => by rw [S_data, hnm] at h; exact h
        have KN := Lib.hid kn
        have HZZ := Lib.hid hz2
        rw [hin] at hbf
        clear kn hz2 he hnm hin hv hpl
        go_wp2_with (first
          | (clear tok0; go_at_call 84; refine (KN.out _).mono ?_; rintro e w2 ⟨rfl, hb2⟩; have HX2 := Lib.hid (HX.out.below hb2); obtain ⟨p0, p1, p2, p3⟩ := HX2.out.cells; clear hb2; have tok1 : True := trivial)
          | (clear tok1; go_at_call 85; refine (KB.out _ HX2.out.bel).mono ?_; rintro e w3 ⟨rfl, hb3⟩; have HX3 := Lib.hid (HX2.out.below hb3); obtain ⟨q0, q1, q2, q3⟩ := HX3.out.cells; clear hb3; have tok2 : True := trivial))
        go_ret
        exact ⟨ret_i HZZ.out.symm, HX3.out.bel⟩
      · rw [he] at hz2
        have kn : ∀ W, Calls Tryz.prog 84 #[.string (S p)] W fun e W' => e = .returned (.bool true) ∧ Below W.heap.size W W' := fun W => (text_Name (S p) W (by rw [S_size]; exact hpl)).mono fun e W' h => by rw [S_data, hnm] at h; exact h
        have KN := Lib.hid kn
        rw [hin] at hbf
        by_cases hu0 : u = 0
        · rw [if_neg (by simp [hu0])] at hz2
          have eu : (u != 0) = false := by simp [hu0]
          have HZZ := Lib.hid hz2
          clear kn hz2 he hnm hin hu0 hv hpl
          go_wp2_with (first
          | (clear tok0; go_at_call 84; refine (KN.out _).mono ?_; rintro e w2 ⟨rfl, hb2⟩; have HX2 := Lib.hid (HX.out.below hb2); obtain ⟨p0, p1, p2, p3⟩ := HX2.out.cells; clear hb2; have tok1 : True := trivial)
          | (clear tok1; go_at_call 85; refine (KB.out _ HX2.out.bel).mono ?_; rintro e w3 ⟨rfl, hb3⟩; have HX3 := Lib.hid (HX2.out.below hb3); obtain ⟨q0, q1, q2, q3⟩ := HX3.out.cells; clear hb3; have tok2 : True := trivial)
          | (clear tok2; go_at_call 83; refine (KD.out _ HX3.out.bel).mono ?_; rintro e w4 ⟨rfl, hb4⟩; have HX4 := Lib.hid (HX3.out.below hb4); clear hb4; have tok3 : True := trivial))
          go_roundw
          case rel => exact ⟨k + 1, by omega, by go_num, Lib.hid ⟨HX4.out.bel, HX4.out.box⟩, HZZ⟩
          case measure => simp [intOf]; omega
        · rw [if_pos hu0] at hz2
          have eu : (u != 0) = true := by simp [hu0]
          have HZZ := Lib.hid hz2
          clear kn hz2 he hnm hin hu0 hv hpl
          go_wp2_with (first
          | (clear tok0; go_at_call 84; refine (KN.out _).mono ?_; rintro e w2 ⟨rfl, hb2⟩; have HX2 := Lib.hid (HX.out.below hb2); obtain ⟨p0, p1, p2, p3⟩ := HX2.out.cells; clear hb2; have tok1 : True := trivial)
          | (clear tok1; go_at_call 85; refine (KB.out _ HX2.out.bel).mono ?_; rintro e w3 ⟨rfl, hb3⟩; have HX3 := Lib.hid (HX2.out.below hb3); obtain ⟨q0, q1, q2, q3⟩ := HX3.out.cells; clear hb3; have tok2 : True := trivial)
          | (clear tok2; go_at_call 83; refine (KD.out _ HX3.out.bel).mono ?_; rintro e w4 ⟨rfl, hb4⟩; have HX4 := Lib.hid (HX3.out.below hb4); clear hb4; have tok3 : True := trivial))
          go_ret
          exact ⟨ret_i HZZ.out.symm, HX4.out.bel⟩
    · obtain rfl : k = m.bats.length := by omega
      have hz2 := hzz.out
      rw [restM_end] at hz2
      have HZ1 := Lib.hid hz2
      have HW1 := HW
      clear hzz hz2 HW HZ0
      obtain ⟨wo, rfl⟩ : ∃ wo : World, wo = wr := ⟨_, rfl⟩
      go_wp2
      go_loopw [60] (fun i wr => ∃ k : Nat, k ≤ m.bows.length ∧ i = .int .i64 k ∧ Hid (Below w.heap.size w wr ∧ Blk wr w.heap.size 25 #[.slice A m.bats.length c, .slice A' m.bows.length c']) ∧ Hid (z = restW m k)) (fun i _ => m.bows.length - (intOf i).toNat)
      case atStart => exact ⟨0, Nat.zero_le _, rfl, HW1, HZ1⟩
      case round =>
        clear HW1 HZ1 r0 r1
        obtain ⟨k, hk, rfl, HW, hzz⟩ := hrel
        obtain ⟨r0, r1, _, _⟩ := HW.out.2.duo
        by_cases hlt : k < m.bows.length
        · obtain ⟨b0, o, rfl, hbl, yy0, yy1, hpl⟩ := bow_at HM.out.bow hlt
          have y0 := (HW.out.1.cell (p := ⟨b0, o + k * 2, none⟩) hbl).trans yy0
          have y1 := (HW.out.1.cell (p := ⟨b0, o + k * 2 + 1, none⟩) hbl).trans yy1
          have hz2 := hzz.out
          rw [restW_at hlt] at hz2
          have hbf := bowI_before hlt
          have hw := bow_ways ((m.bows.take k).map (·.name)) m.bows[k]
          obtain ⟨⟨p, d⟩, hp⟩ : ∃ b, b = m.bows[k] := ⟨_, rfl⟩
          rw [← hp] at y0 y1 hpl hz2 hbf hw
          dsimp only at y0 y1 hpl hbf hw
          generalize (m.bows.take k).map (·.name) = pre at hz2 hbf hw
          have hx := TwoM.new HW.out.1 HW.out.2 90 (.string (S p)) (.int .i64 d)
          obtain ⟨x0, x1, x2, x3⟩ := hx.cells
          have HX := Lib.hid hx
          clear hzz hp yy0 yy1 hx
          have tok0 : True := trivial
          have kb : ∀ W, Below w.heap.size w W → Calls Tryz.prog 86 #[.agg #[.slice A m.bats.length c, .slice (some ⟨b0, o, none⟩) m.bows.length c'], .string (S p)] W fun e W' => e = .returned (.int .i64 (bowI m.bows p)) ∧ Below W.heap.size W W' := fun W hW => m_Bowler m _ _ p W (HM.out.below hW)
          obtain ⟨i, hi⟩ : ∃ i, i = bowI m.bows p := ⟨_, rfl⟩
          rw [← hi] at kb hbf
          have KB := Lib.hid kb
          clear kb hi
          rcases hw with ⟨hnm, he⟩ | ⟨hnm, hin, he⟩ | ⟨hnm, hin, hs, he⟩ | ⟨hnm, hin, hs, hs2, he⟩ | ⟨hnm, hin, hs, hs2, he⟩
          · rw [he, if_pos (by decide)] at hz2
            have kn : ∀ W, Calls Tryz.prog 84 #[.string (S p)] W fun e W' => e = .returned (.bool false) ∧ Below W.heap.size W W' := fun W => (text_Name (S p) W (by rw [S_size]; exact hpl)).mono fun e W' h => by rw [S_data, hnm] at h; exact h
            have KN := Lib.hid kn
            have HZZ := Lib.hid hz2
            clear kn hz2 he hnm hbf hpl
            go_wp2_with (first
          | (clear tok0; go_at_call 84; refine (KN.out _).mono ?_; rintro e w2 ⟨rfl, hb2⟩; have HX2 := Lib.hid (HX.out.below hb2); obtain ⟨p0, p1, p2, p3⟩ := HX2.out.cells; clear hb2; have tok1 : True := trivial))
            go_ret
            exact ⟨ret_i HZZ.out.symm, HX2.out.bel⟩
          · rw [he, if_pos (by decide)] at hz2
            have kn : ∀ W, Calls Tryz.prog 84 #[.string (S p)] W fun e W' => e = .returned (.bool true) ∧ Below W.heap.size W W' := fun W => (text_Name (S p) W (by rw [S_size]; exact hpl)).mono fun e W' h => by rw [S_data, hnm] at h; exact h
            have KN := Lib.hid kn
            have HZZ := Lib.hid hz2
            rw [hin] at hbf
            clear kn hz2 he hnm hin hpl
            go_wp2_with (first
          | (clear tok0; go_at_call 84; refine (KN.out _).mono ?_; rintro e w2 ⟨rfl, hb2⟩; have HX2 := Lib.hid (HX.out.below hb2); obtain ⟨p0, p1, p2, p3⟩ := HX2.out.cells; clear hb2; have tok1 : True := trivial)
          | (clear tok1; go_at_call 86; refine (KB.out _ HX2.out.bel).mono ?_; rintro e w3 ⟨rfl, hb3⟩; have HX3 := Lib.hid (HX2.out.below hb3); obtain ⟨q0, q1, q2, q3⟩ := HX3.out.cells; clear hb3; have tok2 : True := trivial))
            go_ret
            exact ⟨ret_i HZZ.out.symm, HX3.out.bel⟩
          · rw [he, if_pos (by decide)] at hz2
            have kn : ∀ W, Calls Tryz.prog 84 #[.string (S p)] W fun e W' => e = .returned (.bool true) ∧ Below W.heap.size W W' := fun W => (text_Name (S p) W (by rw [S_size]; exact hpl)).mono fun e W' h => by rw [S_data, hnm] at h; exact h
            have KN := Lib.hid kn
            have HZZ := Lib.hid hz2
            rw [hin] at hbf
            clear kn hz2 he hnm hin hpl
            go_wp2_with (first
          | (clear tok0; go_at_call 84; refine (KN.out _).mono ?_; rintro e w2 ⟨rfl, hb2⟩; have HX2 := Lib.hid (HX.out.below hb2); obtain ⟨p0, p1, p2, p3⟩ := HX2.out.cells; clear hb2; have tok1 : True := trivial)
          | (clear tok1; go_at_call 86; refine (KB.out _ HX2.out.bel).mono ?_; rintro e w3 ⟨rfl, hb3⟩; have HX3 := Lib.hid (HX2.out.below hb3); obtain ⟨q0, q1, q2, q3⟩ := HX3.out.cells; clear hb3; have tok2 : True := trivial))
            go_ret
            exact ⟨ret_i HZZ.out.symm, HX3.out.bel⟩
          · rw [he, if_pos (by decide)] at hz2
            have kn : ∀ W, Calls Tryz.prog 84 #[.string (S p)] W fun e W' => e = .returned (.bool true) ∧ Below W.heap.size W W' := fun W => (text_Name (S p) W (by rw [S_size]; exact hpl)).mono fun e W' h => by rw [S_data, hnm] at h; exact h
            have KN := Lib.hid kn
            have HZZ := Lib.hid hz2
            rw [hin] at hbf
            clear kn hz2 he hnm hin hpl
            go_wp2_with (first
          | (clear tok0; go_at_call 84; refine (KN.out _).mono ?_; rintro e w2 ⟨rfl, hb2⟩; have HX2 := Lib.hid (HX.out.below hb2); obtain ⟨p0, p1, p2, p3⟩ := HX2.out.cells; clear hb2; have tok1 : True := trivial)
          | (clear tok1; go_at_call 86; refine (KB.out _ HX2.out.bel).mono ?_; rintro e w3 ⟨rfl, hb3⟩; have HX3 := Lib.hid (HX2.out.below hb3); obtain ⟨q0, q1, q2, q3⟩ := HX3.out.cells; clear hb3; have tok2 : True := trivial))
            go_ret
            exact ⟨ret_i HZZ.out.symm, HX3.out.bel⟩
          · rw [he, if_neg (by decide)] at hz2
            have kn : ∀ W, Calls Tryz.prog 84 #[.string (S p)] W fun e W' => e = .returned (.bool true) ∧ Below W.heap.size W W' := fun W => (text_Name (S p) W (by rw [S_size]; exact hpl)).mono fun e W' h => by rw [S_data, hnm] at h; exact h
            have KN := Lib.hid kn
            have HZZ := Lib.hid hz2
            rw [hin] at hbf
            clear kn hz2 he hnm hin hpl
            go_wp2_with (first
          | (clear tok0; go_at_call 84; refine (KN.out _).mono ?_; rintro e w2 ⟨rfl, hb2⟩; have HX2 := Lib.hid (HX.out.below hb2); obtain ⟨p0, p1, p2, p3⟩ := HX2.out.cells; clear hb2; have tok1 : True := trivial)
          | (clear tok1; go_at_call 86; refine (KB.out _ HX2.out.bel).mono ?_; rintro e w3 ⟨rfl, hb3⟩; have HX3 := Lib.hid (HX2.out.below hb3); obtain ⟨q0, q1, q2, q3⟩ := HX3.out.cells; clear hb3; have tok2 : True := trivial))
            go_roundw
            case rel => exact ⟨k + 1, by omega, by go_num, Lib.hid ⟨HX3.out.bel, HX3.out.box⟩, HZZ⟩
            case measure => simp [intOf]; omega
        · obtain rfl : k = m.bows.length := by omega
          have hz2 := hzz.out
          rw [restW_end] at hz2
          have HZ2 := Lib.hid hz2
          clear hzz hz2
          go_wp2
          go_ret
          exact ⟨ret_i HZ2.out.symm, HW.out.1⟩
set_option maxRecDepth 100000 in
set_option maxHeartbeats 4000000 in
theorem r_Check (m : Mdl) (bv wv : Value) (w : World) (h : MdlAt w (· < w.heap.size) bv wv m) :
    Calls Tryz.prog 53 #[.agg #[bv, wv]] w fun e w' => e = .returned (.int .i64 (checkM m)) ∧ Below w.heap.size w w' := by
  obtain ⟨z, hz⟩ : ∃ z, z = checkM m := ⟨_, rfl⟩
  rw [← hz]
  obtain ⟨A, c, rfl, hc, hc2⟩ := h.bat.shape
  obtain ⟨A', c', rfl, hc', hc2'⟩ := h.bow.shape
  have HM := Lib.hid h
  have hb1 : Below w.heap.size w (w.alloc (.cells #[.slice A m.bats.length c, .slice A' m.bows.length c'] 25)) := Below.alloc (Below.refl _ _) (Nat.le_refl _) _
  have hx1 := Blk.new w 25 #[.slice A m.bats.length c, .slice A' m.bows.length c']
  by_cases h1 : m.bats.length = 0 ∨ m.bows.length = 0
  · have HZ := Lib.hid (show z = 6 by rw [hz]; unfold checkM; rw [if_pos h1])
    have HB1 := Lib.hid hb1
    clear hz h hb1 hx1
    by_cases h2 : m.bats.length = 0
    · have e1 : ((m.bats.length : Int) == 0) = true := beq_iff_eq.2 (by omega)
      have h3 := Lib.hid h2
      clear h1 h2
      go_enter Tryz.func53, Tryz.ntmps53
      go_wp2
      go_ret
      exact ⟨ret_i HZ.out.symm, HB1.out⟩
    · have e1 : ((m.bats.length : Int) == 0) = false := beq_eq_false_iff_ne.2 (by omega)
      have e2 : ((m.bows.length : Int) == 0) = true := beq_iff_eq.2 (by omega)
      have h3 := Lib.hid h2
      clear h1 h2
      go_enter Tryz.func53, Tryz.ntmps53
      go_wp2
      go_ret
      exact ⟨ret_i HZ.out.symm, HB1.out⟩
  have e1 : ((m.bats.length : Int) == 0) = false := beq_eq_false_iff_ne.2 (by omega)
  have e2 : ((m.bows.length : Int) == 0) = false := beq_eq_false_iff_ne.2 (by omega)
  by_cases h2 : 11 < m.bats.length ∨ 11 < m.bows.length
  · have HZ := Lib.hid (show z = 9 by rw [hz]; unfold checkM; rw [if_neg h1, if_pos h2])
    have HB1 := Lib.hid hb1
    clear hz h hb1 hx1 h1
    by_cases h3 : 11 < m.bats.length
    · have e3 : (11 : Int) < (m.bats.length : Int) := by omega
      clear h2 h3
      go_enter Tryz.func53, Tryz.ntmps53
      go_wp2
      go_ret
      exact ⟨ret_i HZ.out.symm, HB1.out⟩
    · have e3 : ¬ (11 : Int) < (m.bats.length : Int) := by omega
      have e4 : (11 : Int) < (m.bows.length : Int) := by omega
      clear h2 h3
      go_enter Tryz.func53, Tryz.ntmps53
      go_wp2
      go_ret
      exact ⟨ret_i HZ.out.symm, HB1.out⟩
  have HZ0 := Lib.hid (show z = restM m 0 by rw [hz, checkM_rest h1 h2])
  have e3 : ¬ (11 : Int) < (m.bats.length : Int) := by omega
  have e4 : ¬ (11 : Int) < (m.bows.length : Int) := by omega
  have HB1 := Lib.hid hb1
  have HX1 := Lib.hid hx1
  clear hz h hb1 hx1 h1 h2
  go_enter Tryz.func53, Tryz.ntmps53
  go_wp2
  go_loopw [31] (fun i wr => ∃ k : Nat, k ≤ m.bats.length ∧ i = .int .i64 k ∧ Hid (Below w.heap.size w wr ∧ Blk wr w.heap.size 25 #[.slice A m.bats.length c, .slice A' m.bows.length c']) ∧ Hid (z = restM m k)) (fun i _ => m.bats.length - (intOf i).toNat)
  case atStart => exact ⟨0, Nat.zero_le _, rfl, Lib.hid ⟨HB1.out, HX1.out⟩, HZ0⟩
  case round =>
    clear HB1 HX1
    obtain ⟨k, hk, rfl, HW, hzz⟩ := hrel
    obtain ⟨r0, r1, _, _⟩ := HW.out.2.duo
    by_cases hlt : k < m.bats.length
    · obtain ⟨b0, o, v, rfl, hbl, yy0, yy1, hv, hpl⟩ := bat_at HM.out.bat hlt
      have y0 := (HW.out.1.cell (p := ⟨b0, o + k * 2, none⟩) hbl).trans yy0
      have y1 := (HW.out.1.cell (p := ⟨b0, o + k * 2 + 1, none⟩) hbl).trans yy1
      have hz2 := hzz.out
      rw [restM_at hlt] at hz2
      have hbf := batI_before hlt
      have hw := bat_ways ((m.bats.take k).map (·.name)) m.bats[k]
      obtain ⟨⟨p, d⟩, hp⟩ : ∃ b, b = m.bats[k] := ⟨_, rfl⟩
      rw [← hp] at y0 hv hpl hz2 hbf hw
      dsimp only at y0 hv hpl hbf hw
      obtain ⟨A2, c2, hve, _, _⟩ := hv.shape
      obtain ⟨n2, hn2⟩ : ∃ n, n = d.length := ⟨_, rfl⟩
      rw [← hn2] at hve
      subst hve
      generalize (m.bats.take k).map (·.name) = pre at hz2 hbf hw
      have hx := TwoM.new HW.out.1 HW.out.2 77 (.string (S p)) (.slice A2 n2 c2)
      obtain ⟨x0, x1, x2, x3⟩ := hx.cells
      have HX := Lib.hid hx
      clear hzz hp yy0 yy1 hx
      have tok0 : True := trivial
      have kb : ∀ W, Below w.heap.size w W → Calls Tryz.prog 93 #[.agg #[.slice (some ⟨b0, o, none⟩) m.bats.length c, .slice A' m.bows.length c'], .string (S p)] W fun e W' => e = .returned (.int .i64 (batI m.bats p)) ∧ Below W.heap.size W W' := fun W hW => r_Batter m _ _ p W (HM.out.below hW)
      have kd : ∀ W, Below w.heap.size w W → Calls Tryz.prog 94 #[.slice A2 n2 c2] W fun e W' => e = .returned (.int .i64 (checkD d)) ∧ Below W.heap.size W W' := fun W hW => ref_CCheck d _ W (hv.keep elOtc_good (Same.of_below hW) fun b h => Nat.lt_of_lt_of_le h hW.size)
      obtain ⟨i, hi⟩ : ∃ i, i = batI m.bats p := ⟨_, rfl⟩
      obtain ⟨u, hu⟩ : ∃ u, u = checkD d := ⟨_, rfl⟩
      rw [← hi] at kb hbf
      rw [← hu] at kd hw
      have KB := Lib.hid kb
      have KD := Lib.hid kd
      clear kb kd hi hu hn2
      rcases hw with ⟨hnm, he⟩ | ⟨hnm, hin, he⟩ | ⟨hnm, hin, he⟩
      · rw [he, if_pos (by decide)] at hz2
        have kn : ∀ W, Calls Tryz.prog 92 #[.string (S p)] W fun e W' => e = .returned (.bool false) ∧ Below W.heap.size W W' := fun W => (ref_Name (S p) W (by rw [S_size]; exact hpl)).mono fun e W' h => by rw [S_data, hnm] at h; exact ⟨h.1, h.2 ▸ Below.refl _ _⟩
        have KN := Lib.hid kn
        have HZZ := Lib.hid hz2
        clear kn hz2 he hnm hbf hv hpl
        go_wp2_with (first
          | (clear tok0; go_at_call 92; refine (KN.out _).mono ?_; rintro e w2 ⟨rfl, hb2⟩; have HX2 := Lib.hid (HX.out.below hb2); obtain ⟨p0, p1, p2, p3⟩ := HX2.out.cells; clear hb2; have tok1 : True := trivial))
        go_ret
        exact ⟨ret_i HZZ.out.symm, HX2.out.bel⟩
      · rw [he, if_pos (by decide)] at hz2
        have kn : ∀ W, Calls Tryz.prog 92 #[.string (S p)] W fun e W' => e = .returned (.bool true) ∧ Below W.heap.size W W' := fun W => (ref_Name (S p) W (by rw [S_size]; exact hpl)).mono fun e W' h => by rw [S_data, hnm] at h; exact ⟨h.1, h.2 ▸ Below.refl _ _⟩
        have KN := Lib.hid kn
        have HZZ := Lib.hid hz2
        rw [hin] at hbf
        clear kn hz2 he hnm hin hv hpl
        go_wp2_with (first
          | (clear tok0; go_at_call 92; refine (KN.out _).mono ?_; rintro e w2 ⟨rfl, hb2⟩; have HX2 := Lib.hid (HX.out.below hb2); obtain ⟨p0, p1, p2, p3⟩ := HX2.out.cells; clear hb2; have tok1 : True := trivial)
          | (clear tok1; go_at_call 93; refine (KB.out _ HX2.out.bel).mono ?_; rintro e w3 ⟨rfl, hb3⟩; have HX3 := Lib.hid (HX2.out.below hb3); obtain ⟨q0, q1, q2, q3⟩ := HX3.out.cells; clear hb3; have tok2 : True := trivial))
        go_ret
        exact ⟨ret_i HZZ.out.symm, HX3.out.bel⟩
      · rw [he] at hz2
        have kn : ∀ W, Calls Tryz.prog 92 #[.string (S p)] W fun e W' => e = .returned (.bool true) ∧ Below W.heap.size W W' := fun W => (ref_Name (S p) W (by rw [S_size]; exact hpl)).mono fun e W' h => by rw [S_data, hnm] at h; exact ⟨h.1, h.2 ▸ Below.refl _ _⟩
        have KN := Lib.hid kn
        rw [hin] at hbf
        by_cases hu0 : u = 0
        · rw [if_neg (by simp [hu0])] at hz2
          have eu : (u != 0) = false := by simp [hu0]
          have HZZ := Lib.hid hz2
          clear kn hz2 he hnm hin hu0 hv hpl
          go_wp2_with (first
          | (clear tok0; go_at_call 92; refine (KN.out _).mono ?_; rintro e w2 ⟨rfl, hb2⟩; have HX2 := Lib.hid (HX.out.below hb2); obtain ⟨p0, p1, p2, p3⟩ := HX2.out.cells; clear hb2; have tok1 : True := trivial)
          | (clear tok1; go_at_call 93; refine (KB.out _ HX2.out.bel).mono ?_; rintro e w3 ⟨rfl, hb3⟩; have HX3 := Lib.hid (HX2.out.below hb3); obtain ⟨q0, q1, q2, q3⟩ := HX3.out.cells; clear hb3; have tok2 : True := trivial)
          | (clear tok2; go_at_call 94; refine (KD.out _ HX3.out.bel).mono ?_; rintro e w4 ⟨rfl, hb4⟩; have HX4 := Lib.hid (HX3.out.below hb4); clear hb4; have tok3 : True := trivial))
          go_roundw
          case rel => exact ⟨k + 1, by omega, by go_num, Lib.hid ⟨HX4.out.bel, HX4.out.box⟩, HZZ⟩
          case measure => simp [intOf]; omega
        · rw [if_pos hu0] at hz2
          have eu : (u != 0) = true := by simp [hu0]
          have HZZ := Lib.hid hz2
          clear kn hz2 he hnm hin hu0 hv hpl
          go_wp2_with (first
          | (clear tok0; go_at_call 92; refine (KN.out _).mono ?_; rintro e w2 ⟨rfl, hb2⟩; have HX2 := Lib.hid (HX.out.below hb2); obtain ⟨p0, p1, p2, p3⟩ := HX2.out.cells; clear hb2; have tok1 : True := trivial)
          | (clear tok1; go_at_call 93; refine (KB.out _ HX2.out.bel).mono ?_; rintro e w3 ⟨rfl, hb3⟩; have HX3 := Lib.hid (HX2.out.below hb3); obtain ⟨q0, q1, q2, q3⟩ := HX3.out.cells; clear hb3; have tok2 : True := trivial)
          | (clear tok2; go_at_call 94; refine (KD.out _ HX3.out.bel).mono ?_; rintro e w4 ⟨rfl, hb4⟩; have HX4 := Lib.hid (HX3.out.below hb4); clear hb4; have tok3 : True := trivial))
          go_ret
          exact ⟨ret_i HZZ.out.symm, HX4.out.bel⟩
    · obtain rfl : k = m.bats.length := by omega
      have hz2 := hzz.out
      rw [restM_end] at hz2
      have HZ1 := Lib.hid hz2
      have HW1 := HW
      clear hzz hz2 HW HZ0
      obtain ⟨wo, rfl⟩ : ∃ wo : World, wo = wr := ⟨_, rfl⟩
      go_wp2
      go_loopw [56] (fun i wr => ∃ k : Nat, k ≤ m.bows.length ∧ i = .int .i64 k ∧ Hid (Below w.heap.size w wr ∧ Blk wr w.heap.size 25 #[.slice A m.bats.length c, .slice A' m.bows.length c']) ∧ Hid (z = restW m k)) (fun i _ => m.bows.length - (intOf i).toNat)
      case atStart => exact ⟨0, Nat.zero_le _, rfl, HW1, HZ1⟩
      case round =>
        clear HW1 HZ1 r0 r1
        obtain ⟨k, hk, rfl, HW, hzz⟩ := hrel
        obtain ⟨r0, r1, _, _⟩ := HW.out.2.duo
        by_cases hlt : k < m.bows.length
        · obtain ⟨b0, o, rfl, hbl, yy0, yy1, hpl⟩ := bow_at HM.out.bow hlt
          have y0 := (HW.out.1.cell (p := ⟨b0, o + k * 2, none⟩) hbl).trans yy0
          have y1 := (HW.out.1.cell (p := ⟨b0, o + k * 2 + 1, none⟩) hbl).trans yy1
          have hz2 := hzz.out
          rw [restW_at hlt] at hz2
          have hbf := bowI_before hlt
          have hw := bow_ways ((m.bows.take k).map (·.name)) m.bows[k]
          obtain ⟨⟨p, d⟩, hp⟩ : ∃ b, b = m.bows[k] := ⟨_, rfl⟩
          rw [← hp] at y0 y1 hpl hz2 hbf hw
          dsimp only at y0 y1 hpl hbf hw
          generalize (m.bows.take k).map (·.name) = pre at hz2 hbf hw
          have hx := TwoM.new HW.out.1 HW.out.2 90 (.string (S p)) (.int .i64 d)
          obtain ⟨x0, x1, x2, x3⟩ := hx.cells
          have HX := Lib.hid hx
          clear hzz hp yy0 yy1 hx
          have tok0 : True := trivial
          have kb : ∀ W, Below w.heap.size w W → Calls Tryz.prog 95 #[.agg #[.slice A m.bats.length c, .slice (some ⟨b0, o, none⟩) m.bows.length c'], .string (S p)] W fun e W' => e = .returned (.int .i64 (bowI m.bows p)) ∧ Below W.heap.size W W' := fun W hW => r_Bowler m _ _ p W (HM.out.below hW)
          obtain ⟨i, hi⟩ : ∃ i, i = bowI m.bows p := ⟨_, rfl⟩
          rw [← hi] at kb hbf
          have KB := Lib.hid kb
          clear kb hi
          rcases hw with ⟨hnm, he⟩ | ⟨hnm, hin, he⟩ | ⟨hnm, hin, hs, he⟩ | ⟨hnm, hin, hs, hs2, he⟩ | ⟨hnm, hin, hs, hs2, he⟩
          · rw [he, if_pos (by decide)] at hz2
            have kn : ∀ W, Calls Tryz.prog 92 #[.string (S p)] W fun e W' => e = .returned (.bool false) ∧ Below W.heap.size W W' := fun W => (ref_Name (S p) W (by rw [S_size]; exact hpl)).mono fun e W' h => by rw [S_data, hnm] at h; exact ⟨h.1, h.2 ▸ Below.refl _ _⟩
            have KN := Lib.hid kn
            have HZZ := Lib.hid hz2
            clear kn hz2 he hnm hbf hpl
            go_wp2_with (first
          | (clear tok0; go_at_call 92; refine (KN.out _).mono ?_; rintro e w2 ⟨rfl, hb2⟩; have HX2 := Lib.hid (HX.out.below hb2); obtain ⟨p0, p1, p2, p3⟩ := HX2.out.cells; clear hb2; have tok1 : True := trivial))
            go_ret
            exact ⟨ret_i HZZ.out.symm, HX2.out.bel⟩
          · rw [he, if_pos (by decide)] at hz2
            have kn : ∀ W, Calls Tryz.prog 92 #[.string (S p)] W fun e W' => e = .returned (.bool true) ∧ Below W.heap.size W W' := fun W => (ref_Name (S p) W (by rw [S_size]; exact hpl)).mono fun e W' h => by rw [S_data, hnm] at h; exact ⟨h.1, h.2 ▸ Below.refl _ _⟩
            have KN := Lib.hid kn
            have HZZ := Lib.hid hz2
            rw [hin] at hbf
            clear kn hz2 he hnm hin hpl
            go_wp2_with (first
          | (clear tok0; go_at_call 92; refine (KN.out _).mono ?_; rintro e w2 ⟨rfl, hb2⟩; have HX2 := Lib.hid (HX.out.below hb2); obtain ⟨p0, p1, p2, p3⟩ := HX2.out.cells; clear hb2; have tok1 : True := trivial)
          | (clear tok1; go_at_call 95; refine (KB.out _ HX2.out.bel).mono ?_; rintro e w3 ⟨rfl, hb3⟩; have HX3 := Lib.hid (HX2.out.below hb3); obtain ⟨q0, q1, q2, q3⟩ := HX3.out.cells; clear hb3; have tok2 : True := trivial))
            go_ret
            exact ⟨ret_i HZZ.out.symm, HX3.out.bel⟩
          · rw [he, if_pos (by decide)] at hz2
            have kn : ∀ W, Calls Tryz.prog 92 #[.string (S p)] W fun e W' => e = .returned (.bool true) ∧ Below W.heap.size W W' := fun W => (ref_Name (S p) W (by rw [S_size]; exact hpl)).mono fun e W' h => by rw [S_data, hnm] at h; exact ⟨h.1, h.2 ▸ Below.refl _ _⟩
            have KN := Lib.hid kn
            have HZZ := Lib.hid hz2
            rw [hin] at hbf
            clear kn hz2 he hnm hin hpl
            go_wp2_with (first
          | (clear tok0; go_at_call 92; refine (KN.out _).mono ?_; rintro e w2 ⟨rfl, hb2⟩; have HX2 := Lib.hid (HX.out.below hb2); obtain ⟨p0, p1, p2, p3⟩ := HX2.out.cells; clear hb2; have tok1 : True := trivial)
          | (clear tok1; go_at_call 95; refine (KB.out _ HX2.out.bel).mono ?_; rintro e w3 ⟨rfl, hb3⟩; have HX3 := Lib.hid (HX2.out.below hb3); obtain ⟨q0, q1, q2, q3⟩ := HX3.out.cells; clear hb3; have tok2 : True := trivial))
            go_ret
            exact ⟨ret_i HZZ.out.symm, HX3.out.bel⟩
          · rw [he, if_pos (by decide)] at hz2
            have kn : ∀ W, Calls Tryz.prog 92 #[.string (S p)] W fun e W' => e = .returned (.bool true) ∧ Below W.heap.size W W' := fun W => (ref_Name (S p) W (by rw [S_size]; exact hpl)).mono fun e W' h => by rw [S_data, hnm] at h; exact ⟨h.1, h.2 ▸ Below.refl _ _⟩
            have KN := Lib.hid kn
            have HZZ := Lib.hid hz2
            rw [hin] at hbf
            clear kn hz2 he hnm hin hpl
            go_wp2_with (first
          | (clear tok0; go_at_call 92; refine (KN.out _).mono ?_; rintro e w2 ⟨rfl, hb2⟩; have HX2 := Lib.hid (HX.out.below hb2); obtain ⟨p0, p1, p2, p3⟩ := HX2.out.cells; clear hb2; have tok1 : True := trivial)
          | (clear tok1; go_at_call 95; refine (KB.out _ HX2.out.bel).mono ?_; rintro e w3 ⟨rfl, hb3⟩; have HX3 := Lib.hid (HX2.out.below hb3); obtain ⟨q0, q1, q2, q3⟩ := HX3.out.cells; clear hb3; have tok2 : True := trivial))
            go_ret
            exact ⟨ret_i HZZ.out.symm, HX3.out.bel⟩
          · rw [he, if_neg (by decide)] at hz2
            have kn : ∀ W, Calls Tryz.prog 92 #[.string (S p)] W fun e W' => e = .returned (.bool true) ∧ Below W.heap.size W W' := fun W => (ref_Name (S p) W (by rw [S_size]; exact hpl)).mono fun e W' h => by rw [S_data, hnm] at h; exact ⟨h.1, h.2 ▸ Below.refl _ _⟩
            have KN := Lib.hid kn
            have HZZ := Lib.hid hz2
            rw [hin] at hbf
            clear kn hz2 he hnm hin hpl
            go_wp2_with (first
          | (clear tok0; go_at_call 92; refine (KN.out _).mono ?_; rintro e w2 ⟨rfl, hb2⟩; have HX2 := Lib.hid (HX.out.below hb2); obtain ⟨p0, p1, p2, p3⟩ := HX2.out.cells; clear hb2; have tok1 : True := trivial)
          | (clear tok1; go_at_call 95; refine (KB.out _ HX2.out.bel).mono ?_; rintro e w3 ⟨rfl, hb3⟩; have HX3 := Lib.hid (HX2.out.below hb3); obtain ⟨q0, q1, q2, q3⟩ := HX3.out.cells; clear hb3; have tok2 : True := trivial))
            go_roundw
            case rel => exact ⟨k + 1, by omega, by go_num, Lib.hid ⟨HX3.out.bel, HX3.out.box⟩, HZZ⟩
            case measure => simp [intOf]; omega
        · obtain rfl : k = m.bows.length := by omega
          have hz2 := hzz.out
          rw [restW_end] at hz2
          have HZ2 := Lib.hid hz2
          clear hzz hz2
          go_wp2
          go_ret
          exact ⟨ret_i HZ2.out.symm, HW.out.1⟩
end Go.Proofs.YtfnfbojaiikigaaGreatDoor

namespace Go.Proofs.YtfnfbojaiikigaaGreatDoor

structure Chs where
  mdl : Mdl
  bows : List Int
  over : Int
  done : Int
  need : Int
  ord : List Int
structure Cst where
  ball : Int
  need : Int
  str : Int
  par : Int
  nxt : Int
def noCst : Cst := ⟨0, 0, 0, 0, 0⟩
def plansF (n : Int) : List Int → Int
  | [] => 0
  | b :: l => if b < 0 ∨ n ≤ b then 1 else plansF n l
def ordF (n : Int) : List Int → List Int → Int
  | _, [] => 0
  | pre, b :: l => if b < 0 ∨ n ≤ b then 1 else if b ∈ pre then 7 else ordF n (pre ++ [b]) l
def rangeC (c : Chs) : Bool := decide (c.over < 4) || decide (8 < c.over) || decide (c.done < 0) || decide (c.over ≤ c.done) || decide (c.need < 1) || decide (84 < c.need)
def checkC (c : Chs) : Int :=
  if checkM c.mdl ≠ 0 then checkM c.mdl
  else if c.bows.length = 0 then 6
  else if 12 < c.bows.length then 9
  else if plansF c.mdl.bows.length c.bows ≠ 0 then plansF c.mdl.bows.length c.bows
  else if rangeC c = true then 2
  else if c.ord.length < 2 ∨ 11 < c.ord.length then 9
  else ordF c.mdl.bats.length [] c.ord
def startC (c : Chs) : Cst × Int := if checkC c ≠ 0 then (noCst, checkC c) else (⟨0, c.need, 0, 1, 2⟩, 0)
def outC (c : Chs) (s : Cst) : Bool := !(inC s.ball 0 c.bows.length) || !(inC s.need 0 c.need) || !(inC s.nxt 2 c.ord.length) || !(inC s.str (-1) (s.nxt - 1)) || !(inC s.par 0 (s.nxt - 1))
where inC (n lo hi : Int) : Bool := decide (lo ≤ n) && decide (n ≤ hi)
def stateC (c : Chs) (s : Cst) : Int :=
  if outC c s = true then 2 else if s.str = s.par ∨ (s.str = -1 ∧ s.nxt < c.ord.length) then 1 else 0
def chstC (c : Chs) (s : Cst) : Int := if checkC c ≠ 0 then checkC c else stateC c s
def stC (c : Chs) (s : Cst) : Int := if s.need = 0 then 2 else if s.str < 0 ∨ s.ball = c.bows.length then 3 else 1
def statusC (c : Chs) (s : Cst) : Int := if chstC c s ≠ 0 then 0 else stC c s
/-- The outcomes of the next ball of a running state. -/
def mvC (c : Chs) (s : Cst) : List Otc := match c.ord[s.str.toNat]?, c.bows[s.ball.toNat]? with
  | some i, some j => match c.mdl.bats[i.toNat]?, c.mdl.bows[j.toNat]? with
    | some b, some w => (shiftS b.dist w.shift).1
    | _, _ => []
  | _, _ => []
def movesC (c : Chs) (s : Cst) : List Otc × Int := if chstC c s ≠ 0 then ([], chstC c s) else if stC c s ≠ 1 then ([], 11) else (mvC c s, 0)
def swapC (c : Chs) (ball : Int) (o : Otc) : Bool := decide (o.runs % 2 = 1) != decide ((c.done + ball) % c.over = 0)
def stepC (c : Chs) (s : Cst) (o : Otc) : Cst :=
  if o.wick = true then
    if s.nxt = c.ord.length then ⟨s.ball + 1, max (s.need - o.runs) 0, -1, s.par, s.nxt⟩
    else if swapC c (s.ball + 1) o = true then ⟨s.ball + 1, max (s.need - o.runs) 0, s.par, s.nxt, s.nxt + 1⟩ else ⟨s.ball + 1, max (s.need - o.runs) 0, s.nxt, s.par, s.nxt + 1⟩
  else if swapC c (s.ball + 1) o = true then ⟨s.ball + 1, max (s.need - o.runs) 0, s.par, s.str, s.nxt⟩ else ⟨s.ball + 1, max (s.need - o.runs) 0, s.str, s.par, s.nxt⟩
def pow16 : Nat → Int
  | 0 => 1
  | n + 1 => 16 * pow16 n
/-- The value of a state with n balls to come. -/
def chF (c : Chs) : Nat → Cst → Int
  | 0, s => if s.need = 0 then 1 else 0
  | n + 1, s => if s.need = 0 then pow16 (n + 1) else if s.str < 0 then 0 else sumI ((mvC c s).map fun o => o.wt * chF c n (stepC c s o))
def leftC (c : Chs) (s : Cst) : Nat := (c.bows.length - s.ball).toNat
def valS (c : Chs) (s : Cst) : Int := chF c (leftC c s) s
def valueC (c : Chs) (s : Cst) : Int × Int := if chstC c s ≠ 0 then (0, chstC c s) else (valS c s, 0)
theorem plansF_ok {n : Int} : ∀ {l : List Int}, plansF n l = 0 → ∀ b ∈ l, 0 ≤ b ∧ b < n
  | [], _, b, hb => by cases hb
  | a :: l, h, b, hb => by
    rw [plansF] at h
    by_cases h1 : a < 0 ∨ n ≤ a
    · rw [if_pos h1] at h; cases h
    · rw [if_neg h1] at h
      rcases List.mem_cons.1 hb with rfl | hb
      · exact ⟨by omega, by omega⟩
      · exact plansF_ok h b hb
theorem ordF_ok {n : Int} : ∀ {l pre : List Int}, ordF n pre l = 0 → ∀ b ∈ l, 0 ≤ b ∧ b < n
  | [], _, _, b, hb => by cases hb
  | a :: l, pre, h, b, hb => by
    rw [ordF] at h
    by_cases h1 : a < 0 ∨ n ≤ a
    · rw [if_pos h1] at h; cases h
    · rw [if_neg h1] at h
      by_cases h2 : a ∈ pre
      · rw [if_pos h2] at h; cases h
      · rw [if_neg h2] at h
        rcases List.mem_cons.1 hb with rfl | hb
        · exact ⟨by omega, by omega⟩
        · exact ordF_ok h b hb
structure OkC (c : Chs) : Prop where
  mdl : OkM c.mdl
  chk : checkM c.mdl = 0
  nb : 1 ≤ c.bows.length ∧ c.bows.length ≤ 12
  bow : ∀ b ∈ c.bows, 0 ≤ b ∧ b < c.mdl.bows.length
  over : 4 ≤ c.over ∧ c.over ≤ 8
  done : 0 ≤ c.done ∧ c.done < c.over
  need : 1 ≤ c.need ∧ c.need ≤ 84
  no : 2 ≤ c.ord.length ∧ c.ord.length ≤ 11
  ord : ∀ b ∈ c.ord, 0 ≤ b ∧ b < c.mdl.bats.length
theorem checkC_ok {c : Chs} (h : checkC c = 0) : OkC c := by
  unfold checkC at h
  by_cases h1 : checkM c.mdl ≠ 0
  · rw [if_pos h1] at h; exact absurd h h1
  rw [if_neg h1] at h
  by_cases h2 : c.bows.length = 0
  · rw [if_pos h2] at h; cases h
  rw [if_neg h2] at h
  by_cases h3 : 12 < c.bows.length
  · rw [if_pos h3] at h; cases h
  rw [if_neg h3] at h
  by_cases h4 : plansF c.mdl.bows.length c.bows ≠ 0
  · rw [if_pos h4] at h; exact absurd h h4
  rw [if_neg h4] at h
  by_cases h5 : rangeC c = true
  · rw [if_pos h5] at h; cases h
  rw [if_neg h5] at h
  by_cases h6 : c.ord.length < 2 ∨ 11 < c.ord.length
  · rw [if_pos h6] at h; cases h
  rw [if_neg h6] at h
  unfold rangeC at h5
  simp only [Bool.or_eq_true, decide_eq_true_eq, not_or] at h5
  have h1' : checkM c.mdl = 0 := by omega
  exact ⟨checkM_ok h1', h1', by omega, plansF_ok (by omega), by omega, by omega, by omega, by omega, ordF_ok h⟩
structure OkS (c : Chs) (s : Cst) : Prop where
  ball : 0 ≤ s.ball ∧ s.ball ≤ c.bows.length
  need : 0 ≤ s.need ∧ s.need ≤ c.need
  nxt : 2 ≤ s.nxt ∧ s.nxt ≤ c.ord.length
  str : -1 ≤ s.str ∧ s.str < s.nxt
  par : 0 ≤ s.par ∧ s.par < s.nxt
  ne : s.str ≠ s.par
  last : s.str = -1 → s.nxt = c.ord.length
theorem outC_no {c : Chs} {s : Cst} (h : outC c s = false) : (0 ≤ s.ball ∧ s.ball ≤ c.bows.length) ∧ (0 ≤ s.need ∧ s.need ≤ c.need) ∧ (2 ≤ s.nxt ∧ s.nxt ≤ c.ord.length) ∧ (-1 ≤ s.str ∧ s.str < s.nxt) ∧ (0 ≤ s.par ∧ s.par < s.nxt) := by
  unfold outC outC.inC at h
  simp only [Bool.or_eq_false_iff, Bool.not_eq_false', Bool.and_eq_true, decide_eq_true_eq] at h
  omega
theorem outC_yes {c : Chs} {s : Cst} (h : (0 ≤ s.ball ∧ s.ball ≤ c.bows.length) ∧ (0 ≤ s.need ∧ s.need ≤ c.need) ∧ (2 ≤ s.nxt ∧ s.nxt ≤ c.ord.length) ∧ (-1 ≤ s.str ∧ s.str < s.nxt) ∧ (0 ≤ s.par ∧ s.par < s.nxt)) : outC c s = false := by
  unfold outC outC.inC
  simp only [Bool.or_eq_false_iff, Bool.not_eq_false', Bool.and_eq_true, decide_eq_true_eq]
  omega
theorem stateC_ok {c : Chs} {s : Cst} : stateC c s = 0 ↔ OkS c s := by
  unfold stateC
  constructor
  · intro h
    by_cases h1 : outC c s = true
    · rw [if_pos h1] at h; cases h
    rw [if_neg h1] at h
    obtain ⟨a1, a2, a3, a4, a5⟩ := outC_no (by simpa using h1)
    by_cases h2 : s.str = s.par ∨ (s.str = -1 ∧ s.nxt < c.ord.length)
    · rw [if_pos h2] at h; cases h
    exact ⟨a1, a2, a3, a4, a5, fun e => h2 (.inl e), fun e => by
      rcases Classical.em (s.nxt < c.ord.length) with h3 | h3
      · exact absurd (.inr ⟨e, h3⟩) h2
      · omega⟩
  · intro h
    have h1 : outC c s = false := outC_yes ⟨h.ball, h.need, h.nxt, h.str, h.par⟩
    rw [if_neg (by simp [h1]), if_neg]
    rintro (h2 | ⟨h2, h3⟩)
    · exact h.ne h2
    · have := h.last h2; omega
/-- The outcomes of a running state are a distribution. -/
theorem mvC_at {c : Chs} {s : Cst} (h : OkC c) (hs : OkS c s) (h1 : stC c s = 1) : ∃ (i j : Int) (b : Bat) (w : Bow), c.ord[s.str.toNat]? = some i ∧ c.bows[s.ball.toNat]? = some j ∧ 0 ≤ s.str ∧ s.ball < c.bows.length ∧ 0 ≤ i ∧ i < c.mdl.bats.length ∧ 0 ≤ j ∧ j < c.mdl.bows.length ∧ c.mdl.bats[i.toNat]? = some b ∧ c.mdl.bows[j.toNat]? = some w ∧ shiftS b.dist w.shift = (mvC c s, 0) ∧ checkD (mvC c s) = 0 := by
  unfold stC at h1
  by_cases g1 : s.need = 0
  · rw [if_pos g1] at h1; cases h1
  rw [if_neg g1] at h1
  by_cases g2 : s.str < 0 ∨ s.ball = c.bows.length
  · rw [if_pos g2] at h1; cases h1
  have k1 := hs.ball; have k2 := hs.str; have k3 := hs.nxt
  have e1 : s.str.toNat < c.ord.length := by omega
  have e2 : s.ball.toNat < c.bows.length := by omega
  have b1 := h.ord _ (List.getElem_mem e1)
  have b2 := h.bow _ (List.getElem_mem e2)
  have e3 : c.ord[s.str.toNat].toNat < c.mdl.bats.length := by omega
  have e4 : c.bows[s.ball.toNat].toNat < c.mdl.bows.length := by omega
  have q1 := (h.mdl.bat _ (List.getElem_mem e3)).2
  have q2 := (h.mdl.bow _ (List.getElem_mem e4)).2
  have hsh := shift_ok q1 q2.1 q2.2
  have hm : mvC c s = (shiftS c.mdl.bats[c.ord[s.str.toNat].toNat].dist c.mdl.bows[c.bows[s.ball.toNat].toNat].shift).1 := by
    unfold mvC
    rw [List.getElem?_eq_getElem e1, List.getElem?_eq_getElem e2]
    dsimp only
    rw [List.getElem?_eq_getElem e3, List.getElem?_eq_getElem e4]
  refine ⟨_, _, _, _, List.getElem?_eq_getElem e1, List.getElem?_eq_getElem e2, by omega, by omega, b1.1, b1.2, b2.1, b2.2, List.getElem?_eq_getElem e3, List.getElem?_eq_getElem e4, ?_, ?_⟩
  · rw [hm, hsh]
  · rw [hm]; exact (shift_check (by rw [hsh])).1
theorem stepC_ok {c : Chs} {s : Cst} (h : OkC c) (hs : OkS c s) (h1 : stC c s = 1) {o : Otc} (ho : 0 ≤ o.runs) : OkS c (stepC c s o) ∧ (stepC c s o).ball = s.ball + 1 ∧ (stepC c s o).need = max (s.need - o.runs) 0 := by
  obtain ⟨i, j, b, w, _, _, k1, k2, _⟩ := mvC_at h hs h1
  have a1 := hs.ball; have a2 := hs.need; have a3 := hs.nxt; have a4 := hs.str; have a5 := hs.par; have a6 := hs.ne
  have o1 := ho
  have h0 : 0 ≤ max (s.need - o.runs) 0 ∧ max (s.need - o.runs) 0 ≤ c.need := by omega
  unfold stepC
  by_cases hw : o.wick = true
  · rw [if_pos hw]
    by_cases hn : s.nxt = c.ord.length
    · rw [if_pos hn]
      exact ⟨⟨by dsimp only; omega, h0, by dsimp only; omega, by dsimp only; omega, by dsimp only; omega, by dsimp only; omega, fun _ => hn⟩, rfl, rfl⟩
    · rw [if_neg hn]
      by_cases hx : swapC c (s.ball + 1) o = true
      · rw [if_pos hx]
        exact ⟨⟨by dsimp only; omega, h0, by dsimp only; omega, by dsimp only; omega, by dsimp only; omega, by dsimp only; omega, fun e => by dsimp only at e; omega⟩, rfl, rfl⟩
      · rw [if_neg hx]
        exact ⟨⟨by dsimp only; omega, h0, by dsimp only; omega, by dsimp only; omega, by dsimp only; omega, by dsimp only; omega, fun e => by dsimp only at e; omega⟩, rfl, rfl⟩
  · rw [if_neg hw]
    by_cases hx : swapC c (s.ball + 1) o = true
    · rw [if_pos hx]
      exact ⟨⟨by dsimp only; omega, h0, by dsimp only; omega, by dsimp only; omega, by dsimp only; omega, by dsimp only; omega, fun e => by dsimp only at e; omega⟩, rfl, rfl⟩
    · rw [if_neg hx]
      exact ⟨⟨by dsimp only; omega, h0, by dsimp only; omega, by dsimp only; omega, by dsimp only; omega, by dsimp only; omega, fun e => by dsimp only at e; omega⟩, rfl, rfl⟩
theorem sumI_le {α : Type} {f g : α → Int} : ∀ {l : List α}, (∀ x ∈ l, f x ≤ g x) → sumI (l.map f) ≤ sumI (l.map g)
  | [], _ => Int.le_refl _
  | x :: l, h => by
    have h1 := h x (by simp)
    have h2 := sumI_le (l := l) fun y hy => h y (by simp [hy])
    rw [List.map_cons, List.map_cons, sumI_cons, sumI_cons]; omega
theorem sumI_mul {α : Type} (f : α → Int) (k : Int) : ∀ l : List α, sumI (l.map fun x => f x * k) = sumI (l.map f) * k
  | [] => by rw [List.map_nil, List.map_nil, sumI_nil, Int.zero_mul]
  | x :: l => by rw [List.map_cons, List.map_cons, sumI_cons, sumI_cons, sumI_mul f k l, Int.add_mul]
theorem pow16_pos : ∀ n, 1 ≤ pow16 n
  | 0 => Int.le_refl _
  | n + 1 => by have := pow16_pos n; rw [pow16]; omega
theorem pow16_unit : ∀ n, pow16 n = unitV n
  | 0 => rfl
  | n + 1 => by rw [pow16, pow16_unit n, unitV_add, unitV_one, Int.mul_comm]
/-- Values lie from 0 to 16 to the power of the balls to come; fewer runs wanted never give less. -/
theorem chF_law {c : Chs} (h : OkC c) : ∀ (n : Nat) (s t : Cst), OkS c s → OkS c t → (c.bows.length : Int) - s.ball = n → t.ball = s.ball → t.str = s.str → t.par = s.par → t.nxt = s.nxt → t.need ≤ s.need →
    0 ≤ chF c n s ∧ chF c n s ≤ pow16 n ∧ chF c n s ≤ chF c n t
  | 0, s, t, hs, ht, hn, e1, e2, e3, e4, e5 => by
    rw [chF, chF, pow16]
    have := ht.need.1
    by_cases h1 : s.need = 0
    · rw [if_pos h1, if_pos (by omega)]; omega
    · rw [if_neg h1]; split <;> omega
  | n + 1, s, t, hs, ht, hn, e1, e2, e3, e4, e5 => by
    have hp := pow16_pos (n + 1)
    have bound : ∀ x : Cst, OkS c x → (c.bows.length : Int) - x.ball = ((n + 1 : Nat) : Int) → 0 ≤ chF c (n + 1) x ∧ chF c (n + 1) x ≤ pow16 (n + 1) := fun x hx hxn => by
      rw [chF]
      by_cases h1 : x.need = 0
      · rw [if_pos h1]; omega
      rw [if_neg h1]
      by_cases h2 : x.str < 0
      · rw [if_pos h2]; omega
      rw [if_neg h2]
      have hst : stC c x = 1 := by unfold stC; rw [if_neg h1, if_neg (by omega)]
      obtain ⟨_, _, _, _, _, _, _, _, _, _, _, _, _, _, _, hd⟩ := mvC_at h hx hst
      have hok := checkD_ok hd
      have hv : ∀ o ∈ mvC c x, 0 ≤ chF c n (stepC c x o) ∧ chF c n (stepC c x o) ≤ pow16 n := fun o ho => by
        obtain ⟨k1, k2, _⟩ := stepC_ok h hx hst (hok.each o ho).r0
        have := chF_law h n (stepC c x o) (stepC c x o) k1 k1 (by rw [k2]; push_cast at hxn; omega) rfl rfl rfl rfl (Int.le_refl _)
        exact ⟨this.1, this.2.1⟩
      constructor
      · have := sumI_le (f := fun _ => 0) (g := fun o => o.wt * chF c n (stepC c x o)) (l := mvC c x) fun o ho => Int.mul_nonneg (by have := (hok.each o ho).w1; omega) (hv o ho).1
        have e0 : sumI ((mvC c x).map fun _ => (0 : Int)) = 0 := by
          generalize mvC c x = l
          induction l with
          | nil => rfl
          | cons a l ih => rw [List.map_cons, sumI_cons, ih]; rfl
        omega
      · have := sumI_le (f := fun o => o.wt * chF c n (stepC c x o)) (g := fun o => o.wt * pow16 n) (l := mvC c x) fun o ho => Int.mul_le_mul_of_nonneg_left (hv o ho).2 (by have := (hok.each o ho).w1; omega)
        rw [sumI_mul (fun o : Otc => o.wt) (pow16 n), hok.sum] at this
        rw [pow16]; exact this
    refine ⟨(bound s hs hn).1, (bound s hs hn).2, ?_⟩
    have htn : (c.bows.length : Int) - t.ball = ((n + 1 : Nat) : Int) := by omega
    by_cases h1 : t.need = 0
    · have e : chF c (n + 1) t = pow16 (n + 1) := by rw [chF, if_pos h1]
      rw [e]; exact (bound s hs hn).2
    · have g1 : s.need ≠ 0 := by have := ht.need.1; omega
      rw [chF, chF, if_neg h1, if_neg g1]
      by_cases h2 : s.str < 0
      · rw [if_pos h2, if_pos (by omega)]; exact Int.le_refl _
      rw [if_neg h2, if_neg (by omega)]
      have hst : stC c s = 1 := by unfold stC; rw [if_neg g1, if_neg (by omega)]
      have htt : stC c t = 1 := by unfold stC; rw [if_neg h1, if_neg (by omega)]
      obtain ⟨_, _, _, _, _, _, _, _, _, _, _, _, _, _, _, hd⟩ := mvC_at h hs hst
      have hok := checkD_ok hd
      have em : mvC c t = mvC c s := by unfold mvC; rw [e1, e2]
      rw [em]
      refine sumI_le fun o ho => Int.mul_le_mul_of_nonneg_left ?_ (by have := (hok.each o ho).w1; omega)
      obtain ⟨k1, k2, k3⟩ := stepC_ok h hs hst (hok.each o ho).r0
      obtain ⟨l1, l2, l3⟩ := stepC_ok h ht htt (hok.each o ho).r0
      have same : (stepC c t o).str = (stepC c s o).str ∧ (stepC c t o).par = (stepC c s o).par ∧ (stepC c t o).nxt = (stepC c s o).nxt := by
        unfold stepC
        rw [e1, e4]
        split
        · split
          · exact ⟨rfl, e3, rfl⟩
          · split
            · exact ⟨e3, rfl, rfl⟩
            · exact ⟨rfl, e3, rfl⟩
        · split
          · exact ⟨e3, e2, rfl⟩
          · exact ⟨e2, e3, rfl⟩
      exact (chF_law h n (stepC c s o) (stepC c t o) k1 l1 (by rw [k2]; push_cast at hn; omega) (by rw [l2, k2, e1]) same.1 same.2.1 same.2.2 (by rw [l3, k3]; omega)).2.2
end Go.Proofs.YtfnfbojaiikigaaGreatDoor

namespace Go.Proofs.YtfnfbojaiikigaaGreatDoor

/-- What is left of a check: behind the model and the number of balls; behind the bowlers; the order from k on. -/
def tailC (c : Chs) : Int := if rangeC c = true then 2 else if c.ord.length < 2 ∨ 11 < c.ord.length then 9 else ordF c.mdl.bats.length [] c.ord
def restP (c : Chs) (k : Nat) : Int := if plansF c.mdl.bows.length (c.bows.drop k) ≠ 0 then plansF c.mdl.bows.length (c.bows.drop k) else tailC c
def restO (c : Chs) (k : Nat) : Int := ordF c.mdl.bats.length (c.ord.take k) (c.ord.drop k)
theorem checkC_rest {c : Chs} (h1 : checkM c.mdl = 0) (h2 : c.bows.length ≠ 0) (h3 : ¬ 12 < c.bows.length) : checkC c = restP c 0 := by
  unfold checkC restP tailC
  rw [if_neg (by omega), if_neg h2, if_neg h3]; rfl
theorem restP_at {c : Chs} {k : Nat} (hk : k < c.bows.length) : restP c k = if c.bows[k] < 0 ∨ (c.mdl.bows.length : Int) ≤ c.bows[k] then 1 else restP c (k + 1) := by
  unfold restP
  rw [List.drop_eq_getElem_cons hk, plansF]
  by_cases h : c.bows[k] < 0 ∨ (c.mdl.bows.length : Int) ≤ c.bows[k]
  · rw [if_pos h, if_pos h]; rfl
  · rw [if_neg h, if_neg h]
theorem restP_end {c : Chs} : restP c c.bows.length = tailC c := by
  unfold restP
  rw [List.drop_of_length_le (Nat.le_refl _), plansF, if_neg (by simp)]
theorem tailC_rest {c : Chs} (h1 : rangeC c = false) (h2 : ¬ (c.ord.length < 2 ∨ 11 < c.ord.length)) : tailC c = restO c 0 := by
  unfold tailC restO
  rw [if_neg (by simp [h1]), if_neg h2]; simp
theorem restO_at {c : Chs} {k : Nat} (hk : k < c.ord.length) : restO c k = if c.ord[k] < 0 ∨ (c.mdl.bats.length : Int) ≤ c.ord[k] then 1 else if c.ord[k] ∈ c.ord.take k then 7 else restO c (k + 1) := by
  unfold restO
  rw [List.drop_eq_getElem_cons hk, ordF, show c.ord.take (k + 1) = c.ord.take k ++ [c.ord[k]] by rw [List.take_add_one, List.getElem?_eq_getElem hk]; rfl]
theorem restO_end {c : Chs} : restO c c.ord.length = 0 := by
  unfold restO
  rw [List.drop_of_length_le (Nat.le_refl _), ordF]
/-- The ways through the ranges of a chase. -/
theorem rangeC_ways (c : Chs) : (rangeC c = true ∧ (c.over < 4 ∨ (¬ c.over < 4 ∧ 8 < c.over) ∨ (¬ c.over < 4 ∧ ¬ 8 < c.over ∧ c.done < 0) ∨ (¬ c.over < 4 ∧ ¬ 8 < c.over ∧ ¬ c.done < 0 ∧ c.over ≤ c.done) ∨ (¬ c.over < 4 ∧ ¬ 8 < c.over ∧ ¬ c.done < 0 ∧ ¬ c.over ≤ c.done ∧ c.need < 1) ∨ (¬ c.over < 4 ∧ ¬ 8 < c.over ∧ ¬ c.done < 0 ∧ ¬ c.over ≤ c.done ∧ ¬ c.need < 1 ∧ 84 < c.need))) ∨
    (rangeC c = false ∧ ¬ c.over < 4 ∧ ¬ 8 < c.over ∧ ¬ c.done < 0 ∧ ¬ c.over ≤ c.done ∧ ¬ c.need < 1 ∧ ¬ 84 < c.need) := by
  unfold rangeC
  by_cases h1 : c.over < 4
  · exact .inl ⟨by simp [h1], .inl h1⟩
  by_cases h2 : 8 < c.over
  · exact .inl ⟨by simp [h2], .inr (.inl ⟨h1, h2⟩)⟩
  by_cases h3 : c.done < 0
  · exact .inl ⟨by simp [h3], .inr (.inr (.inl ⟨h1, h2, h3⟩))⟩
  by_cases h4 : c.over ≤ c.done
  · exact .inl ⟨by simp [h4], .inr (.inr (.inr (.inl ⟨h1, h2, h3, h4⟩)))⟩
  by_cases h5 : c.need < 1
  · exact .inl ⟨by simp [h5], .inr (.inr (.inr (.inr (.inl ⟨h1, h2, h3, h4, h5⟩))))⟩
  by_cases h6 : 84 < c.need
  · exact .inl ⟨by simp [h6], .inr (.inr (.inr (.inr (.inr ⟨h1, h2, h3, h4, h5, h6⟩))))⟩
  exact .inr ⟨by simp [h1, h2, h3, h4, h5, h6], h1, h2, h3, h4, h5, h6⟩
/-- A state stepped, where it may be. -/
def hitC (c : Chs) (s : Cst) (o : Otc) : Bool := (mvC c s).any fun x => (x.runs == o.runs) && (x.wick == o.wick)
def stepSC (c : Chs) (s : Cst) (o : Otc) : Cst × Int := if (movesC c s).2 ≠ 0 then (noCst, (movesC c s).2) else if hitC c s o = true then (stepC c s o, 0) else (noCst, 6)
theorem movesC_ok {c : Chs} {s : Cst} (h : (movesC c s).2 = 0) : OkC c ∧ OkS c s ∧ stC c s = 1 ∧ (movesC c s).1 = mvC c s := by
  unfold movesC at h ⊢
  by_cases h1 : chstC c s ≠ 0
  · rw [if_pos h1] at h; exact absurd h h1
  rw [if_neg h1] at h ⊢
  by_cases h2 : stC c s ≠ 1
  · rw [if_pos h2] at h; cases h
  rw [if_neg h2]
  have h3 : chstC c s = 0 := by omega
  unfold chstC at h3
  by_cases h4 : checkC c ≠ 0
  · rw [if_pos h4] at h3; exact absurd h3 h4
  rw [if_neg h4] at h3
  exact ⟨checkC_ok (by omega), stateC_ok.1 h3, by omega, rfl⟩
theorem chst_ok {c : Chs} {s : Cst} (h : chstC c s = 0) : checkC c = 0 ∧ OkC c ∧ OkS c s := by
  unfold chstC at h
  by_cases h4 : checkC c ≠ 0
  · rw [if_pos h4] at h; exact absurd h h4
  rw [if_neg h4] at h
  exact ⟨by omega, checkC_ok (by omega), stateC_ok.1 h⟩
theorem chst_of {c : Chs} {s : Cst} (h1 : checkC c = 0) (h2 : OkS c s) : chstC c s = 0 := by
  unfold chstC; rw [if_neg (by omega)]; exact stateC_ok.2 h2
theorem hit_mem {c : Chs} {s : Cst} {o : Otc} (h : hitC c s o = true) : ∃ x ∈ mvC c s, x.runs = o.runs ∧ x.wick = o.wick := by
  obtain ⟨x, hx, h2⟩ := List.any_eq_true.1 h
  rw [Bool.and_eq_true, beq_iff_eq, beq_iff_eq] at h2
  exact ⟨x, hx, h2⟩
theorem hit_of {c : Chs} {s : Cst} {o : Otc} (h : o ∈ mvC c s) : hitC c s o = true := List.any_eq_true.2 ⟨o, h, by simp⟩
/-- Where a step is taken its state is valid. -/
theorem stepSC_ok {c : Chs} {s : Cst} {o : Otc} (h : (stepSC c s o).2 = 0) : chstC c (stepSC c s o).1 = 0 := by
  unfold stepSC at h ⊢
  by_cases h1 : (movesC c s).2 ≠ 0
  · rw [if_pos h1] at h; exact absurd h h1
  rw [if_neg h1] at h ⊢
  by_cases h2 : hitC c s o = true
  · rw [if_pos h2]
    obtain ⟨k1, k2, k3, _⟩ := movesC_ok (c := c) (s := s) (by omega)
    obtain ⟨x, hx, e1, _⟩ := hit_mem h2
    obtain ⟨_, _, _, _, _, _, _, _, _, _, _, _, _, _, _, hd⟩ := mvC_at k1 k2 k3
    have h3 := ((checkD_ok hd).each x hx).r0
    have hc : checkC c = 0 := by
      have : chstC c s = 0 := by
        unfold movesC at h1
        by_cases h4 : chstC c s ≠ 0
        · rw [if_pos h4] at h1; exact absurd h4 (by simpa using h1)
        · omega
      exact (chst_ok this).1
    exact chst_of hc (stepC_ok k1 k2 k3 (by omega)).1
  · rw [if_neg h2] at h; cases h
theorem stC_bd (c : Chs) (s : Cst) : 1 ≤ stC c s ∧ stC c s ≤ 3 := by unfold stC; split; omega; split <;> omega
/-- The value of a state, by its status. -/
theorem valS_won {c : Chs} {s : Cst} (h : stC c s = 2) : valS c s = pow16 (leftC c s) := by
  have hn : s.need = 0 := by
    unfold stC at h
    by_cases h1 : s.need = 0
    · exact h1
    · rw [if_neg h1] at h; split at h <;> cases h
  unfold valS
  cases leftC c s with
  | zero => rw [chF, if_pos hn]; rfl
  | succ n => rw [chF, if_pos hn]
theorem valS_lost {c : Chs} {s : Cst} (hs : OkS c s) (h : stC c s = 3) : valS c s = 0 := by
  unfold stC at h
  by_cases h1 : s.need = 0
  · rw [if_pos h1] at h; cases h
  rw [if_neg h1] at h
  by_cases h2 : s.str < 0 ∨ s.ball = c.bows.length
  · unfold valS
    cases hl : leftC c s with
    | zero => rw [chF, if_neg h1]
    | succ n =>
      rw [chF, if_neg h1]
      rcases h2 with h2 | h2
      · rw [if_pos h2]
      · unfold leftC at hl; omega
  · rw [if_neg h2] at h; cases h
theorem left_run {c : Chs} {s : Cst} (hs : OkS c s) (h : stC c s = 1) : s.need ≠ 0 ∧ ¬ s.str < 0 ∧ ∃ n, leftC c s = n + 1 ∧ (c.bows.length : Int) - s.ball = ((n + 1 : Nat) : Int) := by
  unfold stC at h
  by_cases h1 : s.need = 0
  · rw [if_pos h1] at h; cases h
  rw [if_neg h1] at h
  by_cases h2 : s.str < 0 ∨ s.ball = c.bows.length
  · rw [if_pos h2] at h; cases h
  have := hs.ball
  exact ⟨h1, by omega, (c.bows.length - s.ball).toNat - 1, by unfold leftC; omega, by omega⟩
theorem valS_run {c : Chs} {s : Cst} (hc : OkC c) (hs : OkS c s) (h : stC c s = 1) : valS c s = sumI ((mvC c s).map fun o => o.wt * valS c (stepC c s o)) := by
  obtain ⟨h1, h2, n, hn, hn2⟩ := left_run hs h
  obtain ⟨_, _, _, _, _, _, _, _, _, _, _, _, _, _, _, hd⟩ := mvC_at hc hs h
  have hok := checkD_ok hd
  have e : valS c s = chF c (n + 1) s := by unfold valS; rw [hn]
  rw [e, chF, if_neg h1, if_neg h2]
  congr 1
  refine List.map_congr_left fun o ho => ?_
  obtain ⟨_, k2, _⟩ := stepC_ok hc hs h (hok.each o ho).r0
  unfold valS leftC
  rw [k2, show ((c.bows.length : Int) - (s.ball + 1)).toNat = n by push_cast at hn2; omega]
theorem left_step {c : Chs} {s : Cst} {o : Otc} (hc : OkC c) (hs : OkS c s) (h : stC c s = 1) (ho : 0 ≤ o.runs) : leftC c s = leftC c (stepC c s o) + 1 := by
  obtain ⟨h1, h2, n, hn, hn2⟩ := left_run hs h
  obtain ⟨_, k2, _⟩ := stepC_ok hc hs h ho
  unfold leftC at hn ⊢
  rw [k2]; push_cast at hn2; omega
theorem left_le {c : Chs} {s : Cst} (hc : OkC c) (hs : OkS c s) : leftC c s ≤ 12 := by
  have := hc.nb; have := hs.ball
  unfold leftC; omega
theorem valS_bd {c : Chs} {s : Cst} (hc : OkC c) (hs : OkS c s) : 0 ≤ valS c s ∧ valS c s ≤ pow16 (leftC c s) := by
  have := hs.ball
  have := chF_law hc (leftC c s) s s hs hs (by unfold leftC; omega) rfl rfl rfl rfl (Int.le_refl _)
  exact ⟨this.1, this.2.1⟩
theorem valS_need {c : Chs} {s t : Cst} (hc : OkC c) (hs : OkS c s) (ht : OkS c t) (e1 : t.ball = s.ball) (e2 : t.str = s.str) (e3 : t.par = s.par) (e4 : t.nxt = s.nxt) (e5 : t.need ≤ s.need) : valS c s ≤ valS c t := by
  have := hs.ball
  have h := chF_law hc (leftC c s) s t hs ht (by unfold leftC; omega) e1 e2 e3 e4 e5
  have e : leftC c t = leftC c s := by unfold leftC; rw [e1]
  unfold valS; rw [e]; exact h.2.2
theorem pow16_le {n : Nat} (h : n ≤ 12) : 1 ≤ pow16 n ∧ pow16 n ≤ 281474976710656 := by rw [pow16_unit]; exact unitV_le h
/-- Sums of the first k products. -/
theorem sum_take {α : Type} (f : α → Int) {l : List α} {k : Nat} (hk : k < l.length) : sumI ((l.take (k + 1)).map f) = sumI ((l.take k).map f) + f l[k] := by
  rw [List.take_add_one, List.getElem?_eq_getElem hk, List.map_append, sumI_app]
  show _ = _
  simp [sumI_cons, sumI_nil]
end Go.Proofs.YtfnfbojaiikigaaGreatDoor

namespace Go.Proofs.YtfnfbojaiikigaaGreatDoor
open Go.ChangeShapes Go.WideShapes Go.ChangeAt Go.RowKit

theorem cellsBat : Tryz.prog.cellsOf 77 = 2 := by kernel_rfl
theorem cellsBow : Tryz.prog.cellsOf 90 = 2 := by kernel_rfl
theorem cellsMdl : Tryz.prog.cellsOf 25 = 2 := by kernel_rfl
theorem cellsOtcs : Tryz.prog.cellsOf 42 = 1 := by kernel_rfl
theorem cellsBats : Tryz.prog.cellsOf 22 = 1 := by kernel_rfl
theorem cellsBows : Tryz.prog.cellsOf 23 = 1 := by kernel_rfl
section
variable {H : Type} {enc : TypeId × Value → H} {W : World}
instance : Inhabited Bat := ⟨⟨[], []⟩⟩
instance : Inhabited Bow := ⟨⟨[], 0⟩⟩
set_option maxRecDepth 100000 in
theorem bat_one {fuel : Nat} {held : Bool} {cs : List Value} {x : DataW H × List MemPlace} (h : DataW.trod enc Tryz.prog W 0 (fun _ => true) held fuel 77 cs = some x) :
    ∃ f : Bat, elBat W (· < W.heap.size) cs f := by
  obtain ⟨ys, n, _, rfl, hc, hl, hf⟩ := DataW.trod_struct Tryz.underlying77 h
  rw [cellsBat] at hc
  match cs, hc with
  | [u0, u1], _ =>
    match ys, hl with
    | [z0, z1], _ =>
      have k0 := hf 0 _ rfl
      have k1 := hf 1 _ rfl
      obtain ⟨s, e0, _, hs⟩ := DataW.trod_string Tryz.underlying9 k0
      obtain ⟨v, l, e1, hsl⟩ := sl_raw (size := 3) (el := elOtc) Tryz.underlying42 cellsOtc (by decide) (fun h => otc_one h) k1
      have g0 : u0 = .string s := by simpa [Value.cells, cellsStr, cellsOtcs] using e0
      have g1 : u1 = v := by simpa [Value.cells, cellsStr, cellsOtcs] using e1
      subst g0 g1
      exact ⟨⟨s.data.toList, l⟩, ⟨_, by rw [S_of], hsl⟩, by simpa using hs⟩
set_option maxRecDepth 100000 in
theorem bow_one {F : Nat → Prop} {fuel : Nat} {held : Bool} {cs : List Value} {x : DataW H × List MemPlace} (h : DataW.trod enc Tryz.prog W 0 (fun _ => true) held fuel 90 cs = some x) :
    ∃ f : Bow, elBow W F cs f := by
  obtain ⟨ys, n, _, rfl, hc, hl, hf⟩ := DataW.trod_struct Tryz.underlying90 h
  rw [cellsBow] at hc
  match cs, hc with
  | [u0, u1], _ =>
    match ys, hl with
    | [z0, z1], _ =>
      have k0 := hf 0 _ rfl
      have k1 := hf 1 _ rfl
      obtain ⟨s, e0, _, hs⟩ := DataW.trod_string Tryz.underlying9 k0
      obtain ⟨a1, e1, _, _⟩ := DataW.trod_int Tryz.underlying3 k1
      have g0 : u0 = .string s := by simpa [Value.cells, cellsStr, cellsI'] using e0
      have g1 : u1 = .int .i64 a1 := by simpa [Value.cells, cellsStr, cellsI'] using e1
      subst g0 g1
      exact ⟨⟨s.data.toList, a1⟩, by rw [S_of], by simpa using hs⟩
set_option maxRecDepth 100000 in
/-- A model that came in. -/
theorem open_model {r : Reach} {b0 : Nat} {v : Value} {d : DataW H} {p : List MemPlace} (hv : Value.okWide Tryz.prog W r b0 25 v) (h : DataW.Trod enc Tryz.prog W 0 (fun _ => true) true 25 v d p) :
    ∃ (m : Mdl) (bv wv : Value), v = mdlV bv wv ∧ MdlAt W (· < W.heap.size) bv wv m := by
  obtain ⟨cs, rfl, hsz⟩ := okWide_struct Tryz.underlying25 hv
  obtain ⟨fuel, hf⟩ := h
  obtain ⟨l⟩ := cs
  match l, hsz.trans cellsMdl with
  | [c0, c1], _ =>
    obtain ⟨ys, n, _, _, _, hl, hf⟩ := DataW.trod_struct Tryz.underlying25 hf
    match ys, hl with
    | [z0, z1], _ =>
      have k0 := hf 0 _ rfl
      have k1 := hf 1 _ rfl
      obtain ⟨vb, lb, e0, hb⟩ := sl_raw (size := 2) (el := elBat) Tryz.underlying22 cellsBat (by decide) (fun h => bat_one h) k0
      obtain ⟨vw, lw, e1, hw⟩ := sl_raw (size := 2) (el := elBow) Tryz.underlying23 cellsBow (by decide) (fun h => bow_one h) k1
      have g0 : c0 = vb := by simpa [Value.cells, cellsBats, cellsBows] using e0
      have g1 : c1 = vw := by simpa [Value.cells, cellsBats, cellsBows] using e1
      subst g0 g1
      exact ⟨⟨lb, lw⟩, _, _, rfl, hb, hw⟩
end
end Go.Proofs.YtfnfbojaiikigaaGreatDoor

namespace Go.Proofs.YtfnfbojaiikigaaGreatDoor
open Go.RowKit

/-- A chase that lies: its four slices. -/
structure ChAt (w : World) (F : Nat → Prop) (bv wv pv ov : Value) (c : Chs) : Prop where
  mdl : MdlAt w F bv wv c.mdl
  bow : Sl 1 elInt w F pv c.bows
  ord : Sl 1 elInt w F ov c.ord
def chC (c : Chs) (bv wv pv ov : Value) : Array Value := #[bv, wv, pv, .int .i64 c.over, .int .i64 c.done, .int .i64 c.need, ov]
def chV (c : Chs) (bv wv pv ov : Value) : Value := .agg #[bv, wv, pv, .int .i64 c.over, .int .i64 c.done, .int .i64 c.need, ov]
def stV (s : Cst) : Value := .agg #[.int .i64 s.ball, .int .i64 s.need, .int .i64 s.str, .int .i64 s.par, .int .i64 s.nxt]
theorem ChAt.keep {w w' : World} {F G : Nat → Prop} {bv wv pv ov : Value} {c : Chs} (h : ChAt w F bv wv pv ov c) (hs : Same F w w') (hG : ∀ b, F b → G b) : ChAt w' G bv wv pv ov c := ⟨h.mdl.keep hs hG, h.bow.keep elInt_good hs hG, h.ord.keep elInt_good hs hG⟩
theorem ChAt.below {w w' : World} {bv wv pv ov : Value} {c : Chs} (h : ChAt w (· < w.heap.size) bv wv pv ov c) (hb : Below w.heap.size w w') : ChAt w' (· < w'.heap.size) bv wv pv ov c :=
  h.keep (Same.of_below hb) fun b h => Nat.lt_of_lt_of_le h hb.size
/-- A chase boxed in block g. -/
structure ChB (w W : World) (g : Nat) (c : Chs) (bv wv pv ov : Value) : Prop where
  bel : Below w.heap.size w W
  box : Blk W g 28 #[bv, wv, pv, .int .i64 c.over, .int .i64 c.done, .int .i64 c.need, ov]
theorem ChB.below {w W W' : World} {g : Nat} {c : Chs} {bv wv pv ov : Value} (h : ChB w W g c bv wv pv ov) (hb : Below W.heap.size W W') : ChB w W' g c bv wv pv ov := ⟨h.bel.trans (hb.mono h.bel.size), h.box.below hb h.box.lt⟩
theorem ChB.drew {w W : World} {g : Nat} {c : Chs} {bv wv pv ov : Value} (h : ChB w W g c bv wv pv ov) : ChB w W.drew g c bv wv pv ov := ⟨Below.drew h.bel, h.box.drew⟩
theorem ChB.alloc {w W : World} {g : Nat} {c : Chs} {bv wv pv ov : Value} (h : ChB w W g c bv wv pv ov) (o : Obj) : ChB w (W.alloc o) g c bv wv pv ov := ⟨h.bel.alloc h.bel.size _, h.box.alloc _⟩
theorem ChB.cells {w W : World} {g : Nat} {c : Chs} {bv wv pv ov : Value} (h : ChB w W g c bv wv pv ov) : W.cell? ⟨g, 0, none⟩ = some bv ∧ W.cell? ⟨g, 1, none⟩ = some wv ∧ W.cell? ⟨g, 2, none⟩ = some pv ∧ W.cell? ⟨g, 3, none⟩ = some (.int .i64 c.over) ∧ W.cell? ⟨g, 4, none⟩ = some (.int .i64 c.done) ∧ W.cell? ⟨g, 5, none⟩ = some (.int .i64 c.need) ∧ W.cell? ⟨g, 6, none⟩ = some ov :=
  ⟨h.box.cell 0, h.box.cell 1, h.box.cell 2, h.box.cell 3, h.box.cell 4, h.box.cell 5, h.box.cell 6⟩
theorem ChB.new (w : World) (c : Chs) (bv wv pv ov : Value) : ChB w (w.alloc (.cells #[bv, wv, pv, .int .i64 c.over, .int .i64 c.done, .int .i64 c.need, ov] 28)) w.heap.size c bv wv pv ov := ⟨Below.alloc (Below.refl _ _) (Nat.le_refl _) _, Blk.new _ _ _⟩
/-- The place of a number in a list, -1 where it is not. -/
def idxI (x : Int) : List Int → Nat → Int
  | [], _ => -1
  | a :: l, k => if a = x then (k : Int) else idxI x l (k + 1)
theorem idxI_mem (x : Int) : ∀ (l : List Int) (k : Nat), -1 ≤ idxI x l k ∧ (decide (0 ≤ idxI x l k) = decide (x ∈ l))
  | [], k => ⟨by simp [idxI], by simp [idxI]⟩
  | a :: l, k => by
    rw [idxI]
    by_cases h : a = x
    · rw [if_pos h]; exact ⟨by omega, by simp [h]⟩
    · rw [if_neg h]
      have := idxI_mem x l (k + 1)
      refine ⟨this.1, ?_⟩
      rw [this.2]
      have hx : (x ∈ a :: l) = (x ∈ l) := by rw [List.mem_cons]; exact propext ⟨fun k => k.elim (fun e => absurd e.symm h) id, .inr⟩
      simp only [hx]
set_option maxRecDepth 100000 in
set_option maxHeartbeats 2000000 in
theorem int_Index (l : List Int) (v : Value) (x : Int) (F : Nat → Prop) (w : World) (h : Sl 1 elInt w F v l) (hF : ∀ b, F b → b < w.heap.size) :
    Calls Tryz.prog 87 #[v, .int .i64 x] w fun e w' => e = .returned (.int .i64 (idxI x l 0)) ∧ Below w.heap.size w w' := by
  obtain ⟨z, hz⟩ : ∃ z, z = idxI x l 0 := ⟨_, rfl⟩
  rw [← hz]
  obtain ⟨A, c, rfl, hc, hc2⟩ := h.shape
  have HZ : Hid (z = idxI x (l.drop 0) 0) := hz
  have HL := Lib.hid h
  have HB := Lib.hid (Below.refl w.heap.size w)
  have HF := Lib.hid hF
  clear hz h hF
  go_enter Tryz.func87, Tryz.ntmps87
  go_wp2
  go_loopw [8] (fun i wr => ∃ k : Nat, k ≤ l.length ∧ i = .int .i64 k ∧ Below w.heap.size w wr ∧ Hid (z = idxI x (l.drop k) k)) (fun i _ => l.length - (intOf i).toNat)
  case atStart => exact ⟨0, Nat.zero_le _, rfl, HB.out, HZ⟩
  case round =>
    obtain ⟨k, hk, rfl, hb, hzz⟩ := hrel
    have HBB := Lib.hid hb
    by_cases hlt : k < l.length
    · obtain ⟨b0, o, rfl, hbl, yy0⟩ := int_at HL.out hlt
      have y0 := (hb.cell (p := ⟨b0, o + k, none⟩) (HF.out _ hbl)).trans yy0
      have hz2 := hzz.out
      rw [drop_get hlt, idxI] at hz2
      obtain ⟨p, hp⟩ : ∃ p, p = l[k] := ⟨_, rfl⟩
      rw [← hp] at hz2 y0
      clear hb hzz hp yy0
      by_cases hin : p = x
      · rw [if_pos hin] at hz2
        have e1 : (x == p) = true := beq_iff_eq.2 hin.symm
        have e2 : (p == x) = true := beq_iff_eq.2 hin
        have HZZ := Lib.hid hz2
        clear hz2 hin
        go_wp2
        go_ret
        exact ⟨ret_i HZZ.out.symm, HBB.out⟩
      · rw [if_neg hin] at hz2
        have e1 : (x == p) = false := beq_eq_false_iff_ne.2 (fun e => hin e.symm)
        have e2 : (p == x) = false := beq_eq_false_iff_ne.2 hin
        have HZZ := Lib.hid hz2
        clear hz2 hin
        go_wp2
        go_roundw
        case rel => exact ⟨k + 1, by omega, by go_num, HBB.out, HZZ⟩
        case measure => simp [intOf]; omega
    · obtain rfl : k = l.length := by omega
      have hz2 := hzz.out
      rw [List.drop_of_length_le (Nat.le_refl _), idxI] at hz2
      have HZZ := Lib.hid hz2
      clear hb hzz hz2
      go_wp2
      go_ret
      exact ⟨ret_i HZZ.out.symm, HBB.out⟩
set_option maxRecDepth 100000 in
theorem int_Contains (l : List Int) (v : Value) (x : Int) (F : Nat → Prop) (w : World) (h : Sl 1 elInt w F v l) (hF : ∀ b, F b → b < w.heap.size) :
    Calls Tryz.prog 42 #[v, .int .i64 x] w fun e w' => e = .returned (.bool (decide (x ∈ l))) ∧ Below w.heap.size w w' := by
  have hk := int_Index l v x F w h hF
  have hm := idxI_mem x l 0
  obtain ⟨i, hi⟩ : ∃ i, i = idxI x l 0 := ⟨_, rfl⟩
  rw [← hi] at hk hm
  have HM := Lib.hid hm.2
  have HK := Lib.hid hk
  obtain ⟨A, c, rfl, hc, hc2⟩ := h.shape
  clear hk hm hi h hF
  go_enter Tryz.func42, Tryz.ntmps42
  go_wp2_with (go_at_call 87; refine HK.out.mono ?_; rintro e w2 ⟨rfl, hb2⟩)
  go_ret
  exact ⟨ret_b HM.out, hb2⟩
end Go.Proofs.YtfnfbojaiikigaaGreatDoor

namespace Go.Proofs.YtfnfbojaiikigaaGreatDoor
open Go.ChangeShapes Go.WideShapes Go.ChangeAt Go.RowKit

theorem cellsCha : Tryz.prog.cellsOf 28 = 7 := by kernel_rfl
theorem cellsCst : Tryz.prog.cellsOf 33 = 5 := by kernel_rfl
theorem cellsIs : Tryz.prog.cellsOf 26 = 1 := by kernel_rfl
section
variable {H : Type} {enc : TypeId × Value → H} {W : World}
set_option maxRecDepth 100000 in
theorem int_one8 {F : Nat → Prop} {fuel : Nat} {held : Bool} {cs : List Value} {x : DataW H × List MemPlace} (h : DataW.trod enc Tryz.prog W 0 (fun _ => true) held fuel 3 cs = some x) :
    ∃ f : Int, elInt W F cs f := by
  obtain ⟨a, e, _, _⟩ := DataW.trod_int Tryz.underlying3 h
  exact ⟨a, e⟩
set_option maxRecDepth 100000 in
theorem mdl_raw {fuel : Nat} {held : Bool} {cs : List Value} {x : DataW H × List MemPlace} (h : DataW.trod enc Tryz.prog W 0 (fun _ => true) held fuel 25 cs = some x) :
    ∃ (m : Mdl) (bv wv : Value), cs = [bv, wv] ∧ MdlAt W (· < W.heap.size) bv wv m := by
  obtain ⟨ys, n, _, rfl, hc, hl, hf⟩ := DataW.trod_struct Tryz.underlying25 h
  rw [cellsMdl] at hc
  match cs, hc with
  | [c0, c1], _ =>
    match ys, hl with
    | [z0, z1], _ =>
      have k0 := hf 0 _ rfl
      have k1 := hf 1 _ rfl
      obtain ⟨vb, lb, e0, hb⟩ := sl_raw (size := 2) (el := elBat) Tryz.underlying22 cellsBat (by decide) (fun h => bat_one h) k0
      obtain ⟨vw, lw, e1, hw⟩ := sl_raw (size := 2) (el := elBow) Tryz.underlying23 cellsBow (by decide) (fun h => bow_one h) k1
      have g0 : c0 = vb := by simpa [Value.cells, cellsBats, cellsBows] using e0
      have g1 : c1 = vw := by simpa [Value.cells, cellsBats, cellsBows] using e1
      subst g0 g1
      exact ⟨⟨lb, lw⟩, _, _, rfl, hb, hw⟩
set_option maxRecDepth 100000 in
/-- A chase that came in. -/
theorem open_chase {r : Reach} {b0 : Nat} {v : Value} {d : DataW H} {p : List MemPlace} (hv : Value.okWide Tryz.prog W r b0 28 v) (h : DataW.Trod enc Tryz.prog W 0 (fun _ => true) true 28 v d p) :
    ∃ (c : Chs) (bv wv pv ov : Value), v = chV c bv wv pv ov ∧ ChAt W (· < W.heap.size) bv wv pv ov c := by
  obtain ⟨cs, rfl, hsz⟩ := okWide_struct Tryz.underlying28 hv
  obtain ⟨fuel, hf⟩ := h
  obtain ⟨l⟩ := cs
  match l, hsz.trans cellsCha with
  | [c0, c1, c2, c3, c4, c5, c6], _ =>
    obtain ⟨ys, n, _, _, _, hl, hf⟩ := DataW.trod_struct Tryz.underlying28 hf
    match ys, hl with
    | [z0, z1, z2, z3, z4, z5], _ =>
      have k0 := hf 0 _ rfl
      have k1 := hf 1 _ rfl
      have k2 := hf 2 _ rfl
      have k3 := hf 3 _ rfl
      have k4 := hf 4 _ rfl
      have k5 := hf 5 _ rfl
      obtain ⟨m, bv, wv, e0, hm⟩ := mdl_raw k0
      obtain ⟨pv, lp, e1, hp⟩ := sl_raw (size := 1) (el := elInt) Tryz.underlying26 cellsI' (by decide) (fun h => int_one8 h) k1
      obtain ⟨a2, e2, _, _⟩ := DataW.trod_int Tryz.underlying3 k2
      obtain ⟨a3, e3, _, _⟩ := DataW.trod_int Tryz.underlying3 k3
      obtain ⟨a4, e4, _, _⟩ := DataW.trod_int Tryz.underlying3 k4
      obtain ⟨ov, lo, e5, ho⟩ := sl_raw (size := 1) (el := elInt) Tryz.underlying26 cellsI' (by decide) (fun h => int_one8 h) k5
      have g0 : c0 = bv ∧ c1 = wv := by simpa [Value.cells, cellsMdl, cellsI', cellsIs] using e0
      have g2 : c2 = pv := by simpa [Value.cells, cellsMdl, cellsI', cellsIs] using e1
      have g3 : c3 = .int .i64 a2 := by simpa [Value.cells, cellsMdl, cellsI', cellsIs] using e2
      have g4 : c4 = .int .i64 a3 := by simpa [Value.cells, cellsMdl, cellsI', cellsIs] using e3
      have g5 : c5 = .int .i64 a4 := by simpa [Value.cells, cellsMdl, cellsI', cellsIs] using e4
      have g6 : c6 = ov := by simpa [Value.cells, cellsMdl, cellsI', cellsIs] using e5
      obtain ⟨g0, g1⟩ := g0
      subst g0 g1 g2 g3 g4 g5 g6
      exact ⟨⟨m, lp, a2, a3, a4, lo⟩, _, _, _, _, rfl, ⟨hm, hp, ho⟩⟩
set_option maxRecDepth 100000 in
/-- A state that came in. -/
theorem open_state {r : Reach} {b0 : Nat} {v : Value} {d : DataW H} {p : List MemPlace} (hv : Value.okWide Tryz.prog W r b0 33 v) (h : DataW.Trod enc Tryz.prog W 0 (fun _ => true) true 33 v d p) :
    ∃ s : Cst, v = stV s := by
  obtain ⟨cs, rfl, hsz⟩ := okWide_struct Tryz.underlying33 hv
  obtain ⟨fuel, hf⟩ := h
  obtain ⟨l⟩ := cs
  match l, hsz.trans cellsCst with
  | [c0, c1, c2, c3, c4], _ =>
    obtain ⟨ys, n, _, _, _, hl, hf⟩ := DataW.trod_struct Tryz.underlying33 hf
    match ys, hl with
    | [z0, z1, z2, z3, z4], _ =>
      obtain ⟨a0, e0, _, _⟩ := DataW.trod_int Tryz.underlying3 (hf 0 _ rfl)
      obtain ⟨a1, e1, _, _⟩ := DataW.trod_int Tryz.underlying3 (hf 1 _ rfl)
      obtain ⟨a2, e2, _, _⟩ := DataW.trod_int Tryz.underlying3 (hf 2 _ rfl)
      obtain ⟨a3, e3, _, _⟩ := DataW.trod_int Tryz.underlying3 (hf 3 _ rfl)
      obtain ⟨a4, e4, _, _⟩ := DataW.trod_int Tryz.underlying3 (hf 4 _ rfl)
      have g0 : c0 = .int .i64 a0 := by simpa [Value.cells, cellsI'] using e0
      have g1 : c1 = .int .i64 a1 := by simpa [Value.cells, cellsI'] using e1
      have g2 : c2 = .int .i64 a2 := by simpa [Value.cells, cellsI'] using e2
      have g3 : c3 = .int .i64 a3 := by simpa [Value.cells, cellsI'] using e3
      have g4 : c4 = .int .i64 a4 := by simpa [Value.cells, cellsI'] using e4
      subst g0 g1 g2 g3 g4
      exact ⟨⟨a0, a1, a2, a3, a4⟩, rfl⟩
end
end Go.Proofs.YtfnfbojaiikigaaGreatDoor

namespace Go.Proofs.YtfnfbojaiikigaaGreatDoor
open Go.RowKit

set_option maxRecDepth 100000 in
set_option maxHeartbeats 4000000 in
theorem ch44_Check (c : Chs) (bv wv pv ov : Value) (w : World) (h : ChAt w (· < w.heap.size) bv wv pv ov c) :
    Calls Tryz.prog 14 #[chV c bv wv pv ov] w fun e w' => e = .returned (.int .i64 (checkC c)) ∧ Below w.heap.size w w' := by
  unfold chV
  obtain ⟨z, hz⟩ : ∃ z, z = checkC c := ⟨_, rfl⟩
  rw [← hz]
  obtain ⟨A, ca, rfl, hc, hc2⟩ := h.mdl.bat.shape
  obtain ⟨A1, ca1, rfl, hc1, hc12⟩ := h.mdl.bow.shape
  obtain ⟨A2, ca2, rfl, hc3, hc32⟩ := h.bow.shape
  obtain ⟨A3, ca3, rfl, hc4, hc42⟩ := h.ord.shape
  have hx := ChB.new w c (.slice A c.mdl.bats.length ca) (.slice A1 c.mdl.bows.length ca1) (.slice A2 c.bows.length ca2) (.slice A3 c.ord.length ca3)
  have km := m_Check c.mdl _ _ _ (h.mdl.below hx.bel)
  have HM := Lib.hid h
  have HX := Lib.hid hx
  have hres := fun h1 h2 h3 => hz.trans (checkC_rest (c := c) h1 h2 h3)
  have hbad : checkM c.mdl ≠ 0 → z = checkM c.mdl := fun h => by rw [hz]; unfold checkC; rw [if_pos h]
  have hno : checkM c.mdl = 0 → c.bows.length = 0 → z = 6 := fun h h2 => by rw [hz]; unfold checkC; rw [if_neg (by omega), if_pos h2]
  have hmany : checkM c.mdl = 0 → c.bows.length ≠ 0 → 12 < c.bows.length → z = 9 := fun h h2 h3 => by rw [hz]; unfold checkC; rw [if_neg (by omega), if_neg h2, if_pos h3]
  obtain ⟨u, hu⟩ : ∃ u, u = checkM c.mdl := ⟨_, rfl⟩
  rw [← hu] at km hres hbad hno hmany
  clear hz h hx hu
  by_cases h0 : u = 0
  case neg =>
    have HZ := Lib.hid (hbad h0)
    have eu : (u != 0) = true := by simp [h0]
    have KM := Lib.hid km
    clear km hres hbad hno hmany h0
    go_enter Tryz.func14, Tryz.ntmps14
    go_wp2_with (go_at_call 41; refine KM.out.mono ?_; rintro e w2 ⟨rfl, hb2⟩; have HX2 := Lib.hid (HX.out.below hb2); obtain ⟨x0, x1, x2, x3, x4, x5, x6⟩ := HX2.out.cells; clear hb2)
    go_ret
    exact ⟨ret_i HZ.out.symm, HX2.out.bel⟩
  subst h0
  have KM := Lib.hid km
  clear km hbad
  by_cases h1 : c.bows.length = 0
  · have HZ := Lib.hid (hno rfl h1)
    have e1 : ((c.bows.length : Int) == 0) = true := beq_iff_eq.2 (by omega)
    have h1' := Lib.hid h1
    clear hres hno hmany h1
    go_enter Tryz.func14, Tryz.ntmps14
    go_wp2_with (go_at_call 41; refine KM.out.mono ?_; rintro e w2 ⟨rfl, hb2⟩; have HX2 := Lib.hid (HX.out.below hb2); obtain ⟨x0, x1, x2, x3, x4, x5, x6⟩ := HX2.out.cells; clear hb2)
    go_ret
    exact ⟨ret_i HZ.out.symm, HX2.out.bel⟩
  have e1 : ((c.bows.length : Int) == 0) = false := beq_eq_false_iff_ne.2 (by omega)
  by_cases h2 : 12 < c.bows.length
  · have HZ := Lib.hid (hmany rfl h1 h2)
    have e2 : (12 : Int) < (c.bows.length : Int) := by omega
    clear hres hno hmany h1 h2
    go_enter Tryz.func14, Tryz.ntmps14
    go_wp2_with (go_at_call 41; refine KM.out.mono ?_; rintro e w2 ⟨rfl, hb2⟩; have HX2 := Lib.hid (HX.out.below hb2); obtain ⟨x0, x1, x2, x3, x4, x5, x6⟩ := HX2.out.cells; clear hb2)
    go_ret
    exact ⟨ret_i HZ.out.symm, HX2.out.bel⟩
  have HZ0 := Lib.hid (hres rfl h1 h2)
  have e2 : ¬ (12 : Int) < (c.bows.length : Int) := by omega
  clear hres hno hmany h1 h2
  go_enter Tryz.func14, Tryz.ntmps14
  go_wp2_with (go_at_call 41; refine KM.out.mono ?_; rintro e w2 ⟨rfl, hb2⟩; have HX2 := Lib.hid (HX.out.below hb2); obtain ⟨x0, x1, x2, x3, x4, x5, x6⟩ := HX2.out.cells; clear hb2)
  go_loopw [27] (fun i wr => ∃ k : Nat, k ≤ c.bows.length ∧ i = .int .i64 k ∧ Hid (ChB w wr w.heap.size c (.slice A c.mdl.bats.length ca) (.slice A1 c.mdl.bows.length ca1) (.slice A2 c.bows.length ca2) (.slice A3 c.ord.length ca3)) ∧ Hid (z = restP c k)) (fun i _ => c.bows.length - (intOf i).toNat)
  case atStart => exact ⟨0, Nat.zero_le _, rfl, HX2, HZ0⟩
  case round =>
    clear HX2 HZ0 x0 x1 x2 x3 x4 x5 x6
    obtain ⟨k, hk, rfl, HW, hzz⟩ := hrel
    obtain ⟨x0, x1, x2, x3, x4, x5, x6⟩ := HW.out.cells
    by_cases hlt : k < c.bows.length
    · obtain ⟨b0, o, rfl, hbl, yy0⟩ := int_at HM.out.bow hlt
      have y0 := (HW.out.bel.cell (p := ⟨b0, o + k, none⟩) hbl).trans yy0
      have hz2 := hzz.out
      rw [restP_at hlt] at hz2
      obtain ⟨p, hp⟩ : ∃ p, p = c.bows[k] := ⟨_, rfl⟩
      rw [← hp] at hz2 y0
      clear hzz hp yy0
      by_cases g1 : p < 0
      · rw [if_pos (.inl g1)] at hz2
        have HZZ := Lib.hid hz2
        clear hz2
        go_wp2
        go_ret
        exact ⟨ret_i HZZ.out.symm, HW.out.bel⟩
      · by_cases g2 : (c.mdl.bows.length : Int) ≤ p
        · rw [if_pos (.inr g2)] at hz2
          have HZZ := Lib.hid hz2
          clear hz2
          go_wp2
          go_ret
          exact ⟨ret_i HZZ.out.symm, HW.out.bel⟩
        · rw [if_neg (by omega)] at hz2
          have HZZ := Lib.hid hz2
          clear hz2
          go_wp2
          go_roundw
          case rel => exact ⟨k + 1, by omega, by go_num, HW, HZZ⟩
          case measure => simp [intOf]; omega
    · obtain rfl : k = c.bows.length := by omega
      have hz2 := hzz.out
      rw [restP_end] at hz2
      have ht2 : rangeC c = true → z = 2 := fun h => by rw [hz2]; unfold tailC; rw [if_pos h]
      have ht9 : rangeC c = false → (c.ord.length < 2 ∨ 11 < c.ord.length) → z = 9 := fun h h2 => by rw [hz2]; unfold tailC; rw [if_neg (by simp [h]), if_pos h2]
      have htr : rangeC c = false → ¬ (c.ord.length < 2 ∨ 11 < c.ord.length) → z = restO c 0 := fun h h2 => hz2.trans (tailC_rest h h2)
      have hw := rangeC_ways c
      obtain ⟨over, hov⟩ : ∃ x, x = c.over := ⟨_, rfl⟩
      obtain ⟨done, hdo⟩ : ∃ x, x = c.done := ⟨_, rfl⟩
      obtain ⟨need, hne⟩ : ∃ x, x = c.need := ⟨_, rfl⟩
      rw [← hov, ← hdo, ← hne] at hw
      rw [← hov] at x3
      rw [← hdo] at x4
      rw [← hne] at x5
      clear hzz hz2 hov hdo hne
      rcases hw with ⟨hr, hw⟩ | ⟨hr, g1, g2, g3, g4, g5, g6⟩
      · have HZZ := Lib.hid (ht2 hr)
        clear ht2 ht9 htr hr
        rcases hw with g1 | ⟨g1, g2⟩ | ⟨g1, g2, g3⟩ | ⟨g1, g2, g3, g4⟩ | ⟨g1, g2, g3, g4, g5⟩ | ⟨g1, g2, g3, g4, g5, g6⟩
        all_goals go_wp2
        all_goals go_ret
        all_goals exact ⟨ret_i HZZ.out.symm, HW.out.bel⟩
      by_cases g7 : c.ord.length < 2
      · have HZZ := Lib.hid (ht9 hr (.inl g7))
        have g7' : (c.ord.length : Int) < 2 := by omega
        clear ht2 ht9 htr hr g7
        go_wp2
        go_ret
        exact ⟨ret_i HZZ.out.symm, HW.out.bel⟩
      by_cases g8 : 11 < c.ord.length
      · have HZZ := Lib.hid (ht9 hr (.inr g8))
        have g7' : ¬ (c.ord.length : Int) < 2 := by omega
        have g8' : (11 : Int) < (c.ord.length : Int) := by omega
        clear ht2 ht9 htr hr g7 g8
        go_wp2
        go_ret
        exact ⟨ret_i HZZ.out.symm, HW.out.bel⟩
      have HZ1 := Lib.hid (htr hr (by omega))
      have g7' : ¬ (c.ord.length : Int) < 2 := by omega
      have g8' : ¬ (11 : Int) < (c.ord.length : Int) := by omega
      have HW1 := HW
      clear ht2 ht9 htr hr g7 g8
      obtain ⟨wo, rfl⟩ : ∃ wo : World, wo = wr := ⟨_, rfl⟩
      go_wp2
      go_loopw [87] (fun i wr => ∃ k : Nat, k ≤ c.ord.length ∧ i = .int .i64 k ∧ Hid (ChB w wr w.heap.size c (.slice A c.mdl.bats.length ca) (.slice A1 c.mdl.bows.length ca1) (.slice A2 c.bows.length ca2) (.slice A3 c.ord.length ca3)) ∧ Hid (z = restO c k)) (fun i _ => c.ord.length - (intOf i).toNat)
      case atStart => exact ⟨0, Nat.zero_le _, rfl, HW1, HZ1⟩
      case round =>
        clear HW1 HZ1 HW x0 x1 x2 x3 x4 x5 x6
        obtain ⟨k, hk, rfl, HW, hzz⟩ := hrel
        obtain ⟨x0, x1, x2, x3, x4, x5, x6⟩ := HW.out.cells
        by_cases hlt : k < c.ord.length
        · obtain ⟨b0, o, rfl, hbl, yy0⟩ := int_at HM.out.ord hlt
          have y0 := (HW.out.bel.cell (p := ⟨b0, o + k, none⟩) hbl).trans yy0
          have hz2 := hzz.out
          rw [restO_at hlt] at hz2
          obtain ⟨p, hp⟩ : ∃ p, p = c.ord[k] := ⟨_, rfl⟩
          rw [← hp] at hz2 y0
          clear hzz hp yy0
          by_cases q1 : p < 0
          · rw [if_pos (.inl q1)] at hz2
            have HZZ := Lib.hid hz2
            clear hz2
            go_wp2
            go_ret
            exact ⟨ret_i HZZ.out.symm, HW.out.bel⟩
          by_cases q2 : (c.mdl.bats.length : Int) ≤ p
          · rw [if_pos (.inr q2)] at hz2
            have HZZ := Lib.hid hz2
            clear hz2
            go_wp2
            go_ret
            exact ⟨ret_i HZZ.out.symm, HW.out.bel⟩
          rw [if_neg (by omega)] at hz2
          have kc : ∀ W, Below w.heap.size w W → Calls Tryz.prog 42 #[.slice (some ⟨b0, o, none⟩) k ca3, .int .i64 p] W fun e W' => e = .returned (.bool (decide (p ∈ c.ord.take k))) ∧ Below W.heap.size W W' := fun W hW => by
            have ht := ((HM.out.below hW).ord.take (k := k) (by omega))
            have hl : (c.ord.take k).length = k := by rw [List.length_take]; omega
            exact int_Contains _ _ p _ W ht fun b h => h
          by_cases q3 : p ∈ c.ord.take k
          · rw [if_pos q3] at hz2
            rw [decide_eq_true q3] at kc
            have KC := Lib.hid kc
            have HZZ := Lib.hid hz2
            clear hz2 kc q3
            go_wp2_with (go_at_call 42; refine (KC.out _ HW.out.bel).mono ?_; rintro e w3 ⟨rfl, hb3⟩; have HX3 := Lib.hid (HW.out.below hb3); clear hb3)
            go_ret
            exact ⟨ret_i HZZ.out.symm, HX3.out.bel⟩
          · rw [if_neg q3] at hz2
            rw [decide_eq_false q3] at kc
            have KC := Lib.hid kc
            have HZZ := Lib.hid hz2
            clear hz2 kc q3
            go_wp2_with (go_at_call 42; refine (KC.out _ HW.out.bel).mono ?_; rintro e w3 ⟨rfl, hb3⟩; have HX3 := Lib.hid (HW.out.below hb3); clear hb3)
            go_roundw
            case rel => exact ⟨k + 1, by omega, by go_num, HX3, HZZ⟩
            case measure => simp [intOf]; omega
        · obtain rfl : k = c.ord.length := by omega
          have hz2 := hzz.out
          rw [restO_end] at hz2
          have HZ2 := Lib.hid hz2
          clear hzz hz2
          go_wp2
          go_ret
          exact ⟨ret_i HZ2.out.symm, HW.out.bel⟩
end Go.Proofs.YtfnfbojaiikigaaGreatDoor

namespace Go.Proofs.YtfnfbojaiikigaaGreatDoor
open Go.RowKit

set_option maxRecDepth 100000 in
set_option maxHeartbeats 4000000 in
theorem r44_Check (c : Chs) (bv wv pv ov : Value) (w : World) (h : ChAt w (· < w.heap.size) bv wv pv ov c) :
    Calls Tryz.prog 54 #[chV c bv wv pv ov] w fun e w' => e = .returned (.int .i64 (checkC c)) ∧ Below w.heap.size w w' := by
  unfold chV
  obtain ⟨z, hz⟩ : ∃ z, z = checkC c := ⟨_, rfl⟩
  rw [← hz]
  obtain ⟨A, ca, rfl, hc, hc2⟩ := h.mdl.bat.shape
  obtain ⟨A1, ca1, rfl, hc1, hc12⟩ := h.mdl.bow.shape
  obtain ⟨A2, ca2, rfl, hc3, hc32⟩ := h.bow.shape
  obtain ⟨A3, ca3, rfl, hc4, hc42⟩ := h.ord.shape
  have hx := ChB.new w c (.slice A c.mdl.bats.length ca) (.slice A1 c.mdl.bows.length ca1) (.slice A2 c.bows.length ca2) (.slice A3 c.ord.length ca3)
  have km := r_Check c.mdl _ _ _ (h.mdl.below hx.bel)
  have HM := Lib.hid h
  have HX := Lib.hid hx
  have hres := fun h1 h2 h3 => hz.trans (checkC_rest (c := c) h1 h2 h3)
  have hbad : checkM c.mdl ≠ 0 → z = checkM c.mdl := fun h => by rw [hz]; unfold checkC; rw [if_pos h]
  have hno : checkM c.mdl = 0 → c.bows.length = 0 → z = 6 := fun h h2 => by rw [hz]; unfold checkC; rw [if_neg (by omega), if_pos h2]
  have hmany : checkM c.mdl = 0 → c.bows.length ≠ 0 → 12 < c.bows.length → z = 9 := fun h h2 h3 => by rw [hz]; unfold checkC; rw [if_neg (by omega), if_neg h2, if_pos h3]
  obtain ⟨u, hu⟩ : ∃ u, u = checkM c.mdl := ⟨_, rfl⟩
  rw [← hu] at km hres hbad hno hmany
  clear hz h hx hu
  by_cases h0 : u = 0
  case neg =>
    have HZ := Lib.hid (hbad h0)
    have eu : (u != 0) = true := by simp [h0]
    have KM := Lib.hid km
    clear km hres hbad hno hmany h0
    go_enter Tryz.func54, Tryz.ntmps54
    go_wp2_with (go_at_call 53; refine KM.out.mono ?_; rintro e w2 ⟨rfl, hb2⟩; have HX2 := Lib.hid (HX.out.below hb2); obtain ⟨x0, x1, x2, x3, x4, x5, x6⟩ := HX2.out.cells; clear hb2)
    go_ret
    exact ⟨ret_i HZ.out.symm, HX2.out.bel⟩
  subst h0
  have KM := Lib.hid km
  clear km hbad
  by_cases h1 : c.bows.length = 0
  · have HZ := Lib.hid (hno rfl h1)
    have e1 : ((c.bows.length : Int) == 0) = true := beq_iff_eq.2 (by omega)
    have h1' := Lib.hid h1
    clear hres hno hmany h1
    go_enter Tryz.func54, Tryz.ntmps54
    go_wp2_with (go_at_call 53; refine KM.out.mono ?_; rintro e w2 ⟨rfl, hb2⟩; have HX2 := Lib.hid (HX.out.below hb2); obtain ⟨x0, x1, x2, x3, x4, x5, x6⟩ := HX2.out.cells; clear hb2)
    go_ret
    exact ⟨ret_i HZ.out.symm, HX2.out.bel⟩
  have e1 : ((c.bows.length : Int) == 0) = false := beq_eq_false_iff_ne.2 (by omega)
  by_cases h2 : 12 < c.bows.length
  · have HZ := Lib.hid (hmany rfl h1 h2)
    have e2 : (12 : Int) < (c.bows.length : Int) := by omega
    clear hres hno hmany h1 h2
    go_enter Tryz.func54, Tryz.ntmps54
    go_wp2_with (go_at_call 53; refine KM.out.mono ?_; rintro e w2 ⟨rfl, hb2⟩; have HX2 := Lib.hid (HX.out.below hb2); obtain ⟨x0, x1, x2, x3, x4, x5, x6⟩ := HX2.out.cells; clear hb2)
    go_ret
    exact ⟨ret_i HZ.out.symm, HX2.out.bel⟩
  have HZ0 := Lib.hid (hres rfl h1 h2)
  have e2 : ¬ (12 : Int) < (c.bows.length : Int) := by omega
  clear hres hno hmany h1 h2
  go_enter Tryz.func54, Tryz.ntmps54
  go_wp2_with (go_at_call 53; refine KM.out.mono ?_; rintro e w2 ⟨rfl, hb2⟩; have HX2 := Lib.hid (HX.out.below hb2); obtain ⟨x0, x1, x2, x3, x4, x5, x6⟩ := HX2.out.cells; clear hb2)
  go_loopw [27] (fun i wr => ∃ k : Nat, k ≤ c.bows.length ∧ i = .int .i64 k ∧ Hid (ChB w wr w.heap.size c (.slice A c.mdl.bats.length ca) (.slice A1 c.mdl.bows.length ca1) (.slice A2 c.bows.length ca2) (.slice A3 c.ord.length ca3)) ∧ Hid (z = restP c k)) (fun i _ => c.bows.length - (intOf i).toNat)
  case atStart => exact ⟨0, Nat.zero_le _, rfl, HX2, HZ0⟩
  case round =>
    clear HX2 HZ0 x0 x1 x2 x3 x4 x5 x6
    obtain ⟨k, hk, rfl, HW, hzz⟩ := hrel
    obtain ⟨x0, x1, x2, x3, x4, x5, x6⟩ := HW.out.cells
    by_cases hlt : k < c.bows.length
    · obtain ⟨b0, o, rfl, hbl, yy0⟩ := int_at HM.out.bow hlt
      have y0 := (HW.out.bel.cell (p := ⟨b0, o + k, none⟩) hbl).trans yy0
      have hz2 := hzz.out
      rw [restP_at hlt] at hz2
      obtain ⟨p, hp⟩ : ∃ p, p = c.bows[k] := ⟨_, rfl⟩
      rw [← hp] at hz2 y0
      clear hzz hp yy0
      by_cases g1 : p < 0
      · rw [if_pos (.inl g1)] at hz2
        have HZZ := Lib.hid hz2
        clear hz2
        go_wp2
        go_ret
        exact ⟨ret_i HZZ.out.symm, HW.out.bel⟩
      · by_cases g2 : (c.mdl.bows.length : Int) ≤ p
        · rw [if_pos (.inr g2)] at hz2
          have HZZ := Lib.hid hz2
          clear hz2
          go_wp2
          go_ret
          exact ⟨ret_i HZZ.out.symm, HW.out.bel⟩
        · rw [if_neg (by omega)] at hz2
          have HZZ := Lib.hid hz2
          clear hz2
          go_wp2
          go_roundw
          case rel => exact ⟨k + 1, by omega, by go_num, HW, HZZ⟩
          case measure => simp [intOf]; omega
    · obtain rfl : k = c.bows.length := by omega
      have hz2 := hzz.out
      rw [restP_end] at hz2
      have ht2 : rangeC c = true → z = 2 := fun h => by rw [hz2]; unfold tailC; rw [if_pos h]
      have ht9 : rangeC c = false → (c.ord.length < 2 ∨ 11 < c.ord.length) → z = 9 := fun h h2 => by rw [hz2]; unfold tailC; rw [if_neg (by simp [h]), if_pos h2]
      have htr : rangeC c = false → ¬ (c.ord.length < 2 ∨ 11 < c.ord.length) → z = restO c 0 := fun h h2 => hz2.trans (tailC_rest h h2)
      have hw := rangeC_ways c
      obtain ⟨over, hov⟩ : ∃ x, x = c.over := ⟨_, rfl⟩
      obtain ⟨done, hdo⟩ : ∃ x, x = c.done := ⟨_, rfl⟩
      obtain ⟨need, hne⟩ : ∃ x, x = c.need := ⟨_, rfl⟩
      rw [← hov, ← hdo, ← hne] at hw
      rw [← hov] at x3
      rw [← hdo] at x4
      rw [← hne] at x5
      clear hzz hz2 hov hdo hne
      rcases hw with ⟨hr, hw⟩ | ⟨hr, g1, g2, g3, g4, g5, g6⟩
      · have HZZ := Lib.hid (ht2 hr)
        clear ht2 ht9 htr hr
        rcases hw with g1 | ⟨g1, g2⟩ | ⟨g1, g2, g3⟩ | ⟨g1, g2, g3, g4⟩ | ⟨g1, g2, g3, g4, g5⟩ | ⟨g1, g2, g3, g4, g5, g6⟩
        all_goals go_wp2
        all_goals go_ret
        all_goals exact ⟨ret_i HZZ.out.symm, HW.out.bel⟩
      by_cases g7 : c.ord.length < 2
      · have HZZ := Lib.hid (ht9 hr (.inl g7))
        have g7' : (c.ord.length : Int) < 2 := by omega
        clear ht2 ht9 htr hr g7
        go_wp2
        go_ret
        exact ⟨ret_i HZZ.out.symm, HW.out.bel⟩
      by_cases g8 : 11 < c.ord.length
      · have HZZ := Lib.hid (ht9 hr (.inr g8))
        have g7' : ¬ (c.ord.length : Int) < 2 := by omega
        have g8' : (11 : Int) < (c.ord.length : Int) := by omega
        clear ht2 ht9 htr hr g7 g8
        go_wp2
        go_ret
        exact ⟨ret_i HZZ.out.symm, HW.out.bel⟩
      have HZ1 := Lib.hid (htr hr (by omega))
      have g7' : ¬ (c.ord.length : Int) < 2 := by omega
      have g8' : ¬ (11 : Int) < (c.ord.length : Int) := by omega
      have HW1 := HW
      clear ht2 ht9 htr hr g7 g8
      obtain ⟨wo, rfl⟩ : ∃ wo : World, wo = wr := ⟨_, rfl⟩
      go_wp2
      go_loopw [85] (fun i wr => ∃ k : Nat, k ≤ c.ord.length ∧ i = .int .i64 k ∧ Hid (ChB w wr w.heap.size c (.slice A c.mdl.bats.length ca) (.slice A1 c.mdl.bows.length ca1) (.slice A2 c.bows.length ca2) (.slice A3 c.ord.length ca3)) ∧ Hid (z = restO c k)) (fun i _ => c.ord.length - (intOf i).toNat)
      case atStart => exact ⟨0, Nat.zero_le _, rfl, HW1, HZ1⟩
      case round =>
        clear HW1 HZ1 HW x0 x1 x2 x3 x4 x5 x6
        obtain ⟨k, hk, rfl, HW, hzz⟩ := hrel
        obtain ⟨x0, x1, x2, x3, x4, x5, x6⟩ := HW.out.cells
        by_cases hlt : k < c.ord.length
        · obtain ⟨b0, o, rfl, hbl, yy0⟩ := int_at HM.out.ord hlt
          have y0 := (HW.out.bel.cell (p := ⟨b0, o + k, none⟩) hbl).trans yy0
          have hz2 := hzz.out
          rw [restO_at hlt] at hz2
          obtain ⟨p, hp⟩ : ∃ p, p = c.ord[k] := ⟨_, rfl⟩
          rw [← hp] at hz2 y0
          clear hzz hp yy0
          by_cases q1 : p < 0
          · rw [if_pos (.inl q1)] at hz2
            have HZZ := Lib.hid hz2
            clear hz2
            go_wp2
            go_ret
            exact ⟨ret_i HZZ.out.symm, HW.out.bel⟩
          by_cases q2 : (c.mdl.bats.length : Int) ≤ p
          · rw [if_pos (.inr q2)] at hz2
            have HZZ := Lib.hid hz2
            clear hz2
            go_wp2
            go_ret
            exact ⟨ret_i HZZ.out.symm, HW.out.bel⟩
          rw [if_neg (by omega)] at hz2
          have hl : (c.ord.take k).length = k := by rw [List.length_take]; omega
          obtain ⟨tl, htl⟩ : ∃ t, t = c.ord.take k := ⟨_, rfl⟩
          rw [← htl] at hz2 hl
          have HZ3 : Hid (z = if p ∈ tl.drop 0 then 7 else restO c (k + 1)) := by unfold Hid; rw [List.drop_zero]; exact hz2
          have HL := Lib.hid hl
          have HTL := Lib.hid htl
          have HW3 := HW
          clear hz2 htl hl
          obtain ⟨wo2, rfl⟩ : ∃ wo : World, wo = wr := ⟨_, rfl⟩
          go_wp2
          go_loopw [105] (fun i wr => ∃ j : Nat, j ≤ k ∧ i = .int .i64 j ∧ Hid (ChB w wr w.heap.size c (.slice A c.mdl.bats.length ca) (.slice A1 c.mdl.bows.length ca1) (.slice A2 c.bows.length ca2) (.slice (some ⟨b0, o, none⟩) c.ord.length ca3)) ∧ Hid (z = if p ∈ tl.drop j then 7 else restO c (k + 1))) (fun i _ => k - (intOf i).toNat)
          case atStart => exact ⟨0, Nat.zero_le _, rfl, HW3, HZ3⟩
          case round =>
            obtain ⟨j, hj, rfl, HWJ, hzj⟩ := hrel
            by_cases hjt : j < k
            · have hjl : j < tl.length := by rw [HL.out]; exact hjt
              have htj := (HM.out.below HWJ.out.bel).ord.take (k := k) (by omega)
              rw [← HTL.out] at htj
              obtain ⟨b1, o1, he1, _, yj⟩ := int_at htj (k := j) hjl
              obtain ⟨rfl, rfl⟩ : b1 = b0 ∧ o1 = o := by injection he1 with h; injection h with h1 h2; exact ⟨h1.symm, h2.symm⟩
              have hzj2 := hzj.out
              rw [drop_get hjl] at hzj2
              obtain ⟨q, hq⟩ : ∃ q, q = tl[j] := ⟨_, rfl⟩
              rw [← hq] at yj hzj2
              clear hzj hq htj he1
              by_cases hqp : q = p
              · rw [if_pos (by rw [hqp]; simp)] at hzj2
                have e1 : (q == p) = true := beq_iff_eq.2 hqp
                have e2 : (p == q) = true := beq_iff_eq.2 hqp.symm
                have HZZ := Lib.hid hzj2
                clear hzj2 hqp
                go_wp2
                go_ret
                exact ⟨ret_i HZZ.out.symm, HWJ.out.bel⟩
              · have hmm : (p ∈ q :: tl.drop (j + 1)) = (p ∈ tl.drop (j + 1)) := by rw [List.mem_cons]; exact propext ⟨fun k => k.elim (fun e => absurd e.symm hqp) id, .inr⟩
                simp only [hmm] at hzj2
                have e1 : (q == p) = false := beq_eq_false_iff_ne.2 hqp
                have e2 : (p == q) = false := beq_eq_false_iff_ne.2 (fun e => hqp e.symm)
                have HZZ := Lib.hid hzj2
                clear hzj2 hqp hmm
                go_wp2
                go_roundw
                case rel => exact ⟨j + 1, by omega, by go_num, HWJ, HZZ⟩
                case measure => simp [intOf]; omega
            · obtain rfl : j = k := by omega
              have hzj2 := hzj.out
              rw [List.drop_of_length_le (by rw [HL.out]; exact Nat.le_refl _), if_neg (by simp)] at hzj2
              have HZZ := Lib.hid hzj2
              clear hzj hzj2
              go_wp2
              go_roundw
              case rel => exact ⟨j + 1, by omega, by go_num, HWJ, HZZ⟩
              case measure => simp [intOf]; omega
        · obtain rfl : k = c.ord.length := by omega
          have hz2 := hzz.out
          rw [restO_end] at hz2
          have HZ2 := Lib.hid hz2
          clear hzz hz2
          go_wp2
          go_ret
          exact ⟨ret_i HZ2.out.symm, HW.out.bel⟩
end Go.Proofs.YtfnfbojaiikigaaGreatDoor

namespace Go.Proofs.YtfnfbojaiikigaaGreatDoor
open Go.RowKit

/-- A chase and a state boxed one behind the other. -/
structure CSB (w W : World) (g : Nat) (c : Chs) (bv wv pv ov : Value) (s : Cst) : Prop where
  bel : Below w.heap.size w W
  box : Blk W g 28 #[bv, wv, pv, .int .i64 c.over, .int .i64 c.done, .int .i64 c.need, ov]
  st : Blk W (g + 1) 33 #[.int .i64 s.ball, .int .i64 s.need, .int .i64 s.str, .int .i64 s.par, .int .i64 s.nxt]
section
variable {w W W' : World} {g : Nat} {c : Chs} {bv wv pv ov : Value} {s : Cst}
theorem CSB.below (h : CSB w W g c bv wv pv ov s) (hb : Below W.heap.size W W') : CSB w W' g c bv wv pv ov s := ⟨h.bel.trans (hb.mono h.bel.size), h.box.below hb h.box.lt, h.st.below hb h.st.lt⟩
theorem CSB.drew (h : CSB w W g c bv wv pv ov s) : CSB w W.drew g c bv wv pv ov s := ⟨Below.drew h.bel, h.box.drew, h.st.drew⟩
theorem CSB.cells (h : CSB w W g c bv wv pv ov s) : W.cell? ⟨g, 0, none⟩ = some bv ∧ W.cell? ⟨g, 1, none⟩ = some wv ∧ W.cell? ⟨g, 2, none⟩ = some pv ∧ W.cell? ⟨g, 3, none⟩ = some (.int .i64 c.over) ∧ W.cell? ⟨g, 4, none⟩ = some (.int .i64 c.done) ∧ W.cell? ⟨g, 5, none⟩ = some (.int .i64 c.need) ∧ W.cell? ⟨g, 6, none⟩ = some ov ∧
    W.cell? ⟨g + 1, 0, none⟩ = some (.int .i64 s.ball) ∧ W.cell? ⟨g + 1, 1, none⟩ = some (.int .i64 s.need) ∧ W.cell? ⟨g + 1, 2, none⟩ = some (.int .i64 s.str) ∧ W.cell? ⟨g + 1, 3, none⟩ = some (.int .i64 s.par) ∧ W.cell? ⟨g + 1, 4, none⟩ = some (.int .i64 s.nxt) :=
  ⟨h.box.cell 0, h.box.cell 1, h.box.cell 2, h.box.cell 3, h.box.cell 4, h.box.cell 5, h.box.cell 6, h.st.cell 0, h.st.cell 1, h.st.cell 2, h.st.cell 3, h.st.cell 4⟩
theorem CSB.new (w : World) (c : Chs) (bv wv pv ov : Value) (s : Cst) : CSB w ((w.alloc (.cells #[bv, wv, pv, .int .i64 c.over, .int .i64 c.done, .int .i64 c.need, ov] 28)).alloc (.cells #[.int .i64 s.ball, .int .i64 s.need, .int .i64 s.str, .int .i64 s.par, .int .i64 s.nxt] 33)) w.heap.size c bv wv pv ov s := by
  have h1 := ChB.new w c bv wv pv ov
  have h2 := Blk.new (w.alloc (.cells #[bv, wv, pv, .int .i64 c.over, .int .i64 c.done, .int .i64 c.need, ov] 28)) 33 #[.int .i64 s.ball, .int .i64 s.need, .int .i64 s.str, .int .i64 s.par, .int .i64 s.nxt]
  rw [World.size_alloc] at h2
  exact ⟨h1.bel.alloc h1.bel.size _, h1.box.alloc _, h2⟩
end
theorem stC_ways (c : Chs) (s : Cst) : (s.need = 0 ∧ stC c s = 2) ∨ (s.need ≠ 0 ∧ s.str < 0 ∧ stC c s = 3) ∨ (s.need ≠ 0 ∧ ¬ s.str < 0 ∧ s.ball = c.bows.length ∧ stC c s = 3) ∨ (s.need ≠ 0 ∧ ¬ s.str < 0 ∧ s.ball ≠ c.bows.length ∧ stC c s = 1) := by
  unfold stC
  by_cases h1 : s.need = 0
  · exact .inl ⟨h1, by rw [if_pos h1]⟩
  by_cases h2 : s.str < 0
  · exact .inr (.inl ⟨h1, h2, by rw [if_neg h1, if_pos (.inl h2)]⟩)
  by_cases h3 : s.ball = c.bows.length
  · exact .inr (.inr (.inl ⟨h1, h2, h3, by rw [if_neg h1, if_pos (.inr h3)]⟩))
  exact .inr (.inr (.inr ⟨h1, h2, h3, by rw [if_neg h1, if_neg (by omega)]⟩))
theorem ret_u8 {a b : Int} (h : a = b) : Ending.returned (.int .u8 a) = .returned (.int .u8 b) := by rw [h]
set_option maxRecDepth 100000 in
theorem ch_within (n lo hi : Int) (b : Bool) (hb : outC.inC n lo hi = b) (w : World) : Calls Tryz.prog 125 #[.int .i64 n, .int .i64 lo, .int .i64 hi] w fun e w' => e = .returned (.bool b) ∧ w' = w := by
  have HB := Lib.hid hb.symm
  unfold outC.inC at HB
  clear hb
  by_cases h1 : lo ≤ n
  · by_cases h2 : n ≤ hi
    · go_enter Tryz.func125, Tryz.ntmps125
      go_wp2
      go_ret
      exact ⟨ret_b (by rw [HB.out]; simp [h1, h2]), rfl⟩
    · go_enter Tryz.func125, Tryz.ntmps125
      go_wp2
      go_ret
      exact ⟨ret_b (by rw [HB.out]; simp [h1, h2]), rfl⟩
  · go_enter Tryz.func125, Tryz.ntmps125
    go_wp2
    go_ret
    exact ⟨ret_b (by rw [HB.out]; simp; omega), rfl⟩
set_option maxRecDepth 100000 in
set_option maxHeartbeats 4000000 in
theorem ch44_status (c : Chs) (s : Cst) (bv wv pv ov : Value) (w : World) (h : ChAt w (· < w.heap.size) bv wv pv ov c) (hs : OkS c s) :
    Calls Tryz.prog 47 #[chV c bv wv pv ov, stV s] w fun e w' => e = .returned (.int .u8 (stC c s)) ∧ Below w.heap.size w w' := by
  unfold chV stV
  obtain ⟨ball, need, str, par, nxt⟩ := s
  obtain ⟨A, ca, rfl, hc1, hc2⟩ := h.mdl.bat.shape
  obtain ⟨A1, ca1, rfl, hc3, hc4⟩ := h.mdl.bow.shape
  obtain ⟨A2, ca2, rfl, hc5, hc6⟩ := h.bow.shape
  obtain ⟨A3, ca3, rfl, hc7, hc8⟩ := h.ord.shape
  have hx := CSB.new w c (.slice A c.mdl.bats.length ca) (.slice A1 c.mdl.bows.length ca1) (.slice A2 c.bows.length ca2) (.slice A3 c.ord.length ca3) ⟨ball, need, str, par, nxt⟩
  have HX := Lib.hid hx
  have HM := Lib.hid h
  have hw := stC_ways c ⟨ball, need, str, par, nxt⟩
  have hm := hs.str.1
  obtain ⟨z, hz⟩ : ∃ z, z = stC c ⟨ball, need, str, par, nxt⟩ := ⟨_, rfl⟩
  rw [← hz] at hw ⊢
  dsimp only at hw hm
  clear hx h hs hz
  rcases hw with ⟨h1, hz⟩ | ⟨h1, h2, hz⟩ | ⟨h1, h2, h3, hz⟩ | ⟨h1, h2, h3, hz⟩
  · have e1 : (need == 0) = true := beq_iff_eq.2 h1
    have HZ := Lib.hid hz
    clear hz h1
    go_enter Tryz.func47, Tryz.ntmps47
    go_wp2
    go_ret
    exact ⟨ret_u8 HZ.out.symm, HX.out.bel⟩
  · have e1 : (need == 0) = false := beq_eq_false_iff_ne.2 h1
    have e2 : (str == -1) = true := beq_iff_eq.2 (by omega)
    have HZ := Lib.hid hz
    clear hz h1
    go_enter Tryz.func47, Tryz.ntmps47
    go_wp2
    go_ret
    exact ⟨ret_u8 HZ.out.symm, HX.out.bel⟩
  · have e1 : (need == 0) = false := beq_eq_false_iff_ne.2 h1
    have e2 : (str == -1) = false := beq_eq_false_iff_ne.2 (by omega)
    have e3 : (ball == (c.bows.length : Int)) = true := beq_iff_eq.2 h3
    have HZ := Lib.hid hz
    clear hz h1 h3
    go_enter Tryz.func47, Tryz.ntmps47
    go_wp2
    go_ret
    exact ⟨ret_u8 HZ.out.symm, HX.out.bel⟩
  · have e1 : (need == 0) = false := beq_eq_false_iff_ne.2 h1
    have e2 : (str == -1) = false := beq_eq_false_iff_ne.2 (by omega)
    have e3 : (ball == (c.bows.length : Int)) = false := beq_eq_false_iff_ne.2 h3
    have HZ := Lib.hid hz
    clear hz h1 h3
    go_enter Tryz.func47, Tryz.ntmps47
    go_wp2
    go_ret
    exact ⟨ret_u8 HZ.out.symm, HX.out.bel⟩
set_option maxRecDepth 100000 in
set_option maxHeartbeats 4000000 in
theorem ch44_checkState (c : Chs) (s : Cst) (bv wv pv ov : Value) (w : World) (h : ChAt w (· < w.heap.size) bv wv pv ov c) :
    Calls Tryz.prog 88 #[chV c bv wv pv ov, stV s] w fun e w' => e = .returned (.int .i64 (stateC c s)) ∧ Below w.heap.size w w' := by
  unfold chV stV
  obtain ⟨ball, need, str, par, nxt⟩ := s
  obtain ⟨A, ca, rfl, hc1, hc2⟩ := h.mdl.bat.shape
  obtain ⟨A1, ca1, rfl, hc3, hc4⟩ := h.mdl.bow.shape
  obtain ⟨A2, ca2, rfl, hc5, hc6⟩ := h.bow.shape
  obtain ⟨A3, ca3, rfl, hc7, hc8⟩ := h.ord.shape
  have hx := CSB.new w c (.slice A c.mdl.bats.length ca) (.slice A1 c.mdl.bows.length ca1) (.slice A2 c.bows.length ca2) (.slice A3 c.ord.length ca3) ⟨ball, need, str, par, nxt⟩
  have HX := Lib.hid hx
  have HM := Lib.hid h
  obtain ⟨z, hz⟩ : ∃ z, z = stateC c ⟨ball, need, str, par, nxt⟩ := ⟨_, rfl⟩
  rw [← hz]
  have hbad : outC c ⟨ball, need, str, par, nxt⟩ = true → z = 2 := fun h => by rw [hz]; unfold stateC; rw [if_pos h]
  have harg : outC c ⟨ball, need, str, par, nxt⟩ = false → (str = par ∨ (str = -1 ∧ nxt < c.ord.length)) → z = 1 := fun h h2 => by rw [hz]; unfold stateC; rw [if_neg (by simp [h]), if_pos h2]
  have hok : outC c ⟨ball, need, str, par, nxt⟩ = false → ¬ (str = par ∨ (str = -1 ∧ nxt < c.ord.length)) → z = 0 := fun h h2 => by rw [hz]; unfold stateC; rw [if_neg (by simp [h]), if_neg h2]
  clear hx h hz
  cases b0 : outC.inC ball 0 c.bows.length
  · have HZ := Lib.hid (hbad (by unfold outC; simp [b0]))
    clear hbad harg hok
    go_enter Tryz.func88, Tryz.ntmps88
    go_wp2_with (go_at_call 125; refine (ch_within _ _ _ _ (by first | exact b0 | exact b1 | exact b2 | exact b3 | exact b4) _).mono ?_; rintro e w2 ⟨rfl, rfl⟩)
    go_ret
    exact ⟨ret_i HZ.out.symm, HX.out.bel⟩
  cases b1 : outC.inC need 0 c.need
  · have HZ := Lib.hid (hbad (by unfold outC; simp [b0, b1]))
    clear hbad harg hok
    go_enter Tryz.func88, Tryz.ntmps88
    go_wp2_with (go_at_call 125; refine (ch_within _ _ _ _ (by first | exact b0 | exact b1 | exact b2 | exact b3 | exact b4) _).mono ?_; rintro e w2 ⟨rfl, rfl⟩)
    go_ret
    exact ⟨ret_i HZ.out.symm, HX.out.bel⟩
  cases b2 : outC.inC nxt 2 c.ord.length
  · have HZ := Lib.hid (hbad (by unfold outC; simp [b0, b1, b2]))
    clear hbad harg hok
    go_enter Tryz.func88, Tryz.ntmps88
    go_wp2_with (go_at_call 125; refine (ch_within _ _ _ _ (by first | exact b0 | exact b1 | exact b2 | exact b3 | exact b4) _).mono ?_; rintro e w2 ⟨rfl, rfl⟩)
    go_ret
    exact ⟨ret_i HZ.out.symm, HX.out.bel⟩
  have gn : 2 ≤ nxt ∧ nxt ≤ (c.ord.length : Int) := by have := b2; unfold outC.inC at this; simpa using this
  obtain ⟨gn1, gn2⟩ := gn
  cases b3 : outC.inC str (-1) (nxt - 1)
  · have HZ := Lib.hid (hbad (by unfold outC; simp [b0, b1, b2, b3]))
    clear hbad harg hok
    go_enter Tryz.func88, Tryz.ntmps88
    go_wp2_with (go_at_call 125; refine (ch_within _ _ _ _ (by first | exact b0 | exact b1 | exact b2 | exact b3 | exact b4) _).mono ?_; rintro e w2 ⟨rfl, rfl⟩)
    go_ret
    exact ⟨ret_i HZ.out.symm, HX.out.bel⟩
  cases b4 : outC.inC par 0 (nxt - 1)
  · have HZ := Lib.hid (hbad (by unfold outC; simp [b0, b1, b2, b3, b4]))
    clear hbad harg hok
    go_enter Tryz.func88, Tryz.ntmps88
    go_wp2_with (go_at_call 125; refine (ch_within _ _ _ _ (by first | exact b0 | exact b1 | exact b2 | exact b3 | exact b4) _).mono ?_; rintro e w2 ⟨rfl, rfl⟩)
    go_ret
    exact ⟨ret_i HZ.out.symm, HX.out.bel⟩
  have ho : outC c ⟨ball, need, str, par, nxt⟩ = false := by unfold outC; simp [b0, b1, b2, b3, b4]
  have hno := outC_no ho
  dsimp only at hno
  obtain ⟨⟨q1, q2⟩, ⟨q3, q4⟩, _, ⟨q5, q6⟩, ⟨q7, q8⟩⟩ := hno
  by_cases h1 : str = par
  · have HZ := Lib.hid (harg ho (.inl h1))
    have e1 : (str == par) = true := beq_iff_eq.2 h1
    have h1' := Lib.hid h1
    clear hbad harg hok ho h1
    go_enter Tryz.func88, Tryz.ntmps88
    go_wp2_with (go_at_call 125; refine (ch_within _ _ _ _ (by first | exact b0 | exact b1 | exact b2 | exact b3 | exact b4) _).mono ?_; rintro e w2 ⟨rfl, rfl⟩)
    go_ret
    exact ⟨ret_i HZ.out.symm, HX.out.bel⟩
  have e1 : (str == par) = false := beq_eq_false_iff_ne.2 h1
  by_cases h2 : str = -1
  · have e2 : (str == -1) = true := beq_iff_eq.2 h2
    by_cases h3 : nxt < (c.ord.length : Int)
    · have HZ := Lib.hid (harg ho (.inr ⟨h2, h3⟩))
      have h2' := Lib.hid h2
      clear hbad harg hok ho h1 h2
      go_enter Tryz.func88, Tryz.ntmps88
      go_wp2_with (go_at_call 125; refine (ch_within _ _ _ _ (by first | exact b0 | exact b1 | exact b2 | exact b3 | exact b4) _).mono ?_; rintro e w2 ⟨rfl, rfl⟩)
      go_ret
      exact ⟨ret_i HZ.out.symm, HX.out.bel⟩
    · have HZ := Lib.hid (hok ho (by rintro (h | h); exact h1 h; exact h3 h.2))
      have h2' := Lib.hid h2
      clear hbad harg hok ho h1 h2
      go_enter Tryz.func88, Tryz.ntmps88
      go_wp2_with (go_at_call 125; refine (ch_within _ _ _ _ (by first | exact b0 | exact b1 | exact b2 | exact b3 | exact b4) _).mono ?_; rintro e w2 ⟨rfl, rfl⟩)
      go_ret
      exact ⟨ret_i HZ.out.symm, HX.out.bel⟩
  · have e2 : (str == -1) = false := beq_eq_false_iff_ne.2 h2
    have HZ := Lib.hid (hok ho (by rintro (h | h); exact h1 h; exact h2 h.1))
    clear hbad harg hok ho h1 h2
    go_enter Tryz.func88, Tryz.ntmps88
    go_wp2_with (go_at_call 125; refine (ch_within _ _ _ _ (by first | exact b0 | exact b1 | exact b2 | exact b3 | exact b4) _).mono ?_; rintro e w2 ⟨rfl, rfl⟩)
    go_ret
    exact ⟨ret_i HZ.out.symm, HX.out.bel⟩
set_option maxRecDepth 100000 in
set_option maxHeartbeats 4000000 in
theorem ch44_CheckState (c : Chs) (s : Cst) (bv wv pv ov : Value) (w : World) (h : ChAt w (· < w.heap.size) bv wv pv ov c) :
    Calls Tryz.prog 45 #[chV c bv wv pv ov, stV s] w fun e w' => e = .returned (.int .i64 (chstC c s)) ∧ Below w.heap.size w w' := by
  unfold chV stV
  obtain ⟨ball, need, str, par, nxt⟩ := s
  obtain ⟨A, ca, rfl, hc1, hc2⟩ := h.mdl.bat.shape
  obtain ⟨A1, ca1, rfl, hc3, hc4⟩ := h.mdl.bow.shape
  obtain ⟨A2, ca2, rfl, hc5, hc6⟩ := h.bow.shape
  obtain ⟨A3, ca3, rfl, hc7, hc8⟩ := h.ord.shape
  have hx := CSB.new w c (.slice A c.mdl.bats.length ca) (.slice A1 c.mdl.bows.length ca1) (.slice A2 c.bows.length ca2) (.slice A3 c.ord.length ca3) ⟨ball, need, str, par, nxt⟩
  have HX := Lib.hid hx
  have HM := Lib.hid h
  obtain ⟨z, hz⟩ : ∃ z, z = chstC c ⟨ball, need, str, par, nxt⟩ := ⟨_, rfl⟩
  rw [← hz]
  unfold chstC at hz
  have k1 := fun W (hW : Below w.heap.size w W) => ch44_Check c _ _ _ _ W (HM.out.below hW)
  have k2 := fun W (hW : Below w.heap.size w W) => ch44_checkState c ⟨ball, need, str, par, nxt⟩ _ _ _ _ W (HM.out.below hW)
  unfold chV stV at k2
  unfold chV at k1
  dsimp only at k2
  obtain ⟨u, hu⟩ : ∃ u, u = checkC c := ⟨_, rfl⟩
  obtain ⟨v, hv⟩ : ∃ v, v = stateC c ⟨ball, need, str, par, nxt⟩ := ⟨_, rfl⟩
  rw [← hu] at k1 hz
  rw [← hv] at k2 hz
  have K1 := Lib.hid k1
  have K2 := Lib.hid k2
  have tok0 : True := trivial
  clear k1 k2 hu hv h hx
  by_cases h0 : u = 0
  · rw [if_neg (by omega)] at hz
    have HZ := Lib.hid hz
    have eu : (u != 0) = false := by simp [h0]
    clear hz h0
    go_enter Tryz.func45, Tryz.ntmps45
    go_wp2_with (first
      | (clear tok0; go_at_call 14; refine (K1.out _ HX.out.bel).mono ?_; rintro e w2 ⟨rfl, hb2⟩; have HX2 := Lib.hid (HX.out.below hb2); obtain ⟨x0, x1, x2, x3, x4, x5, x6, y0, y1, y2, y3, y4⟩ := HX2.out.cells; clear hb2; have tok1 : True := trivial)
      | (clear tok1; go_at_call 88; refine (K2.out _ HX2.out.bel).mono ?_; rintro e w3 ⟨rfl, hb3⟩; have HX3 := Lib.hid (HX2.out.below hb3); clear hb3; have tok2 : True := trivial))
    go_ret
    exact ⟨ret_i HZ.out.symm, HX3.out.bel⟩
  · rw [if_pos h0] at hz
    have HZ := Lib.hid hz
    have eu : (u != 0) = true := by simp [h0]
    clear hz h0
    go_enter Tryz.func45, Tryz.ntmps45
    go_wp2_with (clear tok0; go_at_call 14; refine (K1.out _ HX.out.bel).mono ?_; rintro e w2 ⟨rfl, hb2⟩; have HX2 := Lib.hid (HX.out.below hb2); obtain ⟨x0, x1, x2, x3, x4, x5, x6, y0, y1, y2, y3, y4⟩ := HX2.out.cells; clear hb2; have tok1 : True := trivial)
    go_ret
    exact ⟨ret_i HZ.out.symm, HX2.out.bel⟩
set_option maxRecDepth 100000 in
set_option maxHeartbeats 4000000 in
theorem ch44_Status (c : Chs) (s : Cst) (bv wv pv ov : Value) (w : World) (h : ChAt w (· < w.heap.size) bv wv pv ov c) :
    Calls Tryz.prog 43 #[chV c bv wv pv ov, stV s] w fun e w' => e = .returned (.int .u8 (statusC c s)) ∧ Below w.heap.size w w' := by
  unfold chV stV
  obtain ⟨ball, need, str, par, nxt⟩ := s
  obtain ⟨A, ca, rfl, hc1, hc2⟩ := h.mdl.bat.shape
  obtain ⟨A1, ca1, rfl, hc3, hc4⟩ := h.mdl.bow.shape
  obtain ⟨A2, ca2, rfl, hc5, hc6⟩ := h.bow.shape
  obtain ⟨A3, ca3, rfl, hc7, hc8⟩ := h.ord.shape
  have hx := CSB.new w c (.slice A c.mdl.bats.length ca) (.slice A1 c.mdl.bows.length ca1) (.slice A2 c.bows.length ca2) (.slice A3 c.ord.length ca3) ⟨ball, need, str, par, nxt⟩
  have HX := Lib.hid hx
  have HM := Lib.hid h
  obtain ⟨z, hz⟩ : ∃ z, z = statusC c ⟨ball, need, str, par, nxt⟩ := ⟨_, rfl⟩
  rw [← hz]
  unfold statusC at hz
  have k1 := fun W (hW : Below w.heap.size w W) => ch44_CheckState c ⟨ball, need, str, par, nxt⟩ _ _ _ _ W (HM.out.below hW)
  have k2 := fun (hs : OkS c ⟨ball, need, str, par, nxt⟩) W (hW : Below w.heap.size w W) => ch44_status c ⟨ball, need, str, par, nxt⟩ _ _ _ _ W (HM.out.below hW) hs
  have hok := fun h => (chst_ok (c := c) (s := ⟨ball, need, str, par, nxt⟩) h).2.2
  unfold chV stV at k1 k2
  dsimp only at k1 k2
  obtain ⟨u, hu⟩ : ∃ u, u = chstC c ⟨ball, need, str, par, nxt⟩ := ⟨_, rfl⟩
  obtain ⟨v, hv⟩ : ∃ v, v = stC c ⟨ball, need, str, par, nxt⟩ := ⟨_, rfl⟩
  rw [← hu] at k1 hz hok
  rw [← hv] at k2 hz
  have K1 := Lib.hid k1
  have tok0 : True := trivial
  clear k1 hu hv h hx
  by_cases h0 : u = 0
  · rw [if_neg (by omega)] at hz
    have HZ := Lib.hid hz
    have K2 := Lib.hid (k2 (hok h0))
    have eu : (u != 0) = false := by simp [h0]
    clear hz h0 hok k2
    go_enter Tryz.func43, Tryz.ntmps43
    go_wp2_with (first
      | (clear tok0; go_at_call 45; refine (K1.out _ HX.out.bel).mono ?_; rintro e w2 ⟨rfl, hb2⟩; have HX2 := Lib.hid (HX.out.below hb2); obtain ⟨x0, x1, x2, x3, x4, x5, x6, y0, y1, y2, y3, y4⟩ := HX2.out.cells; clear hb2; have tok1 : True := trivial)
      | (clear tok1; go_at_call 47; refine (K2.out _ HX2.out.bel).mono ?_; rintro e w3 ⟨rfl, hb3⟩; have HX3 := Lib.hid (HX2.out.below hb3); clear hb3; have tok2 : True := trivial))
    go_ret
    exact ⟨ret_u8 HZ.out.symm, HX3.out.bel⟩
  · rw [if_pos h0] at hz
    have HZ := Lib.hid hz
    have eu : (u != 0) = true := by simp [h0]
    clear hz h0 hok k2
    go_enter Tryz.func43, Tryz.ntmps43
    go_wp2_with (clear tok0; go_at_call 45; refine (K1.out _ HX.out.bel).mono ?_; rintro e w2 ⟨rfl, hb2⟩; have HX2 := Lib.hid (HX.out.below hb2); obtain ⟨x0, x1, x2, x3, x4, x5, x6, y0, y1, y2, y3, y4⟩ := HX2.out.cells; clear hb2; have tok1 : True := trivial)
    go_ret
    exact ⟨ret_u8 HZ.out.symm, HX2.out.bel⟩
set_option maxRecDepth 100000 in
set_option maxHeartbeats 4000000 in
theorem r44_status (c : Chs) (s : Cst) (bv wv pv ov : Value) (w : World) (h : ChAt w (· < w.heap.size) bv wv pv ov c) (hs : OkS c s) :
    Calls Tryz.prog 135 #[chV c bv wv pv ov, stV s] w fun e w' => e = .returned (.int .u8 (stC c s)) ∧ Below w.heap.size w w' := by
  unfold chV stV
  obtain ⟨ball, need, str, par, nxt⟩ := s
  obtain ⟨A, ca, rfl, hc1, hc2⟩ := h.mdl.bat.shape
  obtain ⟨A1, ca1, rfl, hc3, hc4⟩ := h.mdl.bow.shape
  obtain ⟨A2, ca2, rfl, hc5, hc6⟩ := h.bow.shape
  obtain ⟨A3, ca3, rfl, hc7, hc8⟩ := h.ord.shape
  have hx := CSB.new w c (.slice A c.mdl.bats.length ca) (.slice A1 c.mdl.bows.length ca1) (.slice A2 c.bows.length ca2) (.slice A3 c.ord.length ca3) ⟨ball, need, str, par, nxt⟩
  have HX := Lib.hid hx
  have HM := Lib.hid h
  have hw := stC_ways c ⟨ball, need, str, par, nxt⟩
  have hm := hs.str.1
  obtain ⟨z, hz⟩ : ∃ z, z = stC c ⟨ball, need, str, par, nxt⟩ := ⟨_, rfl⟩
  rw [← hz] at hw ⊢
  dsimp only at hw hm
  clear hx h hs hz
  rcases hw with ⟨h1, hz⟩ | ⟨h1, h2, hz⟩ | ⟨h1, h2, h3, hz⟩ | ⟨h1, h2, h3, hz⟩
  · have e1 : (need == 0) = true := beq_iff_eq.2 h1
    have HZ := Lib.hid hz
    clear hz h1
    go_enter Tryz.func135, Tryz.ntmps135
    go_wp2
    go_ret
    exact ⟨ret_u8 HZ.out.symm, HX.out.bel⟩
  · have e1 : (need == 0) = false := beq_eq_false_iff_ne.2 h1
    have e2 : (str == -1) = true := beq_iff_eq.2 (by omega)
    have HZ := Lib.hid hz
    clear hz h1
    go_enter Tryz.func135, Tryz.ntmps135
    go_wp2
    go_ret
    exact ⟨ret_u8 HZ.out.symm, HX.out.bel⟩
  · have e1 : (need == 0) = false := beq_eq_false_iff_ne.2 h1
    have e2 : (str == -1) = false := beq_eq_false_iff_ne.2 (by omega)
    have e3 : (ball == (c.bows.length : Int)) = true := beq_iff_eq.2 h3
    have HZ := Lib.hid hz
    clear hz h1 h3
    go_enter Tryz.func135, Tryz.ntmps135
    go_wp2
    go_ret
    exact ⟨ret_u8 HZ.out.symm, HX.out.bel⟩
  · have e1 : (need == 0) = false := beq_eq_false_iff_ne.2 h1
    have e2 : (str == -1) = false := beq_eq_false_iff_ne.2 (by omega)
    have e3 : (ball == (c.bows.length : Int)) = false := beq_eq_false_iff_ne.2 h3
    have HZ := Lib.hid hz
    clear hz h1 h3
    go_enter Tryz.func135, Tryz.ntmps135
    go_wp2
    go_ret
    exact ⟨ret_u8 HZ.out.symm, HX.out.bel⟩
set_option maxRecDepth 100000 in
set_option maxHeartbeats 4000000 in
theorem r44_checkState (c : Chs) (s : Cst) (bv wv pv ov : Value) (w : World) (h : ChAt w (· < w.heap.size) bv wv pv ov c) :
    Calls Tryz.prog 134 #[chV c bv wv pv ov, stV s] w fun e w' => e = .returned (.int .i64 (stateC c s)) ∧ Below w.heap.size w w' := by
  unfold chV stV
  obtain ⟨ball, need, str, par, nxt⟩ := s
  obtain ⟨A, ca, rfl, hc1, hc2⟩ := h.mdl.bat.shape
  obtain ⟨A1, ca1, rfl, hc3, hc4⟩ := h.mdl.bow.shape
  obtain ⟨A2, ca2, rfl, hc5, hc6⟩ := h.bow.shape
  obtain ⟨A3, ca3, rfl, hc7, hc8⟩ := h.ord.shape
  have hx := CSB.new w c (.slice A c.mdl.bats.length ca) (.slice A1 c.mdl.bows.length ca1) (.slice A2 c.bows.length ca2) (.slice A3 c.ord.length ca3) ⟨ball, need, str, par, nxt⟩
  have HX := Lib.hid hx
  have HM := Lib.hid h
  obtain ⟨z, hz⟩ : ∃ z, z = stateC c ⟨ball, need, str, par, nxt⟩ := ⟨_, rfl⟩
  rw [← hz]
  have hbad : outC c ⟨ball, need, str, par, nxt⟩ = true → z = 2 := fun h => by rw [hz]; unfold stateC; rw [if_pos h]
  have harg : outC c ⟨ball, need, str, par, nxt⟩ = false → (str = par ∨ (str = -1 ∧ nxt < c.ord.length)) → z = 1 := fun h h2 => by rw [hz]; unfold stateC; rw [if_neg (by simp [h]), if_pos h2]
  have hok : outC c ⟨ball, need, str, par, nxt⟩ = false → ¬ (str = par ∨ (str = -1 ∧ nxt < c.ord.length)) → z = 0 := fun h h2 => by rw [hz]; unfold stateC; rw [if_neg (by simp [h]), if_neg h2]
  clear hx h hz
  cases b0 : outC.inC ball 0 c.bows.length
  · have HZ := Lib.hid (hbad (by unfold outC; simp [b0]))
    clear hbad harg hok
    have pz : ball < 0 ∨ (¬ ball < 0 ∧ (c.bows.length : Int) < ball) := by have := b0; unfold outC.inC at this; simp at this; omega
    clear b0
    rcases pz with g | ⟨g, g2⟩
    · skip
      go_enter Tryz.func134, Tryz.ntmps134
      go_wp2
      go_ret
      exact ⟨ret_i HZ.out.symm, HX.out.bel⟩
    · skip
      go_enter Tryz.func134, Tryz.ntmps134
      go_wp2
      go_ret
      exact ⟨ret_i HZ.out.symm, HX.out.bel⟩
  cases b1 : outC.inC need 0 c.need
  · have HZ := Lib.hid (hbad (by unfold outC; simp [b0, b1]))
    clear hbad harg hok
    have p0 := (show 0 ≤ ball ∧ ball ≤ (c.bows.length : Int) by have := b0; unfold outC.inC at this; simpa using this)
    obtain ⟨p0a, p0b⟩ := p0
    have pz : need < 0 ∨ (¬ need < 0 ∧ c.need < need) := by have := b1; unfold outC.inC at this; simp at this; omega
    clear b0 b1
    rcases pz with g | ⟨g, g2⟩
    · skip
      go_enter Tryz.func134, Tryz.ntmps134
      go_wp2
      go_ret
      exact ⟨ret_i HZ.out.symm, HX.out.bel⟩
    · skip
      go_enter Tryz.func134, Tryz.ntmps134
      go_wp2
      go_ret
      exact ⟨ret_i HZ.out.symm, HX.out.bel⟩
  cases b2 : outC.inC nxt 2 c.ord.length
  · have HZ := Lib.hid (hbad (by unfold outC; simp [b0, b1, b2]))
    clear hbad harg hok
    have p0 := (show 0 ≤ ball ∧ ball ≤ (c.bows.length : Int) by have := b0; unfold outC.inC at this; simpa using this)
    obtain ⟨p0a, p0b⟩ := p0
    have p1 := (show 0 ≤ need ∧ need ≤ c.need by have := b1; unfold outC.inC at this; simpa using this)
    obtain ⟨p1a, p1b⟩ := p1
    have pz : nxt < 2 ∨ (¬ nxt < 2 ∧ (c.ord.length : Int) < nxt) := by have := b2; unfold outC.inC at this; simp at this; omega
    clear b0 b1 b2
    rcases pz with g | ⟨g, g2⟩
    · skip
      go_enter Tryz.func134, Tryz.ntmps134
      go_wp2
      go_ret
      exact ⟨ret_i HZ.out.symm, HX.out.bel⟩
    · skip
      go_enter Tryz.func134, Tryz.ntmps134
      go_wp2
      go_ret
      exact ⟨ret_i HZ.out.symm, HX.out.bel⟩
  have gn : 2 ≤ nxt ∧ nxt ≤ (c.ord.length : Int) := by have := b2; unfold outC.inC at this; simpa using this
  obtain ⟨gn1, gn2⟩ := gn
  cases b3 : outC.inC str (-1) (nxt - 1)
  · have HZ := Lib.hid (hbad (by unfold outC; simp [b0, b1, b2, b3]))
    clear hbad harg hok
    have p0 := (show 0 ≤ ball ∧ ball ≤ (c.bows.length : Int) by have := b0; unfold outC.inC at this; simpa using this)
    obtain ⟨p0a, p0b⟩ := p0
    have p1 := (show 0 ≤ need ∧ need ≤ c.need by have := b1; unfold outC.inC at this; simpa using this)
    obtain ⟨p1a, p1b⟩ := p1
    have p2 := (show 2 ≤ nxt ∧ nxt ≤ (c.ord.length : Int) by have := b2; unfold outC.inC at this; simpa using this)
    obtain ⟨p2a, p2b⟩ := p2
    have pz : str < -1 ∨ (¬ str < -1 ∧ nxt - 1 < str) := by have := b3; unfold outC.inC at this; simp at this; omega
    clear b0 b1 b2 b3
    rcases pz with g | ⟨g, g2⟩
    · skip
      go_enter Tryz.func134, Tryz.ntmps134
      go_wp2
      go_ret
      exact ⟨ret_i HZ.out.symm, HX.out.bel⟩
    · skip
      go_enter Tryz.func134, Tryz.ntmps134
      go_wp2
      go_ret
      exact ⟨ret_i HZ.out.symm, HX.out.bel⟩
  cases b4 : outC.inC par 0 (nxt - 1)
  · have HZ := Lib.hid (hbad (by unfold outC; simp [b0, b1, b2, b3, b4]))
    clear hbad harg hok
    have p0 := (show 0 ≤ ball ∧ ball ≤ (c.bows.length : Int) by have := b0; unfold outC.inC at this; simpa using this)
    obtain ⟨p0a, p0b⟩ := p0
    have p1 := (show 0 ≤ need ∧ need ≤ c.need by have := b1; unfold outC.inC at this; simpa using this)
    obtain ⟨p1a, p1b⟩ := p1
    have p2 := (show 2 ≤ nxt ∧ nxt ≤ (c.ord.length : Int) by have := b2; unfold outC.inC at this; simpa using this)
    obtain ⟨p2a, p2b⟩ := p2
    have p3 := (show -1 ≤ str ∧ str ≤ nxt - 1 by have := b3; unfold outC.inC at this; simpa using this)
    obtain ⟨p3a, p3b⟩ := p3
    have pz : par < 0 ∨ (¬ par < 0 ∧ nxt - 1 < par) := by have := b4; unfold outC.inC at this; simp at this; omega
    clear b0 b1 b2 b3 b4
    rcases pz with g | ⟨g, g2⟩
    · skip
      go_enter Tryz.func134, Tryz.ntmps134
      go_wp2
      go_ret
      exact ⟨ret_i HZ.out.symm, HX.out.bel⟩
    · skip
      go_enter Tryz.func134, Tryz.ntmps134
      go_wp2
      go_ret
      exact ⟨ret_i HZ.out.symm, HX.out.bel⟩
  have ho : outC c ⟨ball, need, str, par, nxt⟩ = false := by unfold outC; simp [b0, b1, b2, b3, b4]
  have hno := outC_no ho
  dsimp only at hno
  obtain ⟨⟨q1, q2⟩, ⟨q3, q4⟩, _, ⟨q5, q6⟩, ⟨q7, q8⟩⟩ := hno
  by_cases h1 : str = par
  · have HZ := Lib.hid (harg ho (.inl h1))
    have e1 : (str == par) = true := beq_iff_eq.2 h1
    have h1' := Lib.hid h1
    clear hbad harg hok ho h1
    go_enter Tryz.func134, Tryz.ntmps134
    go_wp2
    go_ret
    exact ⟨ret_i HZ.out.symm, HX.out.bel⟩
  have e1 : (str == par) = false := beq_eq_false_iff_ne.2 h1
  by_cases h2 : str = -1
  · have e2 : (str == -1) = true := beq_iff_eq.2 h2
    by_cases h3 : nxt < (c.ord.length : Int)
    · have HZ := Lib.hid (harg ho (.inr ⟨h2, h3⟩))
      have h2' := Lib.hid h2
      clear hbad harg hok ho h1 h2
      go_enter Tryz.func134, Tryz.ntmps134
      go_wp2
      go_ret
      exact ⟨ret_i HZ.out.symm, HX.out.bel⟩
    · have HZ := Lib.hid (hok ho (by rintro (h | h); exact h1 h; exact h3 h.2))
      have h2' := Lib.hid h2
      clear hbad harg hok ho h1 h2
      go_enter Tryz.func134, Tryz.ntmps134
      go_wp2
      go_ret
      exact ⟨ret_i HZ.out.symm, HX.out.bel⟩
  · have e2 : (str == -1) = false := beq_eq_false_iff_ne.2 h2
    have HZ := Lib.hid (hok ho (by rintro (h | h); exact h1 h; exact h2 h.1))
    clear hbad harg hok ho h1 h2
    go_enter Tryz.func134, Tryz.ntmps134
    go_wp2
    go_ret
    exact ⟨ret_i HZ.out.symm, HX.out.bel⟩
set_option maxRecDepth 100000 in
set_option maxHeartbeats 4000000 in
theorem r44_CheckState (c : Chs) (s : Cst) (bv wv pv ov : Value) (w : World) (h : ChAt w (· < w.heap.size) bv wv pv ov c) :
    Calls Tryz.prog 108 #[chV c bv wv pv ov, stV s] w fun e w' => e = .returned (.int .i64 (chstC c s)) ∧ Below w.heap.size w w' := by
  unfold chV stV
  obtain ⟨ball, need, str, par, nxt⟩ := s
  obtain ⟨A, ca, rfl, hc1, hc2⟩ := h.mdl.bat.shape
  obtain ⟨A1, ca1, rfl, hc3, hc4⟩ := h.mdl.bow.shape
  obtain ⟨A2, ca2, rfl, hc5, hc6⟩ := h.bow.shape
  obtain ⟨A3, ca3, rfl, hc7, hc8⟩ := h.ord.shape
  have hx := CSB.new w c (.slice A c.mdl.bats.length ca) (.slice A1 c.mdl.bows.length ca1) (.slice A2 c.bows.length ca2) (.slice A3 c.ord.length ca3) ⟨ball, need, str, par, nxt⟩
  have HX := Lib.hid hx
  have HM := Lib.hid h
  obtain ⟨z, hz⟩ : ∃ z, z = chstC c ⟨ball, need, str, par, nxt⟩ := ⟨_, rfl⟩
  rw [← hz]
  unfold chstC at hz
  have k1 := fun W (hW : Below w.heap.size w W) => r44_Check c _ _ _ _ W (HM.out.below hW)
  have k2 := fun W (hW : Below w.heap.size w W) => r44_checkState c ⟨ball, need, str, par, nxt⟩ _ _ _ _ W (HM.out.below hW)
  unfold chV stV at k2
  unfold chV at k1
  dsimp only at k2
  obtain ⟨u, hu⟩ : ∃ u, u = checkC c := ⟨_, rfl⟩
  obtain ⟨v, hv⟩ : ∃ v, v = stateC c ⟨ball, need, str, par, nxt⟩ := ⟨_, rfl⟩
  rw [← hu] at k1 hz
  rw [← hv] at k2 hz
  have K1 := Lib.hid k1
  have K2 := Lib.hid k2
  have tok0 : True := trivial
  clear k1 k2 hu hv h hx
  by_cases h0 : u = 0
  · rw [if_neg (by omega)] at hz
    have HZ := Lib.hid hz
    have eu : (u != 0) = false := by simp [h0]
    clear hz h0
    go_enter Tryz.func108, Tryz.ntmps108
    go_wp2_with (first
      | (clear tok0; go_at_call 54; refine (K1.out _ HX.out.bel).mono ?_; rintro e w2 ⟨rfl, hb2⟩; have HX2 := Lib.hid (HX.out.below hb2); obtain ⟨x0, x1, x2, x3, x4, x5, x6, y0, y1, y2, y3, y4⟩ := HX2.out.cells; clear hb2; have tok1 : True := trivial)
      | (clear tok1; go_at_call 134; refine (K2.out _ HX2.out.bel).mono ?_; rintro e w3 ⟨rfl, hb3⟩; have HX3 := Lib.hid (HX2.out.below hb3); clear hb3; have tok2 : True := trivial))
    go_ret
    exact ⟨ret_i HZ.out.symm, HX3.out.bel⟩
  · rw [if_pos h0] at hz
    have HZ := Lib.hid hz
    have eu : (u != 0) = true := by simp [h0]
    clear hz h0
    go_enter Tryz.func108, Tryz.ntmps108
    go_wp2_with (clear tok0; go_at_call 54; refine (K1.out _ HX.out.bel).mono ?_; rintro e w2 ⟨rfl, hb2⟩; have HX2 := Lib.hid (HX.out.below hb2); obtain ⟨x0, x1, x2, x3, x4, x5, x6, y0, y1, y2, y3, y4⟩ := HX2.out.cells; clear hb2; have tok1 : True := trivial)
    go_ret
    exact ⟨ret_i HZ.out.symm, HX2.out.bel⟩
end Go.Proofs.YtfnfbojaiikigaaGreatDoor

namespace Go.Proofs.YtfnfbojaiikigaaGreatDoor
open Go.RowKit Go.Maps

def keyS (s : Cst) : Lit := .string (keyBytes [.int .i64 s.ball, .int .i64 s.need, .int .i64 s.str, .int .i64 s.par, .int .i64 s.nxt])
structure Smol (s : Cst) : Prop where
  ball : -1000 ≤ s.ball ∧ s.ball ≤ 1000
  need : -1000 ≤ s.need ∧ s.need ≤ 1000
  str : -1000 ≤ s.str ∧ s.str ≤ 1000
  par : -1000 ≤ s.par ∧ s.par ≤ 1000
  nxt : -1000 ≤ s.nxt ∧ s.nxt ≤ 1000
theorem OkS.smol {c : Chs} {s : Cst} (hc : OkC c) (h : OkS c s) : Smol s := by
  have := hc.nb; have := hc.need; have := hc.no; have := h.ball; have := h.need; have := h.nxt; have := h.str; have := h.par
  exact ⟨by omega, by omega, by omega, by omega, by omega⟩
theorem law44 : Keyed Tryz.prog 33 := Keyed.of_law (deep_law_gate (by kernel_rfl) (of_decide_eq_true (by kernel_rfl)) (of_decide_eq_true (by kernel_rfl)) (by kernel_rfl) (by kernel_rfl))
theorem wf_small {x : Int} (h : -1000 ≤ x ∧ x ≤ 1000) : (Lit.int .i64 x).wf = true := WalkArith.wf_i64 (by omega)
theorem key_of {s : Cst} (h : Smol s) : keyOf Tryz.prog 33 (stV s) = some (keyS s) := by
  have hkt : Tryz.prog.keyType 33 = true := by kernel_rfl
  have hce : Tryz.prog.cellsOf 33 = 5 := by kernel_rfl
  have hci : Tryz.prog.cellsOf 3 = 1 := by kernel_rfl
  obtain ⟨m, hm⟩ : ∃ m, Tryz.prog.types.size = m + 1 := ⟨Tryz.prog.types.size - 1, by kernel_rfl⟩
  have w0 := wf_small h.ball
  have w1 := wf_small h.need
  have w2 := wf_small h.str
  have w3 := wf_small h.par
  have w4 := wf_small h.nxt
  unfold keyOf stV keyS
  simp only [Tryz.underlying33]
  rw [if_pos (by simp [hkt, Value.formed, Tryz.underlying33, hce]), hm]
  unfold Program.keyLits
  simp only [Tryz.underlying33, Value.cells]
  rw [if_pos ⟨by rw [hce]; rfl, by kernel_rfl⟩]
  simp [hci, Program.keyLits, Tryz.underlying3, w0, w1, w2, w3, w4]
theorem key_inj {s t : Cst} (hs : Smol s) (ht : Smol t) (h : keyS s = keyS t) : s = t := by
  have e := keyOf_inj_deep (P := Tryz.prog) (m := Tryz.prog.types.size + 1) (k := 33) (by kernel_rfl) (by kernel_rfl) (key_of hs) (h ▸ key_of ht)
  obtain ⟨a1, a2, a3, a4, a5⟩ := s
  obtain ⟨b1, b2, b3, b4, b5⟩ := t
  unfold stV at e
  simp at e
  obtain ⟨rfl, rfl, rfl, rfl, rfl⟩ := e
  rfl
theorem key_lit (s : Cst) : WideAt.IsKeyLit (keyS s) := by unfold keyS; trivial
theorem zero_i64 (w : World) : (zeroValue 2).run Tryz.prog w = .ok (.int .i64 0) w := by kernel_rfl
/-- Every state of the map has its value. -/
def Known (c : Chs) (D : DataW Unit) : Prop := ∀ s, OkS c s → Maps.has D (keyS s) = true → D.atKey (keyS s) (.lit (.int .i64 0)) = .lit (.int .i64 (valS c s))
theorem Known.none (c : Chs) : Known c (.map []) := fun s _ h => by cases h
theorem Known.put {c : Chs} {D : DataW Unit} (h : Known c D) (hD : IsMap D) (hc : OkC c) {s : Cst} (hs : OkS c s) : Known c (D.put (keyS s) (.lit (.int .i64 (valS c s)))) := fun t ht hh => by
  by_cases e : keyS t = keyS s
  · have := key_inj (ht.smol hc) (hs.smol hc) e
    subst this
    exact atKey_put_same hD (key_lit _) _ _
  · rw [has_put_other e] at hh
    rw [atKey_put_other e]
    exact h t ht hh
abbrev Vals (w : World) (b N : Nat) (D : DataW Unit) : Prop := w.ownsMap Tryz.prog 33 (plainElem Tryz.prog 2) b N D
def cntV : Nat → Nat
  | 0 => 1
  | n + 1 => 1 + 16 * cntV n
theorem cntV_le : ∀ n, n ≤ 12 → cntV n ≤ 17 ^ 13 := fun n h => by
  have hm : ∀ k, cntV k ≤ 17 ^ k := fun k => by
    induction k with
    | zero => decide
    | succ k ih => rw [cntV, Nat.pow_succ]; have : 0 < 17 ^ k := Nat.pow_pos (by omega); omega
  exact Nat.le_trans (hm n) (Nat.pow_le_pow_right (by omega) (by omega))
end Go.Proofs.YtfnfbojaiikigaaGreatDoor

namespace Go.Proofs.YtfnfbojaiikigaaGreatDoor

def setC (c : Chs) (o : List Int) : Chs := { c with ord := o }
def checkO (c : Chs) : Int :=
  if checkM c.mdl ≠ 0 then checkM c.mdl
  else if 8 < c.bows.length then 9
  else if checkC (setC c []) ≠ 9 then checkC (setC c [])
  else if 6 < c.ord.length then 9
  else checkC c
def checkOr (c : Chs) : Int :=
  if checkM c.mdl ≠ 0 then checkM c.mdl
  else if 8 < c.bows.length then 9
  else if checkC (setC c [0, 0]) ≠ 7 then checkC (setC c [0, 0])
  else if 6 < c.ord.length then 9
  else checkC c
theorem plansF_01 (n : Int) : ∀ l, plansF n l = 0 ∨ plansF n l = 1
  | [] => .inl rfl
  | a :: l => by
    rw [plansF]
    split
    · exact .inr rfl
    · exact plansF_01 n l
theorem checkO_ref (c : Chs) : checkOr c = checkO c := by
  unfold checkOr checkO
  by_cases h1 : checkM c.mdl ≠ 0
  · rw [if_pos h1, if_pos h1]
  rw [if_neg h1, if_neg h1]
  by_cases h2 : 8 < c.bows.length
  · rw [if_pos h2, if_pos h2]
  rw [if_neg h2, if_neg h2]
  have hM := checkM_ok (m := c.mdl) (by omega)
  have key : (checkC (setC c []) = 9 ∧ checkC (setC c [0, 0]) = 7) ∨ (checkC (setC c []) = checkC (setC c [0, 0]) ∧ checkC (setC c []) ≠ 9 ∧ checkC (setC c [0, 0]) ≠ 7) := by
    unfold checkC
    have e1 : ∀ o, (setC c o).mdl = c.mdl := fun _ => rfl
    have e2 : ∀ o, (setC c o).bows = c.bows := fun _ => rfl
    have e3 : ∀ o, rangeC (setC c o) = rangeC c := fun _ => rfl
    have e4 : ∀ o, (setC c o).ord = o := fun _ => rfl
    simp only [e1, e2, e3, e4]
    rw [if_neg h1, if_neg h1]
    by_cases h3 : c.bows.length = 0
    · rw [if_pos h3, if_pos h3]; exact .inr ⟨rfl, by decide, by decide⟩
    have g12 : ¬ 12 < c.bows.length := by omega
    rw [if_neg h3, if_neg h3, if_neg g12, if_neg g12]
    by_cases h4 : plansF c.mdl.bows.length c.bows ≠ 0
    · rw [if_pos h4, if_pos h4]
      have := plansF_01 c.mdl.bows.length c.bows
      exact .inr ⟨rfl, by omega, by omega⟩
    rw [if_neg h4, if_neg h4]
    by_cases h5 : rangeC c = true
    · rw [if_pos h5, if_pos h5]; exact .inr ⟨rfl, by decide, by decide⟩
    rw [if_neg h5, if_neg h5, if_pos (.inl (by decide)), if_neg (by decide)]
    refine .inl ⟨rfl, ?_⟩
    have hb : 1 ≤ c.mdl.bats.length := hM.nb.1
    rw [ordF, if_neg (by omega), if_neg (by simp), ordF, if_neg (by omega), if_pos (by simp)]
  rcases key with ⟨k1, k2⟩ | ⟨k1, k2, k3⟩
  · rw [if_neg (by omega : ¬ checkC (setC c [0, 0]) ≠ 7), if_neg (by omega : ¬ checkC (setC c []) ≠ 9)]
  · rw [if_pos k2, if_pos k3, k1]
theorem checkO_ok {c : Chs} (h : checkO c = 0) : checkC c = 0 ∧ OkC c ∧ c.bows.length ≤ 8 ∧ c.ord.length ≤ 6 := by
  unfold checkO at h
  by_cases h1 : checkM c.mdl ≠ 0
  · rw [if_pos h1] at h; exact absurd h h1
  rw [if_neg h1] at h
  by_cases h2 : 8 < c.bows.length
  · rw [if_pos h2] at h; cases h
  rw [if_neg h2] at h
  by_cases h3 : checkC (setC c []) ≠ 9
  · rw [if_pos h3] at h
    exfalso
    unfold checkC at h
    have e4 : (setC c []).ord = [] := rfl
    simp only [e4] at h
    split at h
    · rename_i g; exact g h
    split at h; cases h
    split at h; cases h
    split at h
    · rename_i g; exact g h
    split at h; cases h
    split at h; cases h
    rename_i g; exact g (.inl (by decide))
  rw [if_neg h3] at h
  by_cases h4 : 6 < c.ord.length
  · rw [if_pos h4] at h; cases h
  rw [if_neg h4] at h
  exact ⟨h, checkC_ok h, by omega, by omega⟩
/-- States: the waiting are a set of bits. -/
structure Ost where
  ball : Int
  need : Int
  str : Int
  par : Int
  wait : Int
/-- Bits, as the machine spells them. -/
def shrW (w k : Int) : Int := w / 2 ^ k.toNat
def bitW (w i : Int) : Bool := bits .and .u16 (w / 2 ^ i.toNat) 1 == 1
def clrW (w i : Int) : Int := bits .andNot .u16 w (IntKind.u16.wrap (2 ^ i.toNat))
theorem shrW_nat (n i : Nat) (hi : i ≤ 16) : shrW (n : Int) (i : Int) = ((n / 2 ^ i : Nat) : Int) := by
  unfold shrW
  rw [Int.toNat_natCast]
  push_cast; rfl
theorem bitW_nat (n i : Nat) (hn : n < 65536) (hi : i ≤ 16) : bitW (n : Int) (i : Int) = n.testBit i := by
  have hd : n / 2 ^ i < 65536 := Nat.lt_of_le_of_lt (Nat.div_le_self _ _) hn
  have hs := shrW_nat n i hi
  unfold shrW at hs
  unfold bitW
  rw [hs, show (1 : Int) = ((1 : Nat) : Int) from rfl, u16_and_nat _ _ hd (by decide), nat_mask1, Nat.testBit_eq_decide_div_mod_eq]
  have : ((((n / 2 ^ i % 2 : Nat) : Int) == ((1 : Nat) : Int)) = true) ↔ (decide (n / 2 ^ i % 2 = 1) = true) := by
    rw [beq_iff_eq, decide_eq_true_eq]; omega
  exact Bool.eq_iff_iff.2 this
theorem clrW_nat (n i : Nat) (hn : n < 65536) (hi : i < 16) : clrW (n : Int) (i : Int) = ((n &&& (65535 - 2 ^ i) : Nat) : Int) := by
  have hp : 2 ^ i < 65536 := Nat.pow_lt_pow_right (by decide) hi (n := 16)
  unfold clrW
  have hw : IntKind.u16.wrap (2 ^ (i : Int).toNat) = ((2 ^ i : Nat) : Int) := by
    rw [Int.toNat_natCast, IntKind.wrap_u16]
    have : ((2 : Int) ^ i) = ((2 ^ i : Nat) : Int) := by push_cast; rfl
    rw [this]
    generalize 2 ^ i = q at hp
    omega
  rw [hw, u16_andNot_nat _ _ hn hp]
theorem clr_test (n i j : Nat) (hi : i < 16) : (n &&& (65535 - 2 ^ i)).testBit j = (n.testBit j && decide (j < 16) && decide (j ≠ i)) := by
  have hp : 2 ^ i < 2 ^ 16 := Nat.pow_lt_pow_right (by decide) hi
  rw [Nat.testBit_and, show 65535 - 2 ^ i = 2 ^ 16 - (2 ^ i + 1) by omega, Nat.testBit_two_pow_sub_succ hp, Nat.testBit_two_pow, Bool.and_assoc]
  congr 1; congr 1
  by_cases h : i = j
  · simp [h]
  · have : j ≠ i := fun e => h e.symm
    simp [h, this]
/-- What holds of a set of waiting batters. -/
theorem bits_of (w : Int) (h : 0 ≤ w ∧ w < 65536) : ∃ n : Nat, w = (n : Int) ∧ n < 65536 := ⟨w.toNat, by omega, by omega⟩
theorem clrW_lt {w i : Int} (h : 0 ≤ w ∧ w < 65536) (hi : 0 ≤ i ∧ i < 16) : 0 ≤ clrW w i ∧ clrW w i < 65536 := by
  obtain ⟨n, rfl, hn⟩ := bits_of w h
  obtain ⟨k, rfl⟩ := Int.eq_ofNat_of_zero_le hi.1
  rw [clrW_nat n k hn (by omega)]
  have := Nat.and_le_left (n := n) (m := 65535 - 2 ^ k)
  omega
theorem clrW_bit {w i j : Int} (h : 0 ≤ w ∧ w < 65536) (hi : 0 ≤ i ∧ i < 16) (hj : 0 ≤ j ∧ j < 16) : bitW (clrW w i) j = (bitW w j && decide (j ≠ i)) := by
  obtain ⟨n, rfl, hn⟩ := bits_of w h
  obtain ⟨k, rfl⟩ := Int.eq_ofNat_of_zero_le hi.1
  obtain ⟨m, rfl⟩ := Int.eq_ofNat_of_zero_le hj.1
  have hk : k < 16 := by omega
  have hm : m < 16 := by omega
  rw [clrW_nat n k hn hk, bitW_nat _ m (by have := Nat.and_le_left (n := n) (m := 65535 - 2 ^ k); omega) (by omega), bitW_nat n m hn (by omega), clr_test n k m hk]
  have e : decide ((m : Int) ≠ (k : Int)) = decide (m ≠ k) := decide_eq_decide.2 (by omega)
  rw [e]; simp [hm]
theorem clrW_shr {w i k : Int} (h : 0 ≤ w ∧ w < 65536) (hi : 0 ≤ i ∧ i < 16) (hk : 0 ≤ k ∧ k < 16) (h0 : shrW w k = 0) : shrW (clrW w i) k = 0 := by
  obtain ⟨n, rfl, hn⟩ := bits_of w h
  obtain ⟨a, rfl⟩ := Int.eq_ofNat_of_zero_le hi.1
  obtain ⟨b, rfl⟩ := Int.eq_ofNat_of_zero_le hk.1
  rw [shrW_nat n b (by omega)] at h0
  rw [clrW_nat n a hn (by omega), shrW_nat _ b (by omega)]
  have hp : 0 < 2 ^ b := Nat.two_pow_pos b
  have h1 : n < 2 ^ b := by
    have : n / 2 ^ b = 0 := by omega
    rcases Nat.lt_or_ge n (2 ^ b) with h | h
    · exact h
    · have := Nat.div_pos h hp; omega
  have := Nat.and_le_left (n := n) (m := 65535 - 2 ^ a)
  rw [Nat.div_eq_of_lt (by omega)]; rfl
def vacO (s : Ost) : Bool := decide (s.str < 0) || decide (s.par < 0)
def sendO (s : Ost) (i : Int) : Ost := if s.str < 0 then ⟨s.ball, s.need, i, s.par, clrW s.wait i⟩ else ⟨s.ball, s.need, s.str, i, clrW s.wait i⟩
def stepO (c : Chs) (s : Ost) (o : Otc) : Ost :=
  if swapC c (s.ball + 1) o = true then ⟨s.ball + 1, max (s.need - o.runs) 0, s.par, if o.wick = true then -1 else s.str, s.wait⟩
  else ⟨s.ball + 1, max (s.need - o.runs) 0, if o.wick = true then -1 else s.str, s.par, s.wait⟩
def cstO (s : Ost) : Cst := ⟨s.ball, s.need, s.str, s.par, 0⟩
def mvO (c : Chs) (s : Ost) : List Otc := mvC c (cstO s)
/-- The best of f over the waiting below k. -/
def bestF (f : Int → Int) (w : Int) : Nat → Int
  | 0 => 0
  | k + 1 => if bitW w k = true then max (bestF f w k) (f k) else bestF f w k
def valO (c : Chs) : Nat → Ost → Int
  | 0, s => if s.need = 0 then 1 else 0
  | n + 1, s => if s.need = 0 then pow16 (n + 1) else if vacO s = true then bestF (fun i => sumI ((mvO c (sendO s i)).map fun o => o.wt * valO c n (stepO c (sendO s i) o))) s.wait c.ord.length
    else sumI ((mvO c s).map fun o => o.wt * valO c n (stepO c s o))
def leftO (c : Chs) (s : Ost) : Nat := (c.bows.length - s.ball).toNat
def vO (c : Chs) (s : Ost) : Int := valO c (leftO c s) s
def endO (c : Chs) (s : Ost) : Bool := decide (s.need = 0) || decide (s.ball = c.bows.length)
def outO (c : Chs) (s : Ost) : Bool := !(outC.inC s.ball 0 c.bows.length) || !(outC.inC s.need 0 c.need) || !(outC.inC s.str (-1) (c.ord.length - 1)) || !(outC.inC s.par (-1) (c.ord.length - 1)) || !(shrW s.wait c.ord.length == 0)
def bothO (s : Ost) : Bool := (decide (0 ≤ s.str) && bitW s.wait s.str) || (decide (0 ≤ s.par) && bitW s.wait s.par)
def stateO (c : Chs) (s : Ost) : Int := if outO c s = true then 2 else if s.str = s.par then 1 else if bothO s = true then 7 else 0
def chstO (c : Chs) (s : Ost) : Int := if checkO c ≠ 0 then checkO c else stateO c s
structure OkOs (c : Chs) (s : Ost) : Prop where
  ball : 0 ≤ s.ball ∧ s.ball ≤ c.bows.length
  need : 0 ≤ s.need ∧ s.need ≤ c.need
  str : -1 ≤ s.str ∧ s.str < c.ord.length
  par : -1 ≤ s.par ∧ s.par < c.ord.length
  w16 : 0 ≤ s.wait ∧ s.wait < 65536
  hi : shrW s.wait c.ord.length = 0
  ne : s.str ≠ s.par
  ws : 0 ≤ s.str → bitW s.wait s.str = false
  wp : 0 ≤ s.par → bitW s.wait s.par = false
theorem stateO_ok {c : Chs} {s : Ost} (hw : 0 ≤ s.wait ∧ s.wait < 65536) : stateO c s = 0 ↔ OkOs c s := by
  have ho : outO c s = false ↔ (0 ≤ s.ball ∧ s.ball ≤ c.bows.length) ∧ (0 ≤ s.need ∧ s.need ≤ c.need) ∧ (-1 ≤ s.str ∧ s.str < c.ord.length) ∧ (-1 ≤ s.par ∧ s.par < c.ord.length) ∧ shrW s.wait c.ord.length = 0 := by
    unfold outO outC.inC
    simp only [Bool.or_eq_false_iff, Bool.not_eq_false', Bool.and_eq_true, decide_eq_true_eq, beq_iff_eq]
    omega
  have hb : bothO s = false ↔ (0 ≤ s.str → bitW s.wait s.str = false) ∧ (0 ≤ s.par → bitW s.wait s.par = false) := by
    unfold bothO
    rw [Bool.or_eq_false_iff]
    by_cases h1 : 0 ≤ s.str <;> by_cases h2 : 0 ≤ s.par <;> simp [h1, h2]
  unfold stateO
  constructor
  · intro h
    by_cases h1 : outO c s = true
    · rw [if_pos h1] at h; cases h
    rw [if_neg h1] at h
    by_cases h2 : s.str = s.par
    · rw [if_pos h2] at h; cases h
    rw [if_neg h2] at h
    by_cases h3 : bothO s = true
    · rw [if_pos h3] at h; cases h
    obtain ⟨a1, a2, a3, a4, a5⟩ := ho.1 (by simpa using h1)
    obtain ⟨b1, b2⟩ := hb.1 (by simpa using h3)
    exact ⟨a1, a2, a3, a4, hw, a5, h2, b1, b2⟩
  · intro h
    rw [if_neg (by rw [ho.2 ⟨h.ball, h.need, h.str, h.par, h.hi⟩]; decide), if_neg h.ne, if_neg (by rw [hb.2 ⟨h.ws, h.wp⟩]; decide)]
structure OkT (c : Chs) : Prop where
  chk : checkC c = 0
  ok : OkC c
  nb : c.bows.length ≤ 8
  np : 2 ≤ c.ord.length ∧ c.ord.length ≤ 6
theorem okT_of {c : Chs} (h : checkO c = 0) : OkT c := by
  obtain ⟨h1, h2, h3, h4⟩ := checkO_ok h
  exact ⟨h1, h2, h3, h2.no.1, h4⟩
theorem chstO_ok {c : Chs} {s : Ost} (hw : 0 ≤ s.wait ∧ s.wait < 65536) (h : chstO c s = 0) : checkO c = 0 ∧ OkT c ∧ OkOs c s := by
  unfold chstO at h
  by_cases h4 : checkO c ≠ 0
  · rw [if_pos h4] at h; exact absurd h h4
  rw [if_neg h4] at h
  have h5 : checkO c = 0 := by omega
  exact ⟨h5, okT_of h5, (stateO_ok hw).1 h⟩
theorem chstO_of {c : Chs} {s : Ost} (h1 : checkO c = 0) (h2 : OkOs c s) : chstO c s = 0 := by
  unfold chstO; rw [if_neg (by omega)]; exact (stateO_ok h2.w16).2 h2
theorem sendO_ok {c : Chs} {s : Ost} {i : Int} (ht : OkT c) (h : OkOs c s) (hv : vacO s = true) (hi : 0 ≤ i ∧ i < c.ord.length) (hb : bitW s.wait i = true) :
    OkOs c (sendO s i) ∧ vacO (sendO s i) = false ∧ (sendO s i).ball = s.ball ∧ (sendO s i).need = s.need := by
  have hp := ht.np
  have h1 := clrW_lt h.w16 (i := i) (by omega)
  have h2 := clrW_shr h.w16 (i := i) (k := c.ord.length) (by omega) (by omega) h.hi
  have hbit : ∀ j : Int, 0 ≤ j → j < c.ord.length → (bitW s.wait j = false ∨ j = i) → bitW (clrW s.wait i) j = false := fun j h3 h4 h5 => by
    rw [clrW_bit h.w16 (by omega) (by omega)]
    rcases h5 with h5 | h5
    · rw [h5]; rfl
    · simp [h5]
  have k1 := h.str
  have k2 := h.par
  unfold vacO at hv ⊢
  rw [Bool.or_eq_true, decide_eq_true_eq, decide_eq_true_eq] at hv
  unfold sendO
  by_cases hs : s.str < 0
  · rw [if_pos hs]
    have hne := h.ne
    have hpi : s.par ≠ i := fun e => by
      have := h.wp (by omega)
      rw [e, hb] at this; cases this
    refine ⟨⟨h.ball, h.need, by dsimp only; omega, h.par, h1, h2, fun e => hpi e.symm, fun _ => hbit i (by omega) (by omega) (.inr rfl), fun hp0 => hbit s.par hp0 (by omega) (.inl (h.wp hp0))⟩, ?_, rfl, rfl⟩
    rw [Bool.or_eq_false_iff, decide_eq_false_iff_not, decide_eq_false_iff_not]; dsimp only; omega
  · rw [if_neg hs]
    have hsi : s.str ≠ i := fun e => by
      have := h.ws (by omega)
      rw [e, hb] at this; cases this
    refine ⟨⟨h.ball, h.need, h.str, by dsimp only; omega, h1, h2, hsi, fun hp0 => hbit s.str hp0 (by omega) (.inl (h.ws hp0)), fun _ => hbit i (by omega) (by omega) (.inr rfl)⟩, ?_, rfl, rfl⟩
    rw [Bool.or_eq_false_iff, decide_eq_false_iff_not, decide_eq_false_iff_not]; dsimp only; omega
/-- A state in which both ends are taken and a ball is bowled. -/
theorem mvO_at {c : Chs} {s : Ost} (hc : OkC c) (h : OkOs c s) (h2 : s.ball ≠ c.bows.length) (hv : vacO s = false) : ∃ (i j : Int) (b : Bat) (w : Bow), c.ord[s.str.toNat]? = some i ∧ c.bows[s.ball.toNat]? = some j ∧ 0 ≤ s.str ∧ s.ball < c.bows.length ∧ 0 ≤ i ∧ i < c.mdl.bats.length ∧ 0 ≤ j ∧ j < c.mdl.bows.length ∧ c.mdl.bats[i.toNat]? = some b ∧ c.mdl.bows[j.toNat]? = some w ∧ shiftS b.dist w.shift = (mvO c s, 0) ∧ checkD (mvO c s) = 0 := by
  unfold vacO at hv
  rw [Bool.or_eq_false_iff, decide_eq_false_iff_not, decide_eq_false_iff_not] at hv
  have k1 := h.ball; have k2 := h.str
  have e1 : s.str.toNat < c.ord.length := by omega
  have e2 : s.ball.toNat < c.bows.length := by omega
  have b1 := hc.ord _ (List.getElem_mem e1)
  have b2 := hc.bow _ (List.getElem_mem e2)
  have e3 : c.ord[s.str.toNat].toNat < c.mdl.bats.length := by omega
  have e4 : c.bows[s.ball.toNat].toNat < c.mdl.bows.length := by omega
  have q1 := (hc.mdl.bat _ (List.getElem_mem e3)).2
  have q2 := (hc.mdl.bow _ (List.getElem_mem e4)).2
  have hsh := shift_ok q1 q2.1 q2.2
  have hm : mvO c s = (shiftS c.mdl.bats[c.ord[s.str.toNat].toNat].dist c.mdl.bows[c.bows[s.ball.toNat].toNat].shift).1 := by
    unfold mvO mvC cstO
    dsimp only
    rw [List.getElem?_eq_getElem e1, List.getElem?_eq_getElem e2]
    dsimp only
    rw [List.getElem?_eq_getElem e3, List.getElem?_eq_getElem e4]
  refine ⟨_, _, _, _, List.getElem?_eq_getElem e1, List.getElem?_eq_getElem e2, by omega, by omega, b1.1, b1.2, b2.1, b2.2, List.getElem?_eq_getElem e3, List.getElem?_eq_getElem e4, ?_, ?_⟩
  · rw [hm, hsh]
  · rw [hm]; exact (shift_check (by rw [hsh])).1
theorem stepO_ok {c : Chs} {s : Ost} (h : OkOs c s) (h2 : s.ball ≠ c.bows.length) (hv : vacO s = false) {o : Otc} (ho : 0 ≤ o.runs) : OkOs c (stepO c s o) ∧ (stepO c s o).ball = s.ball + 1 ∧ (stepO c s o).need = max (s.need - o.runs) 0 := by
  unfold vacO at hv
  rw [Bool.or_eq_false_iff, decide_eq_false_iff_not, decide_eq_false_iff_not] at hv
  have a1 := h.ball; have a2 := h.need; have a4 := h.str; have a5 := h.par; have a6 := h.ne; have a7 := h.ws; have a8 := h.wp
  have o1 := ho
  have h0 : 0 ≤ max (s.need - o.runs) 0 ∧ max (s.need - o.runs) 0 ≤ c.need := by omega
  unfold stepO
  by_cases hx : swapC c (s.ball + 1) o = true
  · rw [if_pos hx]
    by_cases hw : o.wick = true
    · rw [if_pos hw]
      exact ⟨⟨by dsimp only; omega, h0, h.par, by dsimp only; omega, h.w16, h.hi, by dsimp only; omega, h.wp, fun k => by dsimp only at k; omega⟩, rfl, rfl⟩
    · rw [if_neg hw]
      exact ⟨⟨by dsimp only; omega, h0, h.par, h.str, h.w16, h.hi, fun e => a6 e.symm, h.wp, h.ws⟩, rfl, rfl⟩
  · rw [if_neg hx]
    by_cases hw : o.wick = true
    · rw [if_pos hw]
      exact ⟨⟨by dsimp only; omega, h0, by dsimp only; omega, h.par, h.w16, h.hi, by dsimp only; omega, fun k => by dsimp only at k; omega, h.wp⟩, rfl, rfl⟩
    · rw [if_neg hw]
      exact ⟨⟨by dsimp only; omega, h0, h.str, h.par, h.w16, h.hi, a6, h.ws, h.wp⟩, rfl, rfl⟩
/-- The value of a state, by its kind. -/
theorem vO_won {c : Chs} {s : Ost} (h : s.need = 0) : vO c s = pow16 (leftO c s) := by
  unfold vO
  cases leftO c s with
  | zero => rw [valO, if_pos h]; rfl
  | succ n => rw [valO, if_pos h]
theorem vO_lost {c : Chs} {s : Ost} (h : s.need ≠ 0) (h2 : s.ball = c.bows.length) : vO c s = 0 := by
  unfold vO
  have : leftO c s = 0 := by unfold leftO; omega
  rw [this, valO, if_neg h]
theorem leftO_run {c : Chs} {s : Ost} (h : OkOs c s) (h2 : s.ball ≠ c.bows.length) : ∃ n, leftO c s = n + 1 ∧ (c.bows.length : Int) - s.ball = ((n + 1 : Nat) : Int) := by
  have := h.ball
  exact ⟨(c.bows.length - s.ball).toNat - 1, by unfold leftO; omega, by omega⟩
theorem vO_run {c : Chs} {s : Ost} (hc : OkC c) (h : OkOs c s) (h1 : s.need ≠ 0) (h2 : s.ball ≠ c.bows.length) (hv : vacO s = false) : vO c s = sumI ((mvO c s).map fun o => o.wt * vO c (stepO c s o)) := by
  obtain ⟨n, hn, hn2⟩ := leftO_run h h2
  obtain ⟨_, _, _, _, _, _, _, _, _, _, _, _, _, _, _, hd⟩ := mvO_at hc h h2 hv
  have hok := checkD_ok hd
  have e : vO c s = valO c (n + 1) s := by unfold vO; rw [hn]
  rw [e, valO, if_neg h1, if_neg (by rw [hv]; decide)]
  congr 1
  refine List.map_congr_left fun o ho => ?_
  obtain ⟨_, k2, _⟩ := stepO_ok h h2 hv (hok.each o ho).r0
  unfold vO leftO
  rw [k2, show ((c.bows.length : Int) - (s.ball + 1)).toNat = n by push_cast at hn2; omega]
theorem bestF_congr {f g : Int → Int} {w : Int} : ∀ {k : Nat}, (∀ i : Nat, i < k → bitW w i = true → f i = g i) → bestF f w k = bestF g w k
  | 0, _ => rfl
  | k + 1, h => by
    have ih := bestF_congr (f := f) (g := g) (w := w) (k := k) fun i hi => h i (by omega)
    rw [bestF, bestF, ih]
    by_cases hb : bitW w k = true
    · rw [if_pos hb, if_pos hb, h k (by omega) hb]
    · rw [if_neg hb, if_neg hb]
theorem vO_vac {c : Chs} {s : Ost} (ht : OkT c) (h : OkOs c s) (h1 : s.need ≠ 0) (h2 : s.ball ≠ c.bows.length) (hv : vacO s = true) : vO c s = bestF (fun i => vO c (sendO s i)) s.wait c.ord.length := by
  obtain ⟨n, hn, hn2⟩ := leftO_run h h2
  have e : vO c s = valO c (n + 1) s := by unfold vO; rw [hn]
  rw [e, valO, if_neg h1, if_pos hv]
  refine bestF_congr fun i hi hb => ?_
  obtain ⟨k1, k2, k3, k4⟩ := sendO_ok ht h hv (i := i) ⟨by omega, by omega⟩ hb
  have hl : leftO c (sendO s i) = n + 1 := by unfold leftO; rw [k3]; unfold leftO at hn; exact hn
  have e2 : vO c (sendO s i) = valO c (n + 1) (sendO s i) := by unfold vO; rw [hl]
  rw [e2, valO, if_neg (by rw [k4]; exact h1), if_neg (by rw [k2]; decide)]
theorem bestF_bd {f : Int → Int} {w : Int} {b : Int} (hb : 0 ≤ b) : ∀ {k : Nat}, (∀ i : Nat, i < k → bitW w i = true → f i ≤ b) → 0 ≤ bestF f w k ∧ bestF f w k ≤ b
  | 0, _ => ⟨Int.le_refl _, hb⟩
  | k + 1, h => by
    have ih := bestF_bd (f := f) (w := w) hb (k := k) fun i hi => h i (by omega)
    rw [bestF]
    by_cases hx : bitW w k = true
    · have := h k (by omega) hx
      rw [if_pos hx]; omega
    · rw [if_neg hx]; exact ih
theorem vO_bd {c : Chs} (ht : OkT c) : ∀ (n : Nat) (s : Ost), OkOs c s → leftO c s = n → 0 ≤ vO c s ∧ vO c s ≤ pow16 n
  | 0, s, h, hn => by
    have hp := pow16_pos 0
    unfold vO; rw [hn, valO]
    split <;> omega
  | n + 1, s, h, hn => by
    have hp := pow16_pos (n + 1)
    by_cases h1 : s.need = 0
    · rw [vO_won h1, hn]; omega
    have h2 : s.ball ≠ c.bows.length := fun e => by unfold leftO at hn; omega
    have run : ∀ t : Ost, OkOs c t → t.need ≠ 0 → t.ball ≠ c.bows.length → leftO c t = n + 1 → vacO t = false → 0 ≤ vO c t ∧ vO c t ≤ pow16 (n + 1) := fun t hx g1 g2 g3 g4 => by
      obtain ⟨_, _, _, _, _, _, _, _, _, _, _, _, _, _, _, hd⟩ := mvO_at ht.ok hx g2 g4
      have hok := checkD_ok hd
      have hv : ∀ o ∈ mvO c t, 0 ≤ vO c (stepO c t o) ∧ vO c (stepO c t o) ≤ pow16 n := fun o ho => by
        obtain ⟨k1, k2, _⟩ := stepO_ok hx g2 g4 (hok.each o ho).r0
        exact vO_bd ht n (stepO c t o) k1 (by unfold leftO at g3 ⊢; rw [k2]; omega)
      rw [vO_run ht.ok hx g1 g2 g4]
      constructor
      · have := sumI_le (f := fun _ => 0) (g := fun o => o.wt * vO c (stepO c t o)) (l := mvO c t) fun o ho => Int.mul_nonneg (by have := (hok.each o ho).w1; omega) (hv o ho).1
        have e0 : sumI ((mvO c t).map fun _ => (0 : Int)) = 0 := by
          generalize mvO c t = l
          induction l with
          | nil => rfl
          | cons a l ih => rw [List.map_cons, sumI_cons, ih]; rfl
        omega
      · have := sumI_le (f := fun o => o.wt * vO c (stepO c t o)) (g := fun o => o.wt * pow16 n) (l := mvO c t) fun o ho => Int.mul_le_mul_of_nonneg_left (hv o ho).2 (by have := (hok.each o ho).w1; omega)
        rw [sumI_mul (fun o : Otc => o.wt) (pow16 n), hok.sum] at this
        rw [pow16]; exact this
    cases hv : vacO s
    · exact run s h h1 h2 hn hv
    · rw [vO_vac ht h h1 h2 hv]
      refine bestF_bd (by omega) fun i hi hb => ?_
      obtain ⟨k1, k2, k3, k4⟩ := sendO_ok ht h hv (i := i) ⟨by omega, by omega⟩ hb
      exact (run _ k1 (by rw [k4]; exact h1) (by rw [k3]; exact h2) (by unfold leftO at hn ⊢; rw [k3]; exact hn) k2).2
end Go.Proofs.YtfnfbojaiikigaaGreatDoor

namespace Go.Proofs.YtfnfbojaiikigaaGreatDoor
open Go.RowKit

def osV (s : Ost) : Value := .agg #[.int .i64 s.ball, .int .i64 s.need, .int .i64 s.str, .int .i64 s.par, .int .u16 s.wait]
/-- A chase boxed in block g. -/
structure OTB (w W : World) (g : Nat) (c : Chs) (bv wv pv ov : Value) : Prop where
  bel : Below w.heap.size w W
  box : Blk W g 50 #[bv, wv, pv, .int .i64 c.over, .int .i64 c.done, .int .i64 c.need, ov]
theorem OTB.below {w W W' : World} {g : Nat} {c : Chs} {bv wv pv ov : Value} (h : OTB w W g c bv wv pv ov) (hb : Below W.heap.size W W') : OTB w W' g c bv wv pv ov := ⟨h.bel.trans (hb.mono h.bel.size), h.box.below hb h.box.lt⟩
theorem OTB.drew {w W : World} {g : Nat} {c : Chs} {bv wv pv ov : Value} (h : OTB w W g c bv wv pv ov) : OTB w W.drew g c bv wv pv ov := ⟨Below.drew h.bel, h.box.drew⟩
theorem OTB.alloc {w W : World} {g : Nat} {c : Chs} {bv wv pv ov : Value} (h : OTB w W g c bv wv pv ov) (o : Obj) : OTB w (W.alloc o) g c bv wv pv ov := ⟨h.bel.alloc h.bel.size _, h.box.alloc _⟩
theorem OTB.cells {w W : World} {g : Nat} {c : Chs} {bv wv pv ov : Value} (h : OTB w W g c bv wv pv ov) : W.cell? ⟨g, 0, none⟩ = some bv ∧ W.cell? ⟨g, 1, none⟩ = some wv ∧ W.cell? ⟨g, 2, none⟩ = some pv ∧ W.cell? ⟨g, 3, none⟩ = some (.int .i64 c.over) ∧ W.cell? ⟨g, 4, none⟩ = some (.int .i64 c.done) ∧ W.cell? ⟨g, 5, none⟩ = some (.int .i64 c.need) ∧ W.cell? ⟨g, 6, none⟩ = some ov :=
  ⟨h.box.cell 0, h.box.cell 1, h.box.cell 2, h.box.cell 3, h.box.cell 4, h.box.cell 5, h.box.cell 6⟩
theorem OTB.new (w : World) (c : Chs) (bv wv pv ov : Value) : OTB w (w.alloc (.cells #[bv, wv, pv, .int .i64 c.over, .int .i64 c.done, .int .i64 c.need, ov] 50)) w.heap.size c bv wv pv ov := ⟨Below.alloc (Below.refl _ _) (Nat.le_refl _) _, Blk.new _ _ _⟩
/-- A chase and a state boxed one behind the other. -/
structure OSB (w W : World) (g : Nat) (c : Chs) (bv wv pv ov : Value) (s : Ost) : Prop where
  bel : Below w.heap.size w W
  box : Blk W g 50 #[bv, wv, pv, .int .i64 c.over, .int .i64 c.done, .int .i64 c.need, ov]
  st : Blk W (g + 1) 53 #[.int .i64 s.ball, .int .i64 s.need, .int .i64 s.str, .int .i64 s.par, .int .u16 s.wait]
section
variable {w W W' : World} {g : Nat} {c : Chs} {bv wv pv ov : Value} {s : Ost}
theorem OSB.below (h : OSB w W g c bv wv pv ov s) (hb : Below W.heap.size W W') : OSB w W' g c bv wv pv ov s := ⟨h.bel.trans (hb.mono h.bel.size), h.box.below hb h.box.lt, h.st.below hb h.st.lt⟩
theorem OSB.drew (h : OSB w W g c bv wv pv ov s) : OSB w W.drew g c bv wv pv ov s := ⟨Below.drew h.bel, h.box.drew, h.st.drew⟩
theorem OSB.cells (h : OSB w W g c bv wv pv ov s) : W.cell? ⟨g, 0, none⟩ = some bv ∧ W.cell? ⟨g, 1, none⟩ = some wv ∧ W.cell? ⟨g, 2, none⟩ = some pv ∧ W.cell? ⟨g, 3, none⟩ = some (.int .i64 c.over) ∧ W.cell? ⟨g, 4, none⟩ = some (.int .i64 c.done) ∧ W.cell? ⟨g, 5, none⟩ = some (.int .i64 c.need) ∧ W.cell? ⟨g, 6, none⟩ = some ov ∧
    W.cell? ⟨g + 1, 0, none⟩ = some (.int .i64 s.ball) ∧ W.cell? ⟨g + 1, 1, none⟩ = some (.int .i64 s.need) ∧ W.cell? ⟨g + 1, 2, none⟩ = some (.int .i64 s.str) ∧ W.cell? ⟨g + 1, 3, none⟩ = some (.int .i64 s.par) ∧ W.cell? ⟨g + 1, 4, none⟩ = some (.int .u16 s.wait) :=
  ⟨h.box.cell 0, h.box.cell 1, h.box.cell 2, h.box.cell 3, h.box.cell 4, h.box.cell 5, h.box.cell 6, h.st.cell 0, h.st.cell 1, h.st.cell 2, h.st.cell 3, h.st.cell 4⟩
theorem OSB.new (w : World) (c : Chs) (bv wv pv ov : Value) (s : Ost) : OSB w ((w.alloc (.cells #[bv, wv, pv, .int .i64 c.over, .int .i64 c.done, .int .i64 c.need, ov] 50)).alloc (.cells #[.int .i64 s.ball, .int .i64 s.need, .int .i64 s.str, .int .i64 s.par, .int .u16 s.wait] 53)) w.heap.size c bv wv pv ov s := by
  have h1 := OTB.new w c bv wv pv ov
  have h2 := Blk.new (w.alloc (.cells #[bv, wv, pv, .int .i64 c.over, .int .i64 c.done, .int .i64 c.need, ov] 50)) 53 #[.int .i64 s.ball, .int .i64 s.need, .int .i64 s.str, .int .i64 s.par, .int .u16 s.wait]
  rw [World.size_alloc] at h2
  exact ⟨h1.bel.alloc h1.bel.size _, h1.box.alloc _, h2⟩
end
theorem or_asChase_ret {R' : Ending → World → Prop} {a : Act} {w : World} {x0 x1 x2 x3 x4 x5 x6 : Value} {g : Nat} (h2 : a.tmps[4]? = some (.pointer (some ⟨g, 0, none⟩))) (hb : Blk w g 28 #[x0, x1, x2, x3, x4, x5, x6])
    (hd : a.defers = []) (hR : R' (.returned (.agg #[x0, x1, x2, x3, x4, x5, x6])) w) : bodyPost Tryz.prog Tryz.f52 R' .ret a w := by
  have r0 := hb.cell 0
  have r1 := hb.cell 1
  have r2 := hb.cell 2
  have r3 := hb.cell 3
  have r4 := hb.cell 4
  have r5 := hb.cell 5
  have r6 := hb.cell 6
  simp only [List.getElem?_toArray, List.getElem?_cons_zero, List.getElem?_cons_succ] at r0 r1 r2 r3 r4 r5 r6
  refine bodyPost_ret (v := .agg #[x0, x1, x2, x3, x4, x5, x6]) (by simp [results, Tryz.results52, go_sem, h2, r0, r1, r2, r3, r4, r5, r6]) hd hR
theorem r45_of_ret {R' : Ending → World → Prop} {a : Act} {w : World} {x0 x1 x2 x3 x4 x5 x6 : Value} {g : Nat} (h2 : a.tmps[4]? = some (.pointer (some ⟨g, 0, none⟩))) (hb : Blk w g 28 #[x0, x1, x2, x3, x4, x5, x6])
    (hd : a.defers = []) (hR : R' (.returned (.agg #[x0, x1, x2, x3, x4, x5, x6])) w) : bodyPost Tryz.prog Tryz.f55 R' .ret a w := by
  have r0 := hb.cell 0
  have r1 := hb.cell 1
  have r2 := hb.cell 2
  have r3 := hb.cell 3
  have r4 := hb.cell 4
  have r5 := hb.cell 5
  have r6 := hb.cell 6
  simp only [List.getElem?_toArray, List.getElem?_cons_zero, List.getElem?_cons_succ] at r0 r1 r2 r3 r4 r5 r6
  refine bodyPost_ret (v := .agg #[x0, x1, x2, x3, x4, x5, x6]) (by simp [results, Tryz.results55, go_sem, h2, r0, r1, r2, r3, r4, r5, r6]) hd hR
theorem blk_two (w : World) (o : Obj) (t : TypeId) (cs : Array Value) : Blk ((w.alloc o).alloc (.cells cs t)) (w.heap.size + 1) t cs := by
  have h := Blk.new (w.alloc o) t cs
  rwa [World.size_alloc] at h
theorem below_two (w : World) (o1 o2 : Obj) : Below w.heap.size w ((w.alloc o1).alloc o2) := (Below.alloc (Below.refl _ _) (Nat.le_refl _) _).alloc (by simp) _
theorem Blk.put7 {w : World} {g : Nat} {t : TypeId} {a b c d e f h : Value} (hb : Blk w g t #[a, b, c, d, e, f, h]) (x0 x1 x2 x3 x4 x5 x6 : Value) :
    Blk (((((((w.setCell ⟨g, 0, none⟩ x0).setCell ⟨g, 1, none⟩ x1).setCell ⟨g, 2, none⟩ x2).setCell ⟨g, 3, none⟩ x3).setCell ⟨g, 4, none⟩ x4).setCell ⟨g, 5, none⟩ x5).setCell ⟨g, 6, none⟩ x6) g t #[x0, x1, x2, x3, x4, x5, x6] :=
  have h0 : Blk _ g t #[x0, b, c, d, e, f, h] := hb.set_ 0 x0
  have h1 : Blk _ g t #[x0, x1, c, d, e, f, h] := h0.set_ 1 x1
  have h2 : Blk _ g t #[x0, x1, x2, d, e, f, h] := h1.set_ 2 x2
  have h3 : Blk _ g t #[x0, x1, x2, x3, e, f, h] := h2.set_ 3 x3
  have h4 : Blk _ g t #[x0, x1, x2, x3, x4, f, h] := h3.set_ 4 x4
  have h5 : Blk _ g t #[x0, x1, x2, x3, x4, x5, h] := h4.set_ 5 x5
  h5.set_ 6 x6
theorem below_set7 {B : Nat} {a w : World} (h : Below B a w) {g : Nat} (hg : B ≤ g) (x0 x1 x2 x3 x4 x5 x6 : Value) :
    Below B a (((((((w.setCell ⟨g, 0, none⟩ x0).setCell ⟨g, 1, none⟩ x1).setCell ⟨g, 2, none⟩ x2).setCell ⟨g, 3, none⟩ x3).setCell ⟨g, 4, none⟩ x4).setCell ⟨g, 5, none⟩ x5).setCell ⟨g, 6, none⟩ x6) :=
  Below.setCell (Below.setCell (Below.setCell (Below.setCell (Below.setCell (Below.setCell (Below.setCell h hg x0) hg x1) hg x2) hg x3) hg x4) hg x5) hg x6
set_option maxRecDepth 100000 in
set_option maxHeartbeats 1000000 in
theorem or_asChase (c : Chs) (A A1 A2 A3 D : Option Addr) (n n1 n2 n3 m ca ca1 ca2 ca3 k : Nat) (w : World) :
    Calls Tryz.prog 52 #[.agg #[.slice A n ca, .slice A1 n1 ca1, .slice A2 n2 ca2, .int .i64 c.over, .int .i64 c.done, .int .i64 c.need, .slice A3 n3 ca3], .slice D m k] w fun e w' => e = .returned (.agg #[.slice A n ca, .slice A1 n1 ca1, .slice A2 n2 ca2, .int .i64 c.over, .int .i64 c.done, .int .i64 c.need, .slice D m k]) ∧ Below w.heap.size w w' := by
  have hx := OTB.new w c (.slice A n ca) (.slice A1 n1 ca1) (.slice A2 n2 ca2) (.slice A3 n3 ca3)
  have hy := Blk.new (w.alloc (.cells #[.slice A n ca, .slice A1 n1 ca1, .slice A2 n2 ca2, .int .i64 c.over, .int .i64 c.done, .int .i64 c.need, .slice A3 n3 ca3] 50)) 28 #[.slice none 0 0, .slice none 0 0, .slice none 0 0, .int .i64 0, .int .i64 0, .int .i64 0, .slice none 0 0]
  rw [World.size_alloc] at hy
  have HX := Lib.hid (hx.alloc (.cells #[.slice none 0 0, .slice none 0 0, .slice none 0 0, .int .i64 0, .int .i64 0, .int .i64 0, .slice none 0 0] 28))
  have HY := Lib.hid hy
  clear hx hy
  go_enter Tryz.func52, Tryz.ntmps52
  go_wp2
  apply or_asChase_ret (g := w.heap.size + 1) (h2 := rfl) (hd := rfl)
  case hb => first | with_reducible exact blk_two _ _ _ _ | with_reducible exact HY.out.put7 _ _ _ _ _ _ _
  case hR => exact ⟨rfl, by first | with_reducible exact below_two _ _ _ | with_reducible exact below_set7 HX.out.bel (by omega) _ _ _ _ _ _ _⟩
set_option maxRecDepth 100000 in
set_option maxHeartbeats 1000000 in
theorem r45_of (c : Chs) (A A1 A2 A3 D : Option Addr) (n n1 n2 n3 m ca ca1 ca2 ca3 k : Nat) (w : World) :
    Calls Tryz.prog 55 #[.agg #[.slice A n ca, .slice A1 n1 ca1, .slice A2 n2 ca2, .int .i64 c.over, .int .i64 c.done, .int .i64 c.need, .slice A3 n3 ca3], .slice D m k] w fun e w' => e = .returned (.agg #[.slice A n ca, .slice A1 n1 ca1, .slice A2 n2 ca2, .int .i64 c.over, .int .i64 c.done, .int .i64 c.need, .slice D m k]) ∧ Below w.heap.size w w' := by
  have hx := OTB.new w c (.slice A n ca) (.slice A1 n1 ca1) (.slice A2 n2 ca2) (.slice A3 n3 ca3)
  have hy := Blk.new (w.alloc (.cells #[.slice A n ca, .slice A1 n1 ca1, .slice A2 n2 ca2, .int .i64 c.over, .int .i64 c.done, .int .i64 c.need, .slice A3 n3 ca3] 50)) 28 #[.slice none 0 0, .slice none 0 0, .slice none 0 0, .int .i64 0, .int .i64 0, .int .i64 0, .slice none 0 0]
  rw [World.size_alloc] at hy
  have HX := Lib.hid (hx.alloc (.cells #[.slice none 0 0, .slice none 0 0, .slice none 0 0, .int .i64 0, .int .i64 0, .int .i64 0, .slice none 0 0] 28))
  have HY := Lib.hid hy
  clear hx hy
  go_enter Tryz.func55, Tryz.ntmps55
  go_wp2
  apply r45_of_ret (g := w.heap.size + 1) (h2 := rfl) (hd := rfl)
  case hb => first | with_reducible exact blk_two _ _ _ _ | with_reducible exact HY.out.put7 _ _ _ _ _ _ _
  case hR => exact ⟨rfl, by first | with_reducible exact below_two _ _ _ | with_reducible exact below_set7 HX.out.bel (by omega) _ _ _ _ _ _ _⟩
theorem two_zeros (W : World) : Sl 1 elInt (W.alloc (.cells #[.int .i64 0, .int .i64 0] 3)) (· < (W.alloc (.cells #[.int .i64 0, .int .i64 0] 3)).heap.size) (.slice (some ⟨W.heap.size, 0, none⟩) 2 2) [0, 0] := by
  have hk := Blk.new W 3 #[.int .i64 0, .int .i64 0]
  refine ⟨_, 2, rfl, Nat.le_refl _, by decide, fun h0 => ⟨W.heap.size, 0, rfl, by simp, fun i x hi => ?_⟩⟩
  have hlt := (List.getElem?_eq_some_iff.1 hi).1
  have hc : i = 0 ∨ i = 1 := by simp at hlt; omega
  rcases hc with rfl | rfl
  · simp at hi; subst hi
    refine ⟨[.int .i64 0], rfl, fun j u hu => ?_, rfl⟩
    obtain rfl : j = 0 := by have := (List.getElem?_eq_some_iff.1 hu).1; simp at this; omega
    simp at hu; subst hu; exact hk.cell 0
  · simp at hi; subst hi
    refine ⟨[.int .i64 0], rfl, fun j u hu => ?_, rfl⟩
    obtain rfl : j = 0 := by have := (List.getElem?_eq_some_iff.1 hu).1; simp at this; omega
    simp at hu; subst hu; exact hk.cell 1
set_option maxRecDepth 100000 in
set_option maxHeartbeats 1000000 in
theorem or_Check (c : Chs) (bv wv pv ov : Value) (w : World) (h : ChAt w (· < w.heap.size) bv wv pv ov c) :
    Calls Tryz.prog 21 #[chV c bv wv pv ov] w fun e w' => e = .returned (.int .i64 (checkO c)) ∧ Below w.heap.size w w' := by
  unfold chV
  obtain ⟨A, ca, rfl, hc1, hc2⟩ := h.mdl.bat.shape
  obtain ⟨A1, ca1, rfl, hc3, hc4⟩ := h.mdl.bow.shape
  obtain ⟨A2, ca2, rfl, hc5, hc6⟩ := h.bow.shape
  obtain ⟨A3, ca3, rfl, hc7, hc8⟩ := h.ord.shape
  have HX0 := Lib.hid (OTB.new w c (.slice A c.mdl.bats.length ca) (.slice A1 c.mdl.bows.length ca1) (.slice A2 c.bows.length ca2) (.slice A3 c.ord.length ca3))
  have HM := Lib.hid h
  obtain ⟨z, hz⟩ : ∃ z, z = checkO c := ⟨_, rfl⟩
  rw [← hz]
  unfold checkO at hz
  have k1 := fun W (hW : Below w.heap.size w W) => m_Check c.mdl _ _ W (HM.out.below hW).mdl
  have k2 := fun W (hW : Below w.heap.size w W) => ch44_Check (setC c []) (.slice A c.mdl.bats.length ca) (.slice A1 c.mdl.bows.length ca1) (.slice A2 c.bows.length ca2) (.slice none 0 0) W ⟨(HM.out.below hW).mdl, (HM.out.below hW).bow, Sl.nil _ _⟩
  have ka1 := fun W => or_asChase c A A1 A2 A3 none c.mdl.bats.length c.mdl.bows.length c.bows.length c.ord.length 0 ca ca1 ca2 ca3 0 W
  have k3 := fun W (hW : Below w.heap.size w W) => ch44_Check c _ _ _ _ W (HM.out.below hW)
  have ka2 := fun W => or_asChase c A A1 A2 A3 A3 c.mdl.bats.length c.mdl.bows.length c.bows.length c.ord.length c.ord.length ca ca1 ca2 ca3 ca3 W
  unfold chV at k2 k3
  have e3 : (setC c []).over = c.over ∧ (setC c []).done = c.done ∧ (setC c []).need = c.need := ⟨rfl, rfl, rfl⟩
  rw [e3.1, e3.2.1, e3.2.2] at k2
  obtain ⟨u, hu⟩ : ∃ u, u = checkM c.mdl := ⟨_, rfl⟩
  obtain ⟨v, hv⟩ : ∃ u, u = checkC (setC c []) := ⟨_, rfl⟩
  obtain ⟨q, hq⟩ : ∃ u, u = checkC c := ⟨_, rfl⟩
  rw [← hu] at k1 hz
  rw [← hv] at k2 hz
  rw [← hq] at k3 hz
  have K1 := Lib.hid k1
  have K2 := Lib.hid k2
  have K3 := Lib.hid k3
  have KA1 := Lib.hid ka1
  have KA2 := Lib.hid ka2
  have tok0 : True := trivial
  clear k1 k2 k3 ka1 ka2 hu hv hq h HM e3
  by_cases h0 : u = 0
  case neg =>
    rw [if_pos h0] at hz
    have HZ := Lib.hid hz
    have eu : (u != 0) = true := by simp [h0]
    clear hz h0
    go_enter Tryz.func21, Tryz.ntmps21
    go_wp2_with (clear tok0; go_at_call 41; refine (K1.out _ HX0.out.bel).mono ?_; rintro e w1 ⟨rfl, hb⟩; have HX1 := Lib.hid (HX0.out.below hb); obtain ⟨x0, x1, x2, x3, x4, x5, x6⟩ := HX1.out.cells; clear hb; have tok1 : True := trivial)
    go_ret
    exact ⟨ret_i HZ.out.symm, HX1.out.bel⟩
  have eu : (u != 0) = false := by simp [h0]
  rw [if_neg (by omega)] at hz
  clear h0
  by_cases h1 : 8 < c.bows.length
  · rw [if_pos h1] at hz
    have HZ := Lib.hid hz
    have g1 : (8 : Int) < c.bows.length := by omega
    clear hz
    go_enter Tryz.func21, Tryz.ntmps21
    go_wp2_with (clear tok0; go_at_call 41; refine (K1.out _ HX0.out.bel).mono ?_; rintro e w1 ⟨rfl, hb⟩; have HX1 := Lib.hid (HX0.out.below hb); obtain ⟨x0, x1, x2, x3, x4, x5, x6⟩ := HX1.out.cells; clear hb; have tok1 : True := trivial)
    go_ret
    exact ⟨ret_i HZ.out.symm, HX1.out.bel⟩
  rw [if_neg h1] at hz
  have g1 : ¬ (8 : Int) < c.bows.length := by omega
  by_cases h2 : v = 9
  case neg =>
    rw [if_pos h2] at hz
    have HZ := Lib.hid hz
    have ev : (v != 9) = true := by simp [h2]
    clear hz h2
    go_enter Tryz.func21, Tryz.ntmps21
    go_wp2_with (first
      | (clear tok0; go_at_call 41; refine (K1.out _ HX0.out.bel).mono ?_; rintro e w1 ⟨rfl, hb⟩; have HX1 := Lib.hid (HX0.out.below hb); obtain ⟨x0, x1, x2, x3, x4, x5, x6⟩ := HX1.out.cells; clear hb; have tok1 : True := trivial)
      | (clear tok1; go_at_call 52; refine (KA1.out _).mono ?_; rintro e w2 ⟨rfl, hb⟩; have HX2 := Lib.hid (HX1.out.below hb); clear x0 x1 x2 x3 x4 x5 x6; obtain ⟨x0, x1, x2, x3, x4, x5, x6⟩ := HX2.out.cells; clear hb; have tok2 : True := trivial)
      | (clear tok2; go_at_call 14; refine (K2.out _ HX2.out.bel).mono ?_; rintro e w3 ⟨rfl, hb⟩; have HX3 := Lib.hid (HX2.out.below hb); clear x0 x1 x2 x3 x4 x5 x6; obtain ⟨x0, x1, x2, x3, x4, x5, x6⟩ := HX3.out.cells; clear hb; have tok3 : True := trivial))
    go_ret
    exact ⟨ret_i HZ.out.symm, HX3.out.bel⟩
  rw [if_neg (by omega)] at hz
  have ev : (v != 9) = false := by simp [h2]
  clear h2
  by_cases h3 : 6 < c.ord.length
  · rw [if_pos h3] at hz
    have HZ := Lib.hid hz
    have g2 : (6 : Int) < c.ord.length := by omega
    clear hz
    go_enter Tryz.func21, Tryz.ntmps21
    go_wp2_with (first
      | (clear tok0; go_at_call 41; refine (K1.out _ HX0.out.bel).mono ?_; rintro e w1 ⟨rfl, hb⟩; have HX1 := Lib.hid (HX0.out.below hb); obtain ⟨x0, x1, x2, x3, x4, x5, x6⟩ := HX1.out.cells; clear hb; have tok1 : True := trivial)
      | (clear tok1; go_at_call 52; refine (KA1.out _).mono ?_; rintro e w2 ⟨rfl, hb⟩; have HX2 := Lib.hid (HX1.out.below hb); clear x0 x1 x2 x3 x4 x5 x6; obtain ⟨x0, x1, x2, x3, x4, x5, x6⟩ := HX2.out.cells; clear hb; have tok2 : True := trivial)
      | (clear tok2; go_at_call 14; refine (K2.out _ HX2.out.bel).mono ?_; rintro e w3 ⟨rfl, hb⟩; have HX3 := Lib.hid (HX2.out.below hb); clear x0 x1 x2 x3 x4 x5 x6; obtain ⟨x0, x1, x2, x3, x4, x5, x6⟩ := HX3.out.cells; clear hb; have tok3 : True := trivial))
    go_ret
    exact ⟨ret_i HZ.out.symm, HX3.out.bel⟩
  rw [if_neg h3] at hz
  have g2 : ¬ (6 : Int) < c.ord.length := by omega
  have HZ := Lib.hid hz
  clear hz
  go_enter Tryz.func21, Tryz.ntmps21
  go_wp2_with (first
    | (clear tok0; go_at_call 41; refine (K1.out _ HX0.out.bel).mono ?_; rintro e w1 ⟨rfl, hb⟩; have HX1 := Lib.hid (HX0.out.below hb); obtain ⟨x0, x1, x2, x3, x4, x5, x6⟩ := HX1.out.cells; clear hb; have tok1 : True := trivial)
    | (clear tok1; go_at_call 52; refine (KA1.out _).mono ?_; rintro e w2 ⟨rfl, hb⟩; have HX2 := Lib.hid (HX1.out.below hb); clear x0 x1 x2 x3 x4 x5 x6; obtain ⟨x0, x1, x2, x3, x4, x5, x6⟩ := HX2.out.cells; clear hb; have tok2 : True := trivial)
    | (clear tok2; go_at_call 14; refine (K2.out _ HX2.out.bel).mono ?_; rintro e w3 ⟨rfl, hb⟩; have HX3 := Lib.hid (HX2.out.below hb); clear x0 x1 x2 x3 x4 x5 x6; obtain ⟨x0, x1, x2, x3, x4, x5, x6⟩ := HX3.out.cells; clear hb; have tok3 : True := trivial)
    | (clear tok3; go_at_call 52; refine (KA2.out _).mono ?_; rintro e w4 ⟨rfl, hb⟩; have HX4 := Lib.hid (HX3.out.below hb); clear x0 x1 x2 x3 x4 x5 x6; obtain ⟨x0, x1, x2, x3, x4, x5, x6⟩ := HX4.out.cells; clear hb; have tok4 : True := trivial)
    | (clear tok4; go_at_call 14; refine (K3.out _ HX4.out.bel).mono ?_; rintro e w5 ⟨rfl, hb⟩; have HX5 := Lib.hid (HX4.out.below hb); clear x0 x1 x2 x3 x4 x5 x6; obtain ⟨x0, x1, x2, x3, x4, x5, x6⟩ := HX5.out.cells; clear hb; have tok5 : True := trivial))
  go_ret
  exact ⟨ret_i HZ.out.symm, HX5.out.bel⟩
set_option maxRecDepth 100000 in
set_option maxHeartbeats 1000000 in
theorem r45_Check (c : Chs) (bv wv pv ov : Value) (w : World) (h : ChAt w (· < w.heap.size) bv wv pv ov c) :
    Calls Tryz.prog 22 #[chV c bv wv pv ov] w fun e w' => e = .returned (.int .i64 (checkOr c)) ∧ Below w.heap.size w w' := by
  unfold chV
  obtain ⟨A, ca, rfl, hc1, hc2⟩ := h.mdl.bat.shape
  obtain ⟨A1, ca1, rfl, hc3, hc4⟩ := h.mdl.bow.shape
  obtain ⟨A2, ca2, rfl, hc5, hc6⟩ := h.bow.shape
  obtain ⟨A3, ca3, rfl, hc7, hc8⟩ := h.ord.shape
  have HX0 := Lib.hid (OTB.new w c (.slice A c.mdl.bats.length ca) (.slice A1 c.mdl.bows.length ca1) (.slice A2 c.bows.length ca2) (.slice A3 c.ord.length ca3))
  have HM := Lib.hid h
  obtain ⟨z, hz⟩ : ∃ z, z = checkOr c := ⟨_, rfl⟩
  rw [← hz]
  unfold checkOr at hz
  have k1 := fun W (hW : Below w.heap.size w W) => r_Check c.mdl _ _ W (HM.out.below hW).mdl
  have k2 := fun (g : Nat) W (hW : Below w.heap.size w W) (hl : Sl 1 elInt W (· < W.heap.size) (.slice (some ⟨g, 0, none⟩) 2 2) [0, 0]) => r44_Check (setC c [0, 0]) (.slice A c.mdl.bats.length ca) (.slice A1 c.mdl.bows.length ca1) (.slice A2 c.bows.length ca2) (.slice (some ⟨g, 0, none⟩) 2 2) W ⟨(HM.out.below hW).mdl, (HM.out.below hW).bow, hl⟩
  have ka1 := fun (g : Nat) W => r45_of c A A1 A2 A3 (some ⟨g, 0, none⟩) c.mdl.bats.length c.mdl.bows.length c.bows.length c.ord.length 2 ca ca1 ca2 ca3 2 W
  have k3 := fun W (hW : Below w.heap.size w W) => r44_Check c _ _ _ _ W (HM.out.below hW)
  have ka2 := fun W => r45_of c A A1 A2 A3 A3 c.mdl.bats.length c.mdl.bows.length c.bows.length c.ord.length c.ord.length ca ca1 ca2 ca3 ca3 W
  unfold chV at k2 k3
  have e3 : (setC c [0, 0]).over = c.over ∧ (setC c [0, 0]).done = c.done ∧ (setC c [0, 0]).need = c.need := ⟨rfl, rfl, rfl⟩
  rw [e3.1, e3.2.1, e3.2.2] at k2
  obtain ⟨u, hu⟩ : ∃ u, u = checkM c.mdl := ⟨_, rfl⟩
  obtain ⟨v, hv⟩ : ∃ u, u = checkC (setC c [0, 0]) := ⟨_, rfl⟩
  obtain ⟨q, hq⟩ : ∃ u, u = checkC c := ⟨_, rfl⟩
  rw [← hu] at k1 hz
  rw [← hv] at k2 hz
  rw [← hq] at k3 hz
  have K1 := Lib.hid k1
  have K2 := Lib.hid k2
  have K3 := Lib.hid k3
  have KA1 := Lib.hid ka1
  have KA2 := Lib.hid ka2
  have tok0 : True := trivial
  clear k1 k2 k3 ka1 ka2 hu hv hq h HM e3
  by_cases h0 : u = 0
  case neg =>
    rw [if_pos h0] at hz
    have HZ := Lib.hid hz
    have eu : (u != 0) = true := by simp [h0]
    clear hz h0
    go_enter Tryz.func22, Tryz.ntmps22
    go_wp2_with (clear tok0; go_at_call 53; refine (K1.out _ HX0.out.bel).mono ?_; rintro e w1 ⟨rfl, hb⟩; have HX1 := Lib.hid (HX0.out.below hb); obtain ⟨x0, x1, x2, x3, x4, x5, x6⟩ := HX1.out.cells; clear hb; have tok1 : True := trivial)
    go_ret
    exact ⟨ret_i HZ.out.symm, HX1.out.bel⟩
  have eu : (u != 0) = false := by simp [h0]
  rw [if_neg (by omega)] at hz
  clear h0
  by_cases h1 : 8 < c.bows.length
  · rw [if_pos h1] at hz
    have HZ := Lib.hid hz
    have g1 : (8 : Int) < c.bows.length := by omega
    clear hz
    go_enter Tryz.func22, Tryz.ntmps22
    go_wp2_with (clear tok0; go_at_call 53; refine (K1.out _ HX0.out.bel).mono ?_; rintro e w1 ⟨rfl, hb⟩; have HX1 := Lib.hid (HX0.out.below hb); obtain ⟨x0, x1, x2, x3, x4, x5, x6⟩ := HX1.out.cells; clear hb; have tok1 : True := trivial)
    go_ret
    exact ⟨ret_i HZ.out.symm, HX1.out.bel⟩
  rw [if_neg h1] at hz
  have g1 : ¬ (8 : Int) < c.bows.length := by omega
  by_cases h2 : v = 7
  case neg =>
    rw [if_pos h2] at hz
    have HZ := Lib.hid hz
    have ev : (v != 7) = true := by simp [h2]
    clear hz h2
    go_enter Tryz.func22, Tryz.ntmps22
    go_wp2_with (first
      | (clear tok0; go_at_call 53; refine (K1.out _ HX0.out.bel).mono ?_; rintro e w1 ⟨rfl, hb⟩; have HX1 := Lib.hid (HX0.out.below hb); obtain ⟨x0, x1, x2, x3, x4, x5, x6⟩ := HX1.out.cells; clear hb; have tok1 : True := trivial)
      | (clear tok1; go_at_call 55; refine (KA1.out _ _).mono ?_; rintro e w2 ⟨rfl, hb⟩; have HI2 := Lib.hid ((two_zeros w1).keep (G := (· < w2.heap.size)) elInt_good (Same.of_below hb) fun b h => Nat.lt_of_lt_of_le h hb.size); have HX2 := Lib.hid ((HX1.out.alloc (.cells #[.int .i64 0, .int .i64 0] 3)).below hb); clear x0 x1 x2 x3 x4 x5 x6; obtain ⟨x0, x1, x2, x3, x4, x5, x6⟩ := HX2.out.cells; clear hb; have tok2 : True := trivial)
      | (clear tok2; go_at_call 54; refine (K2.out _ _ HX2.out.bel HI2.out).mono ?_; rintro e w3 ⟨rfl, hb⟩; have HX3 := Lib.hid (HX2.out.below hb); clear x0 x1 x2 x3 x4 x5 x6; obtain ⟨x0, x1, x2, x3, x4, x5, x6⟩ := HX3.out.cells; clear hb; have tok3 : True := trivial))
    go_ret
    exact ⟨ret_i HZ.out.symm, HX3.out.bel⟩
  rw [if_neg (by omega)] at hz
  have ev : (v != 7) = false := by simp [h2]
  clear h2
  by_cases h3 : 6 < c.ord.length
  · rw [if_pos h3] at hz
    have HZ := Lib.hid hz
    have g2 : (6 : Int) < c.ord.length := by omega
    clear hz
    go_enter Tryz.func22, Tryz.ntmps22
    go_wp2_with (first
      | (clear tok0; go_at_call 53; refine (K1.out _ HX0.out.bel).mono ?_; rintro e w1 ⟨rfl, hb⟩; have HX1 := Lib.hid (HX0.out.below hb); obtain ⟨x0, x1, x2, x3, x4, x5, x6⟩ := HX1.out.cells; clear hb; have tok1 : True := trivial)
      | (clear tok1; go_at_call 55; refine (KA1.out _ _).mono ?_; rintro e w2 ⟨rfl, hb⟩; have HI2 := Lib.hid ((two_zeros w1).keep (G := (· < w2.heap.size)) elInt_good (Same.of_below hb) fun b h => Nat.lt_of_lt_of_le h hb.size); have HX2 := Lib.hid ((HX1.out.alloc (.cells #[.int .i64 0, .int .i64 0] 3)).below hb); clear x0 x1 x2 x3 x4 x5 x6; obtain ⟨x0, x1, x2, x3, x4, x5, x6⟩ := HX2.out.cells; clear hb; have tok2 : True := trivial)
      | (clear tok2; go_at_call 54; refine (K2.out _ _ HX2.out.bel HI2.out).mono ?_; rintro e w3 ⟨rfl, hb⟩; have HX3 := Lib.hid (HX2.out.below hb); clear x0 x1 x2 x3 x4 x5 x6; obtain ⟨x0, x1, x2, x3, x4, x5, x6⟩ := HX3.out.cells; clear hb; have tok3 : True := trivial))
    go_ret
    exact ⟨ret_i HZ.out.symm, HX3.out.bel⟩
  rw [if_neg h3] at hz
  have g2 : ¬ (6 : Int) < c.ord.length := by omega
  have HZ := Lib.hid hz
  clear hz
  go_enter Tryz.func22, Tryz.ntmps22
  go_wp2_with (first
    | (clear tok0; go_at_call 53; refine (K1.out _ HX0.out.bel).mono ?_; rintro e w1 ⟨rfl, hb⟩; have HX1 := Lib.hid (HX0.out.below hb); obtain ⟨x0, x1, x2, x3, x4, x5, x6⟩ := HX1.out.cells; clear hb; have tok1 : True := trivial)
    | (clear tok1; go_at_call 55; refine (KA1.out _ _).mono ?_; rintro e w2 ⟨rfl, hb⟩; have HI2 := Lib.hid ((two_zeros w1).keep (G := (· < w2.heap.size)) elInt_good (Same.of_below hb) fun b h => Nat.lt_of_lt_of_le h hb.size); have HX2 := Lib.hid ((HX1.out.alloc (.cells #[.int .i64 0, .int .i64 0] 3)).below hb); clear x0 x1 x2 x3 x4 x5 x6; obtain ⟨x0, x1, x2, x3, x4, x5, x6⟩ := HX2.out.cells; clear hb; have tok2 : True := trivial)
    | (clear tok2; go_at_call 54; refine (K2.out _ _ HX2.out.bel HI2.out).mono ?_; rintro e w3 ⟨rfl, hb⟩; have HX3 := Lib.hid (HX2.out.below hb); clear x0 x1 x2 x3 x4 x5 x6; obtain ⟨x0, x1, x2, x3, x4, x5, x6⟩ := HX3.out.cells; clear hb; have tok3 : True := trivial)
    | (clear tok3; go_at_call 55; refine (KA2.out _).mono ?_; rintro e w4 ⟨rfl, hb⟩; have HX4 := Lib.hid (HX3.out.below hb); clear x0 x1 x2 x3 x4 x5 x6; obtain ⟨x0, x1, x2, x3, x4, x5, x6⟩ := HX4.out.cells; clear hb; have tok4 : True := trivial)
    | (clear tok4; go_at_call 54; refine (K3.out _ HX4.out.bel).mono ?_; rintro e w5 ⟨rfl, hb⟩; have HX5 := Lib.hid (HX4.out.below hb); clear x0 x1 x2 x3 x4 x5 x6; obtain ⟨x0, x1, x2, x3, x4, x5, x6⟩ := HX5.out.cells; clear hb; have tok5 : True := trivial))
  go_ret
  exact ⟨ret_i HZ.out.symm, HX5.out.bel⟩
end Go.Proofs.YtfnfbojaiikigaaGreatDoor

namespace Go.Proofs.YtfnfbojaiikigaaGreatDoor
open Go.ChangeShapes Go.WideShapes Go.ChangeAt Go.RowKit

theorem okWide_arr {P : Program} {w : World} {r : Reach} {base : Nat} {t e : TypeId} {n : Nat} {v : Value} (ht : P.underlying t = some (.array n e)) (h : Value.okWide P w r base t v) : ∃ cs, v = .agg cs ∧ cs.size = P.cellsOf t := by
  simp only [Value.okWide, ht] at h
  obtain ⟨cs, h1, h2, _⟩ := h
  exact ⟨cs, h1, h2⟩
theorem cellsAr3 : Tryz.prog.cellsOf 29 = 3 := by kernel_rfl
theorem cellsU8 : Tryz.prog.cellsOf 5 = 1 := by kernel_rfl
theorem cellsTsk : Tryz.prog.cellsOf 50 = 7 := by kernel_rfl
theorem cellsOst : Tryz.prog.cellsOf 53 = 5 := by kernel_rfl
theorem cellsU16 : Tryz.prog.cellsOf 51 = 1 := by kernel_rfl
section
variable {H : Type} {enc : TypeId × Value → H} {W : World}
set_option maxRecDepth 100000 in
/-- An array of three bytes that came in. -/
theorem open_ar3 {r : Reach} {b0 : Nat} {v : Value} {d : DataW H} {p : List MemPlace} (hv : Value.okWide Tryz.prog W r b0 29 v) (h : DataW.Trod enc Tryz.prog W 0 (fun _ => true) true 29 v d p) :
    ∃ k0 k1 k2 : Int, v = .agg #[.int .u8 k0, .int .u8 k1, .int .u8 k2] ∧ (0 ≤ k0 ∧ k0 ≤ 255) ∧ (0 ≤ k1 ∧ k1 ≤ 255) ∧ (0 ≤ k2 ∧ k2 ≤ 255) := by
  obtain ⟨cs, rfl, hsz⟩ := okWide_arr Tryz.underlying29 hv
  obtain ⟨fuel, hf⟩ := h
  obtain ⟨l⟩ := cs
  match l, hsz.trans cellsAr3 with
  | [c0, c1, c2], _ =>
    obtain ⟨y0, y1, y2, n, _, h0, h1, h2⟩ := trod_array3 Tryz.underlying29 cellsU8 hf
    obtain ⟨a0, e0, _, w0⟩ := DataW.trod_int Tryz.underlying5 h0
    obtain ⟨a1, e1, _, w1⟩ := DataW.trod_int Tryz.underlying5 h1
    obtain ⟨a2, e2, _, w2⟩ := DataW.trod_int Tryz.underlying5 h2
    have g0 : c0 = .int .u8 a0 := by simpa using e0
    have g1 : c1 = .int .u8 a1 := by simpa using e1
    have g2 : c2 = .int .u8 a2 := by simpa using e2
    subst g0 g1 g2
    exact ⟨a0, a1, a2, rfl, bounds_u8 w0, bounds_u8 w1, bounds_u8 w2⟩
theorem bounds_u16 {n : Int} (h : (Lit.int .u16 n).wf = true) : 0 ≤ n ∧ n ≤ 65535 := by
  simp [Lit.wf, IntKind.min, IntKind.max, IntKind.signed, IntKind.bits] at h
  omega
set_option maxRecDepth 100000 in
/-- A task that came in. -/
theorem open_task {r : Reach} {b0 : Nat} {v : Value} {d : DataW H} {p : List MemPlace} (hv : Value.okWide Tryz.prog W r b0 50 v) (h : DataW.Trod enc Tryz.prog W 0 (fun _ => true) true 50 v d p) :
    ∃ (c : Chs) (bv wv pv ov : Value), v = chV c bv wv pv ov ∧ ChAt W (· < W.heap.size) bv wv pv ov c := by
  obtain ⟨cs, rfl, hsz⟩ := okWide_struct Tryz.underlying50 hv
  obtain ⟨fuel, hf⟩ := h
  obtain ⟨l⟩ := cs
  match l, hsz.trans cellsTsk with
  | [c0, c1, c2, c3, c4, c5, c6], _ =>
    obtain ⟨ys, n, _, _, _, hl, hf⟩ := DataW.trod_struct Tryz.underlying50 hf
    match ys, hl with
    | [z0, z1, z2, z3, z4, z5], _ =>
      have k0 := hf 0 _ rfl
      have k1 := hf 1 _ rfl
      have k2 := hf 2 _ rfl
      have k3 := hf 3 _ rfl
      have k4 := hf 4 _ rfl
      have k5 := hf 5 _ rfl
      obtain ⟨m, bv, wv, e0, hm⟩ := mdl_raw k0
      obtain ⟨pv, lp, e1, hp⟩ := sl_raw (size := 1) (el := elInt) Tryz.underlying26 cellsI' (by decide) (fun h => int_one8 h) k1
      obtain ⟨a2, e2, _, _⟩ := DataW.trod_int Tryz.underlying3 k2
      obtain ⟨a3, e3, _, _⟩ := DataW.trod_int Tryz.underlying3 k3
      obtain ⟨a4, e4, _, _⟩ := DataW.trod_int Tryz.underlying3 k4
      obtain ⟨ov, lo, e5, ho⟩ := sl_raw (size := 1) (el := elInt) Tryz.underlying26 cellsI' (by decide) (fun h => int_one8 h) k5
      have g0 : c0 = bv ∧ c1 = wv := by simpa [Value.cells, cellsMdl, cellsI', cellsIs] using e0
      have g2 : c2 = pv := by simpa [Value.cells, cellsMdl, cellsI', cellsIs] using e1
      have g3 : c3 = .int .i64 a2 := by simpa [Value.cells, cellsMdl, cellsI', cellsIs] using e2
      have g4 : c4 = .int .i64 a3 := by simpa [Value.cells, cellsMdl, cellsI', cellsIs] using e3
      have g5 : c5 = .int .i64 a4 := by simpa [Value.cells, cellsMdl, cellsI', cellsIs] using e4
      have g6 : c6 = ov := by simpa [Value.cells, cellsMdl, cellsI', cellsIs] using e5
      obtain ⟨g0, g1⟩ := g0
      subst g0 g1 g2 g3 g4 g5 g6
      exact ⟨⟨m, lp, a2, a3, a4, lo⟩, _, _, _, _, rfl, ⟨hm, hp, ho⟩⟩
set_option maxRecDepth 100000 in
/-- A state of an order that came in. -/
theorem open_ost {r : Reach} {b0 : Nat} {v : Value} {d : DataW H} {p : List MemPlace} (hv : Value.okWide Tryz.prog W r b0 53 v) (h : DataW.Trod enc Tryz.prog W 0 (fun _ => true) true 53 v d p) :
    ∃ s : Ost, v = osV s ∧ 0 ≤ s.wait ∧ s.wait < 65536 := by
  obtain ⟨cs, rfl, hsz⟩ := okWide_struct Tryz.underlying53 hv
  obtain ⟨fuel, hf⟩ := h
  obtain ⟨l⟩ := cs
  match l, hsz.trans cellsOst with
  | [c0, c1, c2, c3, c4], _ =>
    obtain ⟨ys, n, _, _, _, hl, hf⟩ := DataW.trod_struct Tryz.underlying53 hf
    match ys, hl with
    | [z0, z1, z2, z3, z4], _ =>
      obtain ⟨a0, e0, _, _⟩ := DataW.trod_int Tryz.underlying3 (hf 0 _ rfl)
      obtain ⟨a1, e1, _, _⟩ := DataW.trod_int Tryz.underlying3 (hf 1 _ rfl)
      obtain ⟨a2, e2, _, _⟩ := DataW.trod_int Tryz.underlying3 (hf 2 _ rfl)
      obtain ⟨a3, e3, _, _⟩ := DataW.trod_int Tryz.underlying3 (hf 3 _ rfl)
      obtain ⟨a4, e4, _, w4⟩ := DataW.trod_int Tryz.underlying51 (hf 4 _ rfl)
      have w4 := bounds_u16 w4
      have g0 : c0 = .int .i64 a0 := by simpa [Value.cells, cellsI', cellsU16] using e0
      have g1 : c1 = .int .i64 a1 := by simpa [Value.cells, cellsI', cellsU16] using e1
      have g2 : c2 = .int .i64 a2 := by simpa [Value.cells, cellsI', cellsU16] using e2
      have g3 : c3 = .int .i64 a3 := by simpa [Value.cells, cellsI', cellsU16] using e3
      have g4 : c4 = .int .u16 a4 := by simpa [Value.cells, cellsI', cellsU16] using e4
      subst g0 g1 g2 g3 g4
      exact ⟨⟨a0, a1, a2, a3, a4⟩, rfl, w4.1, by have := w4.2; show a4 < 65536; omega⟩
end
end Go.Proofs.YtfnfbojaiikigaaGreatDoor
