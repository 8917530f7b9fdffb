/- The contract of chance.Norm. No conditions but that the list can be read. -/
import Derived.Test.YtfnfbojaiikigaaGreatDoorJ1
import Derived.Test.YtfnfbojaiikigaaGreatDoorH4
import Derived.Deep.RegionHeld3
set_option linter.unusedSimpArgs false
set_option linter.unusedVariables false
namespace Go.Proofs.YtfnfbojaiikigaaGreatDoor
open Go.RowKit

theorem badN_ways (o : Otc) : (badN o = true ∧ ((decide (o.runs < 0) = true) ∨ (decide (o.runs < 0) = false ∧ decide (7 < o.runs) = true) ∨ (decide (o.runs < 0) = false ∧ decide (7 < o.runs) = false ∧ decide (o.wt < 0) = true) ∨ (decide (o.runs < 0) = false ∧ decide (7 < o.runs) = false ∧ decide (o.wt < 0) = false ∧ decide (16 < o.wt) = true)))
    ∨ (badN o = false ∧ decide (o.runs < 0) = false ∧ decide (7 < o.runs) = false ∧ decide (o.wt < 0) = false ∧ decide (16 < o.wt) = false) := by
  unfold badN
  cases decide (o.runs < 0) <;> cases decide (7 < o.runs) <;> cases decide (o.wt < 0) <;> cases decide (16 < o.wt) <;> simp
theorem norm_long {d : List Otc} (h : 64 < d.length) : normS d = ([], 9) := by unfold normS; rw [if_pos h]
theorem norm_bad {d : List Otc} (h : ¬ 64 < d.length) {o : Otc} (ho : o ∈ d) (hb : badN o = true) : normS d = ([], 2) := by
  unfold normS; rw [if_neg h, if_pos (List.any_eq_true.2 ⟨o, ho, hb⟩)]
theorem any_good {d : List Otc} (ho : ∀ o ∈ d, badN o = false) : ¬ d.any badN = true := fun h => by
  obtain ⟨o, hx, hb⟩ := List.any_eq_true.1 h
  rw [ho o hx] at hb; cases hb
theorem norm_sum {d : List Otc} (h : ¬ 64 < d.length) (ho : ∀ o ∈ d, badN o = false) (hs : sumI (d.map (·.wt)) ≠ 16) : normS d = ([], 12) := by
  unfold normS; rw [if_neg h, if_neg (any_good ho), if_pos hs]
theorem norm_fine {d : List Otc} (h : ¬ 64 < d.length) (ho : ∀ o ∈ d, badN o = false) (hs : sumI (d.map (·.wt)) = 16) : normS d = (canon (wAt d), 0) := by
  unfold normS; rw [if_neg h, if_neg (any_good ho), if_neg (by omega)]
theorem take_good {d : List Otc} {k : Nat} (hk : k < d.length) (h : ∀ o ∈ d.take k, badN o = false) (h1 : badN d[k] = false) : ∀ o ∈ d.take (k + 1), badN o = false := by
  intro o ho
  rw [List.take_add_one, List.getElem?_eq_getElem hk, List.mem_append] at ho
  rcases ho with ho | ho
  · exact h o ho
  · simp at ho; rw [ho]; exact h1
theorem otc_nil {w w' : World} {n : Int} (hb : Below w.heap.size w w') {z : List Otc × Int} (hz : z = ([], n)) : OtcPost w z (.returned (.tuple #[.slice none 0 0, .int .i64 n])) w' := by
  subst hz; exact ⟨_, rfl, Sl.nil _ _, hb⟩
theorem sorted_keys {l : List Otc} (ho : ∀ o ∈ l, badN o = false) (h : l.Pairwise fun a b => befB b a = false) : l.Pairwise fun a b => keyO a ≤ keyO b := by
  rw [List.pairwise_iff_getElem] at h ⊢
  intro i j hi hj hij
  have h1 := h i j hi hj hij
  have hai := (badN_no (ho _ (List.getElem_mem hi))).r0
  have haj := (badN_no (ho _ (List.getElem_mem hj))).r0
  rw [bef_key haj hai, decide_eq_false_iff_not] at h1
  omega
theorem merge_skip {out l : List Otc} {o : Otc} (h : o.wt = 0) : mergeF out (o :: l) = mergeF out l := by rw [mergeF, if_pos h]
theorem merge_first {l : List Otc} {o : Otc} (h : o.wt ≠ 0) : mergeF [] (o :: l) = mergeF [o] l := by rw [mergeF, if_neg h]; rfl
theorem merge_new {out l : List Otc} {o p : Otc} {k : Nat} (hk : out.length = k + 1) (hp : out[k]? = some p) (h : o.wt ≠ 0) (ho : ordS p o ≠ 0) : mergeF out (o :: l) = mergeF (out ++ [o]) l := by
  have e : out.getLast? = some p := by rw [List.getLast?_eq_getElem?, show out.length - 1 = k from by omega, hp]
  rw [mergeF, if_neg h, e]
  simp only [ho, if_false]
theorem merge_same {out l : List Otc} {o p : Otc} {k : Nat} (hk : out.length = k + 1) (hp : out[k]? = some p) (h : o.wt ≠ 0) (ho : ordS p o = 0) :
    mergeF out (o :: l) = mergeF (out.set k { p with wt := p.wt + o.wt }) l := by
  have e : out.getLast? = some p := by rw [List.getLast?_eq_getElem?, show out.length - 1 = k from by omega, hp]
  have e2 : ∀ x, out.dropLast ++ [x] = out.set k x := fun x => by
    rw [List.dropLast_eq_take, show out.length - 1 = k from by omega, List.set_eq_take_append_cons_drop, if_pos (by omega), List.drop_of_length_le (by omega)]
  rw [mergeF, if_neg h, e]
  simp only [ho, if_true]
  rw [e2]
/-- While the sorted list is merged: it lies in block g; the row of those that are out is younger. -/
structure Mg (w : World) (g : Nat) (B2 : Nat) (sv : Value) (l : List Otc) (W : World) (ov : Value) (out : List Otc) : Prop where
  bel : Below w.heap.size w W
  hg : w.heap.size ≤ g ∧ g < B2
  hB : B2 ≤ W.heap.size
  so : Sl 3 elOtc W (fun b => b = g) sv l
  own : OwnSl 3 elOtc 46 B2 W ov out
section
variable {w W W' : World} {g B2 : Nat} {sv ov : Value} {l out : List Otc}
theorem Mg.below (h : Mg w g B2 sv l W ov out) (hb : Below W.heap.size W W') : Mg w g B2 sv l W' ov out :=
  ⟨h.bel.trans (hb.mono h.bel.size), h.hg, Nat.le_trans h.hB hb.size, h.so.keep elOtc_good (Same.below hb fun b (hx : b = g) => by have := h.hg; have := h.hB; omega) fun _ h => h, h.own.below elOtc_good hb⟩
theorem Mg.out_at {A : Option Addr} {n c k : Nat} (h : Mg w g B2 sv l W (.slice A n c) out) (hk : k < out.length) : ∃ g2, A = some ⟨g2, 0, none⟩ ∧ n = out.length ∧ B2 ≤ g2 ∧ g2 < W.heap.size ∧ W.cell? ⟨g2, k * 3, none⟩ = some (.int .i64 out[k].runs) ∧ W.cell? ⟨g2, k * 3 + 1, none⟩ = some (.bool out[k].wick) ∧ W.cell? ⟨g2, k * 3 + 2, none⟩ = some (.int .i64 out[k].wt) ∧ W.frozen? ⟨g2, k * 3 + 2, none⟩ = false := by
  have hs := h.own.sl elOtc_good
  obtain ⟨A', c', hv, _⟩ := hs.shape
  injection hv with e1 e2 e3
  obtain ⟨b, o, rfl, hF, y0, y1, y2⟩ := otc_at (e1 ▸ e2 ▸ hs) hk
  obtain ⟨css, h1, h2, h3, h4⟩ := h.own
  rcases h2.2 with ⟨hv, hn⟩ | ⟨g', cap', cur, hv, _⟩
  · exfalso; omega
  · simp only [Value.slice.injEq, Option.some.injEq, Addr.mk.injEq] at hv
    obtain ⟨⟨rfl, rfl, _⟩, _⟩ := hv
    simp only [Option.some.injEq, Addr.mk.injEq, and_true] at e1
    obtain ⟨rfl, rfl⟩ := e1
    rw [Nat.zero_add] at y0 y1 y2
    subst e2
    exact ⟨_, rfl, rfl, hF.1, hF.2, y0, y1, y2, h2.frozenAt _⟩
theorem Mg.at2 {g2 n c k : Nat} (h : Mg w g B2 sv l W (.slice (some ⟨g2, 0, none⟩) n c) out) (hk : k < out.length) : W.cell? ⟨g2, k * 3, none⟩ = some (.int .i64 out[k].runs) ∧ W.cell? ⟨g2, k * 3 + 1, none⟩ = some (.bool out[k].wick) ∧ W.cell? ⟨g2, k * 3 + 2, none⟩ = some (.int .i64 out[k].wt) ∧ W.frozen? ⟨g2, k * 3 + 2, none⟩ = false := by
  obtain ⟨g', e, _, _, _, h1⟩ := h.out_at hk
  simp only [Option.some.injEq, Addr.mk.injEq, and_true] at e
  subst e
  exact h1
theorem Mg.put {g2 n c k : Nat} (h : Mg w g B2 sv l W (.slice (some ⟨g2, 0, none⟩) n c) out) (hk : k < out.length) (x : Int) : Mg w g B2 sv l (W.setCell ⟨g2, k * 3 + 2, none⟩ (.int .i64 x)) (.slice (some ⟨g2, 0, none⟩) n c) (out.set k { out[k] with wt := x }) := by
  have hb := h.own.block g2 rfl
  have hg := h.hg
  have ho := (Only.refl g2 W).setCell (p := ⟨g2, k * 3 + 2, none⟩) (.inl rfl) (.int .i64 x)
  have hB := h.hB
  refine ⟨h.bel.setCell (by show w.heap.size ≤ g2; omega) _, h.hg, by simp; omega, h.so.keep elOtc_good (ho.same fun b (hx : b = g) => ⟨by omega, by omega⟩) fun _ h => h, ?_⟩
  exact OwnG.put h.own (fun _ _ _ h => h) hk (show 2 < 3 by decide) (.int .i64 x) { out[k] with wt := x } fun c9 w9 h9 => by rw [show c9 = _ from h9]; rfl
theorem Mg.app {v' : Value} {o : Otc} (h : Mg w g B2 sv l W ov out) (hown : OwnSl 3 elOtc 46 B2 W' v' (out ++ [o])) (hg : W.grownBy W' ov.ownBlock) : Mg w g B2 sv l W' v' (out ++ [o]) := by
  have hgg := h.hg
  have hB := h.hB
  refine ⟨below_own h.bel h.own hg (by omega) h.hB, h.hg, Nat.le_trans h.hB hg.size, h.so.keep elOtc_good (Same.grown hg fun b (hx : b = g) => ⟨by omega, fun e => ?_⟩) fun _ h => h, hown⟩
  have := h.own.block b e.symm
  omega
end
theorem own_len {W : World} {B : Nat} {ov : Value} {out : List Otc} (h : OwnSl 3 elOtc 46 B W ov out) : ∃ A c, ov = .slice A out.length c := by
  obtain ⟨A, c, hv, _⟩ := (h.sl elOtc_good).shape
  exact ⟨A, c, hv⟩
theorem room1 {k n : Nat} (h : n ≤ k) (hk : k < 1000) : n + 1 ≤ maxLen ∧ (n + 1) * 24 ≤ 140737488355328 := by simp only [maxLen]; omega
theorem base1 {B : Nat} {W : World} (h : B ≤ W.heap.size) (o : Obj) : B ≤ (W.alloc o).heap.size := by simp; omega
theorem own_some {W : World} {B n c : Nat} {A : Option Addr} {out : List Otc} (h : OwnSl 3 elOtc 46 B W (.slice A n c) out) (h0 : 0 < out.length) : ∃ g, A = some ⟨g, 0, none⟩ := by
  obtain ⟨css, h1, h2, h3, h4⟩ := h
  rcases h2.2 with ⟨hv, hn⟩ | ⟨g', cap', cur, hv, _⟩
  · omega
  · injection hv with e1 _ _; exact ⟨g', e1⟩
set_option maxRecDepth 100000 in
set_option maxHeartbeats 4000000 in
theorem ch_Norm (d : List Otc) (v : Value) (w : World) (h : Sl 3 elOtc w (· < w.heap.size) v d) : Calls Tryz.prog 128 #[v] w (OtcPost w (normS d)) := by
  obtain ⟨z, hz⟩ : ∃ z, z = normS d := ⟨_, rfl⟩
  rw [← hz]
  obtain ⟨A, c, rfl, hc, hc2⟩ := h.shape
  by_cases h64 : 64 < d.length
  · rw [norm_long h64] at hz
    have e64 : (64 : Int) < (d.length : Int) := by omega
    have HZ := Lib.hid hz
    clear hz h h64
    go_enter Tryz.func128, Tryz.ntmps128
    go_wp2
    go_ret2
    exact otc_nil (Below.refl _ _) HZ.out
  · have e64 : (d.length : Int) ≤ 64 := by omega
    have HZ := Lib.hid hz
    have H := Lib.hid h
    have HN := Lib.hid h64
    clear hz h h64
    go_enter Tryz.func128, Tryz.ntmps128
    go_wp2
    go_loopw [4, 17] (fun sv i wr => ∃ (k : Nat) (s : Int), k ≤ d.length ∧ i = .int .i64 k ∧ sv = .int .i64 s ∧ 0 ≤ s ∧ s ≤ 16 * k ∧ Below w.heap.size w wr ∧ Hid (s = sumI ((d.take k).map (·.wt))) ∧ Hid (∀ o ∈ d.take k, badN o = false))
      (fun _ i _ => d.length - (intOf i).toNat)
    case atStart => exact ⟨0, 0, Nat.zero_le _, rfl, rfl, by omega, by omega, Below.refl _ _, Lib.hid rfl, Lib.hid (by simp)⟩
    case round =>
      obtain ⟨k, s, hk, rfl, rfl, hs0, hs1, hb, hss, hgd⟩ := hrel
      have HB := Lib.hid hb
      by_cases hlt : k < d.length
      · obtain ⟨b, o, rfl, hbl, y0', y1', y2'⟩ := otc_at H.out hlt
        have hst := sumI_map_take (f := fun o : Otc => o.wt) hlt
        rw [← hss.out] at hst
        have hgt := fun h1 => take_good hlt hgd.out h1
        have hbt := fun h1 => norm_bad HN.out (List.getElem_mem hlt) h1
        obtain ⟨⟨pr, pw, pt⟩, hp⟩ : ∃ p, p = d[k] := ⟨_, rfl⟩
        rw [← hp] at y0' y1' y2' hst hgt hbt
        have y0 := (hb.cell (p := ⟨b, o + k * 3, none⟩) hbl).trans y0'
        have y1 := (hb.cell (p := ⟨b, o + k * 3 + 1, none⟩) hbl).trans y1'
        have y2 := (hb.cell (p := ⟨b, o + k * 3 + 2, none⟩) hbl).trans y2'
        dsimp only at y0 y1 y2 hst
        rcases badN_ways ⟨pr, pw, pt⟩ with ⟨hB, hw⟩ | ⟨hB, e1, e2, e3, e4⟩
        · have hz2 : z = ([], 2) := by rw [HZ.out, hbt hB]
          have HZZ := Lib.hid hz2
          clear hb hss hgd hp hst hgt hbt y0' y1' y2' hz2 hB
          rcases hw with e1 | ⟨e1, e2⟩ | ⟨e1, e2, e3⟩ | ⟨e1, e2, e3, e4⟩
          all_goals
            dsimp only at *
            go_wp2
            go_ret2
            exact otc_nil (Below.alloc HB.out HB.out.size _) HZZ.out
        · have hok := badN_no hB
          have hw0 := hok.w0
          have hw16 := hok.w16
          dsimp only at e1 e2 e3 e4 hw0 hw16
          have HST := Lib.hid hst.symm
          have HGT := Lib.hid (hgt hB)
          clear hb hss hgd hp hst hgt hbt y0' y1' y2' hB hok
          go_wp2
          go_roundw
          case rel => exact ⟨k + 1, _, by omega, by go_num, rfl, by omega, by push_cast; omega, Below.alloc HB.out HB.out.size _, HST, HGT⟩
          case measure => simp [intOf]; omega
      · obtain rfl : k = d.length := by omega
        have hs2 := hss.out
        have hg2 := hgd.out
        rw [List.take_of_length_le (Nat.le_refl _)] at hs2 hg2
        by_cases h16 : s = 16
        · have hz2 := HZ.out
          rw [norm_fine HN.out hg2 (by rw [← hs2]; exact h16)] at hz2
          have hne : d ≠ [] := fun e => by rw [e] at hs2; rw [h16] at hs2; simp [sumI_nil] at hs2
          have hlen : d.length ≤ 1000 := by omega
          have hsl := H.out.keep elOtc_good (Same.of_below hb) (G := (· < w.heap.size)) fun _ h => h
          have kc := otc_Clone d _ (· < w.heap.size) wr hsl (fun b hx => Nat.lt_of_lt_of_le hx hb.size) hlen
          have ks := fun B g cap W (h : OwnSl 3 elOtc 46 B W (.slice (some ⟨g, 0, none⟩) d.length cap) d) => otc_Sort d B g cap W h hlen
          have hmerge : ∀ l : List Otc, l.Perm d → (l.Pairwise fun a b => befB b a = false) → mergeF [] l = canon (wAt d) ∧ ∀ o ∈ l, badN o = false := fun l hp hw => by
            have ho : ∀ o ∈ l, badN o = false := fun o hx => hg2 o (hp.mem_iff.1 hx)
            exact ⟨merge_norm hp (fun o hx => badN_no (hg2 o hx)) (sorted_keys ho hw), ho⟩
          have HZZ := Lib.hid hz2
          have KC := Lib.hid kc
          have KS := Lib.hid ks
          have HM := Lib.hid hmerge
          have hpos : 0 < d.length := List.length_pos_iff.2 hne
          have tok0 : True := trivial
          subst h16
          clear hb hss hgd hs2 hg2 hz2 hne hlen hsl kc ks hmerge hs0 hs1 HZ
          go_wp2_with (first
            | (clear tok0; go_at_call 155; refine KC.out.mono ?_; rintro e w2 ⟨A2, c2, rfl, ho2, hb2⟩; obtain ⟨g, rfl⟩ := own_some ho2 hpos; have HO2 := Lib.hid ho2; have HB2 := Lib.hid (HB.out.trans (hb2.mono HB.out.size)); have hgb := ho2.block g rfl; have HGB := Lib.hid (show w.heap.size ≤ g ∧ g < w2.heap.size from ⟨Nat.le_trans HB.out.size hgb.1, hgb.2⟩); clear ho2 hb2 hgb; have tok1 : True := trivial)
            | (clear tok1; go_at_call 156; refine (KS.out _ _ _ _ HO2.out).mono ?_; rintro e w3 ⟨rfl, l, hp3, hl3, hw3, hs3, ho3⟩; have HP3 := Lib.hid hp3; have HL3 := Lib.hid hl3; have HW3 := Lib.hid hw3; have HS3 := Lib.hid hs3; have HB3 := Lib.hid (HB2.out.trans (ho3.below HGB.out.1 HB2.out.size)); have HZ3 := Lib.hid ho3.size; clear hp3 hl3 hw3 hs3 ho3; have tok2 : True := trivial))
          have hmg : Mg w g w3.heap.size (.slice (some ⟨g, 0, none⟩) d.length c2) l w3 (.slice none 0 0) [] := ⟨HB3.out, ⟨HGB.out.1, by have := HGB.out.2; have := HZ3.out; omega⟩, Nat.le_refl _, HS3.out, OwnSl.nil _⟩
          obtain ⟨hm1, hm2⟩ := HM.out l HP3.out HW3.out
          have hlen : d.length = l.length := HL3.out.symm
          have HMG := Lib.hid hmg
          have HM1 : Hid (mergeF [] (l.drop 0) = canon (wAt d)) := Lib.hid hm1
          have HM2 := Lib.hid hm2
          have HLE := Lib.hid hlen
          clear hmg hm1 hm2 HM HP3 HW3 HS3 HB3 HZ3 HO2 HB2 hlen
          go_loopw [8, 52] (fun ov i wx => ∃ (k : Nat) (out : List Otc), k ≤ d.length ∧ i = .int .i64 k ∧ Mg w g w3.heap.size (.slice (some ⟨g, 0, none⟩) d.length c2) l wx ov out ∧ out.length ≤ k ∧ (∀ p ∈ out, 0 ≤ p.wt ∧ p.wt ≤ 16 * k) ∧ Hid (mergeF out (l.drop k) = canon (wAt d)))
            (fun _ i _ => d.length - (intOf i).toNat)
          case atStart => exact ⟨0, [], Nat.zero_le _, rfl, HMG.out, Nat.le_refl _, by simp, HM1⟩
          case round =>
            obtain ⟨k, out, hk, rfl, hmg, hol, how, hmm⟩ := hrel
            obtain ⟨Ao, co, rfl⟩ := own_len hmg.own
            by_cases hlt : k < d.length
            · have hkl : k < l.length := by rw [← HLE.out]; exact hlt
              obtain ⟨b, o, hbo, hbg, y0, y1, y2⟩ := otc_at (show Sl 3 elOtc _ (fun b => b = g) (.slice (some ⟨g, 0, none⟩) d.length c2) l from hmg.so) hkl
              replace hbg := hbg.symm
              subst hbg
              obtain rfl : o = 0 := by simp at hbo; omega
              clear hbo
              have hwt := badN_no (HM2.out _ (List.getElem_mem hkl))
              have hmd := hmm.out
              rw [List.drop_eq_getElem_cons hkl] at hmd
              obtain ⟨⟨pr, pw, pt⟩, hp⟩ : ∃ p, p = l[k] := ⟨_, rfl⟩
              rw [← hp] at y0 y1 y2 hwt hmd
              obtain ⟨hr0, hr7, hw0, hw16⟩ := hwt
              dsimp only at y0 y1 y2 hw0 hw16
              rw [Nat.zero_add] at y0 y1 y2
              have hgw : g < wr.heap.size := by have := hmg.hg; have := hmg.hB; omega
              have hma := hmg.below (Below.alloc (Below.refl _ _) (Nat.le_refl _) (.cells #[.int .i64 pr, .bool pw, .int .i64 pt] 46))
              have HMA := Lib.hid hma
              have HOW := Lib.hid how
              have HOL := Lib.hid hol
              have HK1 := Lib.hid (show k < 1000 from by omega)
              by_cases ht : pt = 0
              · have hmd2 := hmd
                rw [merge_skip (by exact ht)] at hmd2
                have HMD := Lib.hid hmd2
                have et : (pt == 0) = true := by rw [ht]; rfl
                clear hmg hma how hmm hmd hmd2 hp hr0 hr7 hol ht
                go_wp2
                go_roundw
                case rel => exact ⟨k + 1, out, by omega, by go_num, HMA.out, by have := HOL.out; omega, fun p hx => by have := HOW.out p hx; push_cast; omega, HMD⟩
                case measure => simp [intOf]; omega
              · have et : (pt == 0) = false := by simpa using ht
                have HP := Lib.hid (show (⟨pr, pw, pt⟩ : Otc).wt ≠ 0 from ht)
                have hap := fun W' v' (h1 : OwnSl 3 elOtc 46 w3.heap.size W' v' (out ++ [⟨pr, pw, pt⟩])) W (h0 : Mg w g w3.heap.size (.slice (some ⟨g, 0, none⟩) d.length c2) l W (.slice Ao out.length co) out) o (h2 : (W.alloc o).grownBy W' (Value.slice Ao out.length co).ownBlock) => (h0.below (Below.alloc (Below.refl _ _) (Nat.le_refl _) o)).app h1 h2
                have HAP := Lib.hid hap
                have hbd : ∀ p ∈ out ++ [(⟨pr, pw, pt⟩ : Otc)], 0 ≤ p.wt ∧ p.wt ≤ 16 * ((k + 1 : Nat) : Int) := fun p hx => by
                  rcases List.mem_append.1 hx with hx | hx
                  · have := how p hx; push_cast; omega
                  · rw [List.mem_singleton.1 hx]; dsimp only; push_cast; omega
                have HBD := Lib.hid hbd
                rcases Nat.eq_zero_or_pos out.length with h0 | h0
                · have hout : out = [] := List.length_eq_zero_iff.1 h0
                  subst hout
                  rw [merge_first HP.out] at hmd
                  have HMD := Lib.hid hmd
                  have s1 : IntKind.i64.wrap (((List.length ([] : List Otc) : Nat) : Int) - 1) = -1 := by decide
                  clear hmg how hmm hmd hp hr0 hr7 hol hap hma h0 hbd HAP HOW
                  go_wp2
                  go_quiet (fail)
                  have hm4 := HMA.out.below (Below.drewN_ (Below.refl _ _) nq)
                  have hk4 : Blk ((wr.alloc (.cells #[.int .i64 pr, .bool pw, .int .i64 pt] 46)).drewN nq) wr.heap.size 46 #[.int .i64 pr, .bool pw, .int .i64 pt] := (Blk.new wr _ _).below (Below.drewN_ (Below.refl (wr.alloc (.cells #[.int .i64 pr, .bool pw, .int .i64 pt] 46)).heap.size _) nq) (by simp)
                  generalize (wr.alloc (.cells #[.int .i64 pr, .bool pw, .int .i64 pt] 46)).drewN nq = W4 at hm4 hk4 ⊢
                  have HM4 := Lib.hid hm4
                  have HK4 := Lib.hid hk4
                  clear hm4 hk4
                  obtain ⟨c0, c1, c2, _⟩ := Blk.three HK4.out
                  go_wp2_with (at_builtin; refine wpList_append_sl _ rfl (.tmp 83) (.tmp 85) _ rfl E_otc elOtc_good w3.heap.size _ [] rfl (HM4.out.own.alloc elOtc_good _) ⟨W4.heap.size, 0, none⟩ 1 [.int .i64 pr, .bool pw, .int .i64 pt] rfl ⟨pr, pw, pt⟩ rfl (cells_new _ _ _ _) (oneCells rfl) rfl (room1 HOL.out HK1.out).1 (room1 HOL.out HK1.out).2 (base1 HM4.out.hB _) ?_; intro v6 w6 hown6 hg6 hat6; have h6 := (HM4.out.below (Below.alloc (Below.refl _ _) (Nat.le_refl _) (.cells #[.int .i64 pr, .bool pw, .int .i64 pt] 46))).app hown6 hg6; have H6 := Lib.hid h6; clear hown6 hg6 hat6 h6)
                  go_roundw
                  case rel => exact ⟨k + 1, [] ++ [⟨pr, pw, pt⟩], by omega, by go_num, H6.out, by have := HOL.out; rw [List.length_append, List.length_singleton]; omega, HBD.out, HMD⟩
                  case measure => simp [intOf]; omega
                · obtain ⟨m, hm⟩ : ∃ m, out.length = m + 1 := ⟨out.length - 1, by omega⟩
                  have hmo : m < out.length := by omega
                  have hget : out[m]? = some out[m] := List.getElem?_eq_getElem hmo
                  have hqw := how _ (List.getElem_mem hmo)
                  have hma2 := HMA.out.below (Below.drew (Below.refl _ _))
                  obtain ⟨g2, hA2, _, hg2a, hg2b, p0, p1, p2, pf⟩ := hma2.out_at hmo
                  subst hA2
                  have hkd : Blk (wr.alloc (.cells #[.int .i64 pr, .bool pw, .int .i64 pt] 46)).drew wr.heap.size 46 #[.int .i64 pr, .bool pw, .int .i64 pt] := (Blk.new wr _ _).drew
                  have kord := fun W => ch_order out[m] ⟨pr, pw, pt⟩ W
                  have hnew := fun ho => merge_new (l := l.drop (k + 1)) hm hget HP.out ho
                  have hsame := fun ho => merge_same (l := l.drop (k + 1)) hm hget HP.out ho
                  have hput := fun W (h : Mg w g w3.heap.size (.slice (some ⟨g, 0, none⟩) d.length c2) l W (.slice (some ⟨g2, 0, none⟩) out.length co) out) x => h.put hmo x
                  have hset : ∀ x y : Int, 0 ≤ x → x ≤ 16 * ((k + 1 : Nat) : Int) → ∀ p ∈ out.set m { out[m] with wt := x }, 0 ≤ p.wt ∧ p.wt ≤ 16 * ((k + 1 : Nat) : Int) := fun x y h1 h2 p hx => by
                    rcases List.mem_or_eq_of_mem_set hx with hx | hx
                    · have := how p hx; push_cast; omega
                    · rw [hx]; exact ⟨h1, h2⟩
                  have hat := fun W (h : Mg w g w3.heap.size (.slice (some ⟨g, 0, none⟩) d.length c2) l W (.slice (some ⟨g2, 0, none⟩) out.length co) out) => h.at2 hmo
                  obtain ⟨⟨qr, qw, qt⟩, hq⟩ : ∃ q, q = out[m] := ⟨_, rfl⟩
                  rw [← hq] at p0 p1 p2 kord hnew hsame hput hqw hset hat
                  obtain ⟨u, hu⟩ : ∃ u, u = ordS ⟨qr, qw, qt⟩ ⟨pr, pw, pt⟩ := ⟨_, rfl⟩
                  rw [← hu] at kord hnew hsame
                  obtain ⟨hq0, hq1⟩ := hqw
                  dsimp only at p0 p1 p2 hq0 hq1 hput hsame hset hat
                  unfold outV at kord
                  dsimp only at kord
                  have KORD := Lib.hid kord
                  have HMA2 := Lib.hid hma2
                  have HKD := Lib.hid hkd
                  have HPUT := Lib.hid hput
                  have HSET := Lib.hid hset
                  have HAT := Lib.hid hat
                  obtain ⟨c0, c1, c2', _⟩ := Blk.three hkd
                  have s1 : IntKind.i64.wrap ((out.length : Int) - 1) = (m : Int) := by rw [IntWalk.i64_in _ (by omega)]; omega
                  have s4 : (m : Int) < (out.length : Int) := by omega
                  have hkr : wr.heap.size < (wr.alloc (.cells #[.int .i64 pr, .bool pw, .int .i64 pt] 46)).drew.heap.size := by simp
                  have HKR := Lib.hid hkr
                  have HMO := Lib.hid hmo
                  have tok3 : True := trivial
                  clear hma2 hkd kord hput hset hat hkr hget hq hmg how hmm hp hr0 hr7 hol hap hma h0 hbd hm HOW
                  by_cases h0 : u = 0
                  · rw [hsame h0] at hmd
                    have HMD := Lib.hid hmd
                    have eu : (u == 0) = true := by rw [h0]; rfl
                    clear hnew hsame hu h0 hmd pf hmo
                    go_wp2_with fail
                    go_region_held3 (fun w' => w'.cell? ⟨g2, m * 3, none⟩ = some (.int .i64 qr) ∧ w'.cell? ⟨g2, m * 3 + 1, none⟩ = some (.bool qw) ∧ w'.cell? ⟨g2, m * 3 + 2, none⟩ = some (.int .i64 qt) ∧ w'.cell? ⟨wr.heap.size, 0, none⟩ = some (.int .i64 pr) ∧ w'.cell? ⟨wr.heap.size, 1, none⟩ = some (.bool pw) ∧ w'.cell? ⟨wr.heap.size, 2, none⟩ = some (.int .i64 pt))
                      (first | exact ⟨p0, p1, p2, c0, c1, c2'⟩ | go_keep)
                      (first | (clear tok3; go_at_call 120; refine (KORD.out _).mono ?_; rintro e w5 ⟨rfl, hb5⟩; clear p0 p1 p2 c0 c1 c2'; have hm5 := HMA2.out.below hb5; obtain ⟨p0, p1, p2, pf⟩ := HAT.out _ hm5; obtain ⟨c0, c1, c2', _⟩ := Blk.three (HKD.out.below hb5 HKR.out); have HM5 := Lib.hid hm5; clear hm5 hb5))
                    go_wp2_with fail
                    go_region
                    go_wp2_with fail
                    go_roundw
                    case rel => exact ⟨k + 1, _, by omega, by go_num, (HPUT.out _ HM5.out _).below (Below.drew (Below.refl _ _)), by have := HOL.out; rw [List.length_set]; omega, HSET.out _ 0 (by omega) (by push_cast; omega), HMD⟩
                    case measure => simp [intOf]; omega
                  · rw [hnew h0] at hmd
                    have HMD := Lib.hid hmd
                    have eu : (u == 0) = false := by simpa using h0
                    clear hnew hsame hu h0 hmd pf hmo
                    go_wp2_with fail
                    go_region_held3 (fun w' => w'.cell? ⟨g2, m * 3, none⟩ = some (.int .i64 qr) ∧ w'.cell? ⟨g2, m * 3 + 1, none⟩ = some (.bool qw) ∧ w'.cell? ⟨g2, m * 3 + 2, none⟩ = some (.int .i64 qt) ∧ w'.cell? ⟨wr.heap.size, 0, none⟩ = some (.int .i64 pr) ∧ w'.cell? ⟨wr.heap.size, 1, none⟩ = some (.bool pw) ∧ w'.cell? ⟨wr.heap.size, 2, none⟩ = some (.int .i64 pt))
                      (first | exact ⟨p0, p1, p2, c0, c1, c2'⟩ | go_keep)
                      (first | (clear tok3; go_at_call 120; refine (KORD.out _).mono ?_; rintro e w5 ⟨rfl, hb5⟩; clear p0 p1 p2 c0 c1 c2'; have hm5 := HMA2.out.below hb5; obtain ⟨p0, p1, p2, pf⟩ := HAT.out _ hm5; obtain ⟨c0, c1, c2', _⟩ := Blk.three (HKD.out.below hb5 HKR.out); have HM4 := Lib.hid hm5; have HK4 := Lib.hid (HKD.out.below hb5 HKR.out); clear hm5 hb5 pf))
                    obtain ⟨c0, c1, c2, _⟩ := Blk.three HK4.out
                    go_wp2_with (at_builtin; refine wpList_append_sl _ rfl (.tmp 83) (.tmp 85) _ rfl E_otc elOtc_good w3.heap.size _ out rfl (HM4.out.own.alloc elOtc_good _) ⟨w5.heap.size, 0, none⟩ 1 [.int .i64 pr, .bool pw, .int .i64 pt] rfl ⟨pr, pw, pt⟩ rfl (cells_new _ _ _ _) (oneCells rfl) rfl (room1 HOL.out HK1.out).1 (room1 HOL.out HK1.out).2 (base1 HM4.out.hB _) ?_; intro v6 w6 hown6 hg6 hat6; have h6 := (HM4.out.below (Below.alloc (Below.refl _ _) (Nat.le_refl _) (.cells #[.int .i64 pr, .bool pw, .int .i64 pt] 46))).app hown6 hg6; have H6 := Lib.hid h6; clear hown6 hg6 hat6 h6)
                    go_roundw
                    case rel => exact ⟨k + 1, out ++ [⟨pr, pw, pt⟩], by omega, by go_num, H6.out, by have := HOL.out; rw [List.length_append, List.length_singleton]; omega, HBD.out, HMD⟩
                    case measure => simp [intOf]; omega
            · obtain rfl : k = d.length := by omega
              have hml := hmm.out
              rw [List.drop_of_length_le (by rw [HLE.out]; exact Nat.le_refl _), mergeF] at hml
              have HSL := Lib.hid (hmg.own.sl elOtc_good)
              have HML := Lib.hid hml
              have HBE := Lib.hid hmg.bel
              have HBB := Lib.hid (show w.heap.size ≤ w3.heap.size from by have := hmg.hg; omega)
              clear hmg how hmm hml hol
              go_wp2
              go_ret2
              rw [HZZ.out, ← HML.out]
              exact ⟨_, rfl, HSL.out.keep elOtc_good (Same.refl _ _) (fun b hx => ⟨by have := HBB.out; omega, hx.2⟩), HBE.out⟩
        · have hz2 := HZ.out
          rw [norm_sum HN.out hg2 (by rw [← hs2]; exact h16)] at hz2
          have e16 : (s != 16) = true := by simp [h16]
          have HZZ := Lib.hid hz2
          clear hb hss hgd hs2 hg2 hz2 h16
          go_wp2
          go_ret2
          exact otc_nil HB.out HZZ.out
end Go.Proofs.YtfnfbojaiikigaaGreatDoor
