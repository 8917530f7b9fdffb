/- The contract of model.Shift. -/
import Derived.Test.YtfnfbojaiikigaaGreatDoorJ5
import Derived.Test.YtfnfbojaiikigaaGreatDoorP64
import Derived.Deep.CutBlock
import Derived.Deep.DeepCutAuto
set_option linter.unusedSimpArgs false
set_option linter.unusedVariables false
namespace Go.Proofs.YtfnfbojaiikigaaGreatDoor
open Go.RowKit

/-- append of two elements, as a step of a region that draws. -/
theorem step_append_two {P : Program} {ops : Array Oper} {o : Oper} {a : Act} {w : World} {K : Act → World → Prop} {Q : Exit → Act → World → Prop} {E : Prop} (hgd : o.guard = none) (s x : Operand) (t : TypeId)
    (ho : o.op = .call { callee := .builtin .append, args := #[s, x], argTypes := #[t, t] })
    {e : TypeId} {size bytes : Nat} (hE : ElemOf P t e size bytes) {α : Type} {R : World → (Nat → Prop) → List Value → α → Prop} (hR : Good R)
    (base : Nat) (v : Value) (l : List α) (hs : a.eval s = v) (hown : OwnSl size R e base w v l)
    (ad : Addr) (c : Nat) (c0 c1 : List Value) (hx : a.eval x = .slice (some ad) 2 c) (x0 x1 : α) (hl0 : c0.length = size) (hl1 : c1.length = size) (hcell : ∀ j u, (c0 ++ c1)[j]? = some u → w.cell? (ad.add j) = some u)
    (h1 : ∀ u ∈ c0 ++ c1, u.oneCell' = true) (hel0 : R w NoG c0 x0) (hel1 : R w NoG c1 x1)
    (h63 : l.length + 2 ≤ maxLen) (hbytes : (l.length + 2) * bytes ≤ 140737488355328) (hbase : base ≤ w.heap.size)
    (h : ∀ v' w', OwnSl size R e base w' v' (l ++ [x0, x1]) → w.grownBy w' v.ownBlock → K (a.put o.dst v') w') :
    if Region.wanted o (yielded ops a.tmps) = true then Oper.wp P o a w K Q else E := by
  have hw : Region.wanted o (yielded ops a.tmps) = true := by simp [Region.wanted, hgd]
  rw [if_pos hw]
  obtain ⟨i, z, e1, e2, e3, e4, e5, e6, e7⟩ := hE
  obtain ⟨css, hlen, ho', hsz, hel'⟩ := hown
  obtain ⟨v', w', hr, h2, h3, _, h4⟩ := run_append_own_at (P := P) w base t o.type e i z size bytes e1 e2 e3 e4 e5 e6 e7 v l.length css.flatten ho' ad 2 c (c0 ++ c1) (by rw [List.length_append]; omega) hcell h1 h63 hbytes hbase
  unfold Oper.wp execOp
  simp only [ho, resolve, invoke, builtin, Sem.run_bind, Sem.run_pure, Result.andThen_ok, List.map_toArray, List.map_cons, List.map_nil, hs, hx, hr]
  have hS : Same NoG w w' := Same.grown h3 fun b hb => hb.elim
  refine h v' w' ⟨css ++ [c0, c1], by simp [hlen], by simpa using h2, fun c hc => ?_, fun i x c hi hc => ?_⟩ h3
  · rcases List.mem_append.1 hc with h | h
    · exact hsz c h
    · simp only [List.mem_cons, List.not_mem_nil, or_false] at h
      rcases h with rfl | rfl
      · exact hl0
      · exact hl1
  · by_cases hil : i < l.length
    · rw [List.getElem?_append_left hil] at hi
      rw [List.getElem?_append_left (by omega)] at hc
      exact hR.keep (hel' i x c hi hc) hS fun _ h => h
    · rw [List.getElem?_append_right (by omega)] at hi
      rw [List.getElem?_append_right (by omega), hlen] at hc
      rcases hj : i - l.length with _ | _ | j
      · rw [hj] at hi hc
        simp at hi hc
        subst hi; subst hc
        exact hR.keep hel0 hS fun _ h => h
      · rw [hj] at hi hc
        simp at hi hc
        subst hi; subst hc
        exact hR.keep hel1 hS fun _ h => h
      · rw [hj] at hi
        simp at hi
/-- The weights f lie in block g, made by this call. -/
structure Wk (w : World) (g : Nat) (W : World) (f : Nat → Int) : Prop where
  bel : Below w.heap.size w W
  hg : w.heap.size ≤ g
  wt : WAt W g f
section
variable {w W W' : World} {g : Nat} {f f' : Nat → Int}
theorem Wk.alloc (h : Wk w g W f) (o : Obj) : Wk w g (W.alloc o) f := ⟨h.bel.alloc h.bel.size o, h.hg, Blk.alloc h.wt o⟩
theorem Wk.drew (h : Wk w g W f) : Wk w g W.drew f := ⟨h.bel.drew, h.hg, h.wt.drew⟩
theorem Wk.only (h : Wk w g W f) (ho : Only g W W') (hw : WAt W' g f') : Wk w g W' f' := ⟨h.bel.trans (ho.below h.hg h.bel.size), h.hg, hw⟩
theorem Wk.below (h : Wk w g W f) (hb : Below W.heap.size W W') : Wk w g W' f := ⟨h.bel.trans (hb.mono h.bel.size), h.hg, Blk.below h.wt hb (Blk.lt h.wt)⟩
theorem Wk.putP (h : Wk w g W f) {r : Nat} (hr : r ≤ 7) (h0 : f (2 * r) = 0) {x : Int} (hf : f' = upd f (2 * r) x) : Wk w g (W.setCell ⟨g, r, none⟩ (.int .i64 x)) f' := by
  have := h.wt.setPlain r x hr
  rw [h0, Int.zero_add] at this
  exact hf ▸ h.only ((Only.refl g W).setCell (p := ⟨g, r, none⟩) (.inl rfl) _) this
theorem Wk.putW (h : Wk w g W f) {r : Nat} (hr : r ≤ 7) (h0 : f (2 * r + 1) = 0) {x : Int} (hf : f' = upd f (2 * r + 1) x) : Wk w g (W.setCell ⟨g, 8 + r, none⟩ (.int .i64 x)) f' := by
  have := h.wt.setWick r x hr
  rw [h0, Int.zero_add] at this
  exact hf ▸ h.only ((Only.refl g W).setCell (p := ⟨g, 8 + r, none⟩) (.inl rfl) _) this
end
theorem wk_new {w W : World} (hb : Below w.heap.size w W) : Wk w W.heap.size (W.alloc (.cells #[.int .i64 0, .int .i64 0, .int .i64 0, .int .i64 0, .int .i64 0, .int .i64 0, .int .i64 0, .int .i64 0, .int .i64 0, .int .i64 0, .int .i64 0, .int .i64 0, .int .i64 0, .int .i64 0, .int .i64 0, .int .i64 0] 156)) fun _ => 0 :=
  ⟨hb.alloc hb.size _, hb.size, Blk.new W _ _⟩
theorem own_drewO {B : Nat} {W : World} {v : Value} {l : List Otc} (h : OwnSl 3 elOtc 46 B W v l) : OwnSl 3 elOtc 46 B W.drew v l := h.below elOtc_good (Below.drew (Below.refl _ _))
theorem room2 (f : Nat → Int) {k : Nat} (hk : k ≤ 8) : (allF f k).length + 2 ≤ maxLen ∧ ((allF f k).length + 2) * 24 ≤ 140737488355328 := by rw [allF_len]; simp only [maxLen]; omega
theorem wAt_none0 (d : List Otc) : wAt (d.take 0) = fun _ => 0 := rfl
set_option maxRecDepth 100000 in
set_option maxHeartbeats 4000000 in
theorem m_Shift (d : List Otc) (v : Value) (n : Int) (w : World) (h : Sl 3 elOtc w (· < w.heap.size) v d) : Calls Tryz.prog 90 #[v, .int .i64 n] w (OtcPost w (shiftS d n)) := by
  obtain ⟨z, hz⟩ : ∃ z, z = shiftS d n := ⟨_, rfl⟩
  rw [← hz]
  obtain ⟨A, c, rfl, hc, hc2⟩ := h.shape
  have kch := ch_Check d _ w h
  have hdl : checkD d = 0 → Neat d ∧ Fit (wAt d) ∧ d.length ≤ 64 := fun h0 => ⟨checkD_neat h0, fit_of h0, by have := (checkD_ok h0).len; omega⟩
  have hbad := fun h0 : checkD d ≠ 0 => shift_bad (n := n) h0
  have hfar := fun (h0 : checkD d = 0) => shift_far (n := n) h0
  have hok := fun (h0 : checkD d = 0) => shift_ok (n := n) h0
  obtain ⟨cd, hcd⟩ : ∃ cd, cd = checkD d := ⟨_, rfl⟩
  rw [← hcd] at kch hdl hbad hfar hok
  have H := Lib.hid h
  have HZ := Lib.hid hz
  have KCH := Lib.hid kch
  clear h hz kch hcd
  go_enter Tryz.func90, Tryz.ntmps90
  by_cases h0 : cd = 0
  · obtain ⟨hn, hf, hl⟩ := hdl h0
    by_cases h1 : n < -12 ∨ 12 < n
    · have hz2 := HZ.out
      rw [hfar h0 h1] at hz2
      have HZ2 := Lib.hid hz2
      have e0 : (cd != 0) = false := by simpa using h0
      clear hz2 hbad hfar hok hdl hn hf hl h0
      rcases h1 with h1 | h1
      · have e1 : decide (n < -12) = true := decide_eq_true h1
        go_wp2_with (go_at_call 83; refine KCH.out.mono ?_; rintro e w1 ⟨rfl, hb1⟩; have HB1 := Lib.hid hb1; clear hb1)
        go_ret2
        exact otc_nil HB1.out HZ2.out
      · have e1 : decide (n < -12) = false := decide_eq_false (by omega)
        have e2 : decide (12 < n) = true := decide_eq_true h1
        go_wp2_with (go_at_call 83; refine KCH.out.mono ?_; rintro e w1 ⟨rfl, hb1⟩; have HB1 := Lib.hid hb1; clear hb1)
        go_ret2
        exact otc_nil HB1.out HZ2.out
    · have hz2 := HZ.out
      rw [hok h0 (by omega) (by omega), ← move_two] at hz2
      have HZ2 := Lib.hid hz2
      have e0 : (cd != 0) = false := by simpa using h0
      have e1 : decide (n < -12) = false := decide_eq_false (by omega)
      have e2 : decide (12 < n) = false := decide_eq_false (by omega)
      have n0 : -12 ≤ n := by omega
      have n1 : n ≤ 12 := by omega
      obtain ⟨f0, hf0⟩ : ∃ f0, f0 = wAt d := ⟨_, rfl⟩
      rw [← hf0] at hf
      have HF0 := Lib.hid hf0
      have HF := Lib.hid hf
      have HN := Lib.hid hn
      have HL := Lib.hid hl
      clear hz2 hbad hfar hok hdl hn hf hl h0 h1 hf0 HZ
      go_upto_block 2 with (go_at_call 83; refine KCH.out.mono ?_; rintro e w1 ⟨rfl, hb1⟩; have HB1 := Lib.hid hb1; clear hb1)
      have hwk := wk_new HB1.out
      rw [← wAt_none0 d] at hwk
      generalize w1.alloc _ = W1 at hwk ⊢
      generalize w1.heap.size = g at hwk ⊢
      have HWK := Lib.hid hwk
      clear hwk HB1 KCH
      go_loopw [27] (fun i wr => ∃ k : Nat, k ≤ d.length ∧ i = .int .i64 k ∧ Hid (Wk w g wr (wAt (d.take k)))) (fun i _ => d.length - (intOf i).toNat)
      case atStart => exact ⟨0, Nat.zero_le _, rfl, HWK⟩
      case round =>
        obtain ⟨k, hk, rfl, hwk⟩ := hrel
        by_cases hlt : k < d.length
        · obtain ⟨b, o, rfl, hbl, y0', y1', y2'⟩ := otc_at H.out hlt
          obtain ⟨hup, hze⟩ := take_upd HN.out hlt
          have hea := HN.out.each _ (List.getElem_mem hlt)
          obtain ⟨⟨pr, pw, pt⟩, hp⟩ : ∃ p, p = d[k] := ⟨_, rfl⟩
          rw [← hp] at y0' y1' y2' hup hze hea
          have y0 := (hwk.out.bel.cell (p := ⟨b, o + k * 3, none⟩) hbl).trans y0'
          have y1 := (hwk.out.bel.cell (p := ⟨b, o + k * 3 + 1, none⟩) hbl).trans y1'
          have y2 := (hwk.out.bel.cell (p := ⟨b, o + k * 3 + 2, none⟩) hbl).trans y2'
          obtain ⟨hr0, hr7, hpt⟩ := hea
          dsimp only at y0 y1 y2 hr0 hr7 hup hze
          obtain ⟨r, rfl⟩ : ∃ r : Nat, pr = (r : Int) := ⟨pr.toNat, by omega⟩
          have hr : r ≤ 7 := by omega
          have hr8 : (r : Int) < 8 := by omega
          have HUP := Lib.hid hup
          have HZE := Lib.hid hze
          have HWR := Lib.hid hwk.out
          clear hup hze hp y0' y1' y2' hwk hpt hr0 hr7
          cases pw with
          | false =>
            have hky : keyO ⟨(r : Int), false, pt⟩ = 2 * r := by unfold keyO; simp
            have hw1 := (HWR.out.alloc (.cells #[.int .i64 r, .bool false, .int .i64 pt] 46)).putP hr (by rw [← hky]; exact HZE.out) (x := pt) (f' := wAt (d.take (k + 1))) (by rw [← hky]; exact HUP.out)
            obtain ⟨p0, pf⟩ := (HWR.out.alloc (.cells #[.int .i64 r, .bool false, .int .i64 pt] 46)).wt.plain r hr
            have HW1 := Lib.hid hw1
            clear hky hw1 HUP HZE
            go_wp2
            go_roundw
            case rel => exact ⟨k + 1, by omega, by go_num, HW1⟩
            case measure => simp [intOf]; omega
          | true =>
            have hky : keyO ⟨(r : Int), true, pt⟩ = 2 * r + 1 := by unfold keyO; simp
            have hw1 := (HWR.out.alloc (.cells #[.int .i64 r, .bool true, .int .i64 pt] 46)).putW hr (by rw [← hky]; exact HZE.out) (x := pt) (f' := wAt (d.take (k + 1))) (by rw [← hky]; exact HUP.out)
            obtain ⟨p0, pf⟩ := (HWR.out.alloc (.cells #[.int .i64 r, .bool true, .int .i64 pt] 46)).wt.wick r hr
            have HW1 := Lib.hid hw1
            clear hky hw1 HUP HZE
            go_wp2
            go_roundw
            case rel => exact ⟨k + 1, by omega, by go_num, HW1⟩
            case measure => simp [intOf]; omega
        · obtain rfl : k = d.length := by omega
          have hw0 := hwk.out
          rw [List.take_of_length_le (Nat.le_refl _), ← HF0.out] at hw0
          have HW0 := Lib.hid hw0
          have hz3 := HZ2.out
          rw [← HF0.out] at hz3
          have KH := Lib.hid fun (k : Nat) (W : World) (h : Wk w g W (hardK f0 k)) (hk : k ≤ 12) => w_harder (hardK f0 k) k g W h.wt (HF.out.hardK k) (by omega)
          obtain ⟨f1, hf1⟩ : ∃ f1, f1 = hardK f0 n.toNat := ⟨_, rfl⟩
          rw [← hf1] at hz3
          have HF1 := Lib.hid hf1
          have HFF := Lib.hid (show Fit f1 from hf1 ▸ HF.out.hardK _)
          have HZ3 := Lib.hid hz3
          clear hwk hw0 hz3 HZ2 HN HF0 hk hlt hf1 HF
          go_upto_block 2 with fail
          go_cut [] (fun wx => Wk w g wx f1)
          case first =>
            go_wp2_with fail
            go_loopw [10] (fun i wr => ∃ k : Nat, (k = 0 ∨ (k : Int) ≤ n) ∧ i = .int .i64 k ∧ Hid (Wk w g wr (hardK f0 k))) (fun i _ => 12 - (intOf i).toNat)
            case atStart => exact ⟨0, .inl rfl, rfl, HW0⟩
            case round =>
              obtain ⟨k, hk, rfl, hwk⟩ := hrel
              have hk12 : k ≤ 12 := by omega
              by_cases hlt : (k : Int) < n
              · have el : decide ((k : Int) < n) = true := decide_eq_true hlt
                have kh := KH.out k _ hwk.out hk12
                by_cases ht : topF (hardK f0 k) 7 = 0
                · have hs : f1 = hardF k (hardK f0 k) := by rw [HF1.out, hard_same ht (by omega), hard_stays ht]
                  rw [show decide (topF (hardK f0 k) 7 ≠ 0) = false from decide_eq_false (by simpa using ht), ← hs] at kh
                  have KHH := Lib.hid kh
                  have HWK := Lib.hid hwk.out
                  clear hwk ht hs kh hk hlt
                  go_wp2_with (go_at_call 126; refine KHH.out.mono ?_; rintro e w2 ⟨rfl, hw2, ho2⟩; have HW2 := Lib.hid (HWK.out.only ho2 hw2); clear hw2 ho2)
                  go_meet
                  exact HW2.out
                · have hs : hardK f0 (k + 1) = hardF k (hardK f0 k) := rfl
                  rw [show decide (topF (hardK f0 k) 7 ≠ 0) = true from decide_eq_true ht, ← hs] at kh
                  have KHH := Lib.hid kh
                  have HWK := Lib.hid hwk.out
                  clear hwk ht hs kh hk
                  go_wp2_with (go_at_call 126; refine KHH.out.mono ?_; rintro e w2 ⟨rfl, hw2, ho2⟩; have HW2 := Lib.hid (HWK.out.only ho2 hw2); clear hw2 ho2)
                  go_roundw
                  case rel => exact ⟨k + 1, .inr (by omega), by go_num, HW2⟩
                  case measure => simp [intOf]; omega
              · have el : decide ((k : Int) < n) = false := decide_eq_false hlt
                have hw1 := hwk.out
                rw [show hardK f0 k = f1 from by rw [HF1.out]; congr 1; omega] at hw1
                have HW1 := Lib.hid hw1
                clear hwk hw1 hk hlt
                go_wp2
                go_meet
                exact HW1.out
          case rest =>
            have HW1 := Lib.hid hcut
            have KE := Lib.hid fun (k : Nat) (W : World) (h : Wk w g W (easyK f1 k)) => w_easier (easyK f1 k) g W h.wt (HFF.out.easyK k)
            have hz4 := HZ3.out
            obtain ⟨f2, hf2⟩ : ∃ f2, f2 = easyK f1 (-n).toNat := ⟨_, rfl⟩
            rw [← hf2] at hz4
            have HF2 := Lib.hid hf2
            have HFI := Lib.hid (show Fit f2 from hf2 ▸ HFF.out.easyK _)
            have HZ4 := Lib.hid hz4
            clear hcut hz4 hf2 HZ3 HFF
            go_upto_block 4 with fail
            go_cut [] (fun wx => Wk w g wx f2)
            case first =>
              go_wp2_with fail
              go_loopw [11] (fun i wr => ∃ k : Nat, (k = 0 ∨ (k : Int) ≤ -n) ∧ i = .int .i64 k ∧ Hid (Wk w g wr (easyK f1 k))) (fun i _ => 12 - (intOf i).toNat)
              case atStart => exact ⟨0, .inl rfl, rfl, HW1⟩
              case round =>
                obtain ⟨k, hk, rfl, hwk⟩ := hrel
                have hk12 : k ≤ 12 := by omega
                by_cases hlt : (k : Int) < -n
                · have el : decide ((k : Int) < -n) = true := decide_eq_true hlt
                  have kh := KE.out k _ hwk.out
                  by_cases ht : 0 < easyK f1 k 1 ∨ 0 < easyK f1 k 0
                  · have hs : easyK f1 (k + 1) = easyF (easyK f1 k) := rfl
                    rw [show decide (0 < easyK f1 k 1 ∨ 0 < easyK f1 k 0) = true from decide_eq_true ht, ← hs] at kh
                    have KHH := Lib.hid kh
                    have HWK := Lib.hid hwk.out
                    clear hwk ht hs kh hk
                    go_wp2_with (go_at_call 127; refine KHH.out.mono ?_; rintro e w2 ⟨rfl, hw2, ho2⟩; have HW2 := Lib.hid (HWK.out.only ho2 hw2); clear hw2 ho2)
                    go_roundw
                    case rel => exact ⟨k + 1, .inr (by omega), by go_num, HW2⟩
                    case measure => simp [intOf]; omega
                  · have hs : f2 = easyF (easyK f1 k) := by rw [HF2.out, easy_same ht (by omega), easy_stays ht]
                    rw [show decide (0 < easyK f1 k 1 ∨ 0 < easyK f1 k 0) = false from decide_eq_false ht, ← hs] at kh
                    have KHH := Lib.hid kh
                    have HWK := Lib.hid hwk.out
                    clear hwk ht hs kh hk hlt
                    go_wp2_with (go_at_call 127; refine KHH.out.mono ?_; rintro e w2 ⟨rfl, hw2, ho2⟩; have HW2 := Lib.hid (HWK.out.only ho2 hw2); clear hw2 ho2)
                    go_meet
                    exact HW2.out
                · have el : decide ((k : Int) < -n) = false := decide_eq_false hlt
                  have hw1 := hwk.out
                  rw [show easyK f1 k = f2 from by rw [HF2.out]; congr 1; omega] at hw1
                  have HW1 := Lib.hid hw1
                  clear hwk hw1 hk hlt
                  go_wp2
                  go_meet
                  exact HW1.out
            case rest =>
              have HW2 := Lib.hid hcut
              clear hcut HF2 KE HF1 KH HW1 HW0
              have hgw : g < wc.heap.size := Blk.lt HW2.out.wt
              have KN := Lib.hid fun (v : Value) (W : World) (h : Sl 3 elOtc W (· < W.heap.size) v (allF f2 8)) => (normS_all HFI.out) ▸ ch_Norm (allF f2 8) v W h
              have tok0 : True := trivial
              go_wp2_with fail
              go_loopw [64, 12] (fun i ov wr => ∃ k : Nat, k ≤ 8 ∧ i = .int .i64 k ∧ Hid (Below wc.heap.size wc wr) ∧ Hid (OwnSl 3 elOtc 46 wc.heap.size wr ov (allF f2 k))) (fun i _ _ => 8 - (intOf i).toNat)
              case atStart => exact ⟨0, by omega, rfl, Lib.hid (Below.refl _ _), Lib.hid (OwnSl.nil _)⟩
              case round =>
                obtain ⟨k, hk, rfl, HB, HO⟩ := hrel
                by_cases hlt : k < 8
                · have hwk := HW2.out.below HB.out
                  obtain ⟨p0, _⟩ := hwk.wt.plain k (by omega)
                  obtain ⟨p1, _⟩ := hwk.wt.wick k (by omega)
                  have hk8 : (k : Int) < 8 := by omega
                  have hsz := HB.out.size
                  have hrm := room2 f2 hk
                  have HRM := Lib.hid hrm
                  obtain ⟨A3, c3, rfl⟩ := own_len HO.out
                  obtain ⟨ob, hob⟩ : ∃ ob : Obj, ob = (.cells #[.int .i64 k, .bool false, .int .i64 (f2 (2 * k)), .int .i64 k, .bool true, .int .i64 (f2 (2 * k + 1))] 46) := ⟨_, rfl⟩
                  have hap : ∀ w6 : World, (wr.alloc ob).drew.grownBy w6 (Value.slice A3 (allF f2 k).length c3).ownBlock → Below wc.heap.size wc w6 := fun w6 hg6 =>
                    below_own (Below.drew (Below.alloc HB.out hsz ob)) (own_drewO (HO.out.alloc elOtc_good ob)) hg6 (Nat.le_refl _) (base1 hsz ob)
                  rw [hob] at hap
                  have HAP := Lib.hid hap
                  clear hap hob
                  clear hwk hrm
                  go_wp2_with fail
                  go_region_law ((refine step_append_two rfl (.tmp 67) (.tmp 80) _ rfl E_otc elOtc_good wc.heap.size (.slice A3 (allF f2 k).length c3) (allF f2 k) rfl (own_drewO (HO.out.alloc elOtc_good _)) ⟨wr.heap.size, 0, none⟩ 2 [.int .i64 k, .bool false, .int .i64 (f2 (2 * k))] [.int .i64 k, .bool true, .int .i64 (f2 (2 * k + 1))] rfl ⟨k, false, f2 (2 * k)⟩ ⟨k, true, f2 (2 * k + 1)⟩ rfl rfl (cells_new _ _ _ _) (oneCells rfl) rfl rfl HRM.out.1 HRM.out.2 (base1 hsz _) ?_); intro v6 w6 hown6 hg6; have HB6 := Lib.hid (HAP.out w6 hg6); have HO6 := Lib.hid hown6; clear hown6 hg6)
                  all_goals
                    go_wp2_with fail
                    go_roundw
                    case rel => exact ⟨k + 1, by omega, by go_num, HB6, HO6⟩
                    case measure => simp [intOf]; omega
                · obtain rfl : k = 8 := by omega
                  have HSL := Lib.hid ((HO.out.sl elOtc_good).keep elOtc_good (G := (· < wr.heap.size)) (Same.refl _ _) fun b h => h.2)
                  have HBE := Lib.hid (HW2.out.below HB.out).bel
                  clear hk hlt HO HB
                  go_wp2_with (clear tok0; go_at_call 128; refine (KN.out _ _ HSL.out).mono ?_; rintro e w7 ⟨v7, rfl, hs7, hb7⟩; have HS7 := Lib.hid hs7; have HB7 := Lib.hid hb7; clear hs7 hb7)
                  go_ret2
                  rw [HZ4.out]
                  exact ⟨v7, rfl, HS7.out.keep elOtc_good (Same.refl _ _) (fun b hx => ⟨Nat.le_trans HBE.out.size hx.1, hx.2⟩), HBE.out.trans (HB7.out.mono HBE.out.size)⟩
  · have hz2 := HZ.out
    rw [hbad h0] at hz2
    have HZ2 := Lib.hid hz2
    have e0 : (cd != 0) = true := by simp [h0]
    clear hz2 hbad hfar hok hdl h0
    go_wp2_with (go_at_call 83; refine KCH.out.mono ?_; rintro e w1 ⟨rfl, hb1⟩; have HB1 := Lib.hid hb1; clear hb1)
    go_ret2
    exact otc_nil HB1.out (by rw [HZ2.out])
end Go.Proofs.YtfnfbojaiikigaaGreatDoor
