/- The contract of rules.Text. Conditions: the rules can be read, the name is not great. -/
import Derived.Test.YtnacklbaphobbaaGreatDoorU12
import Derived.Test.YtnacklbaphobbaaGreatDoorU10
set_option linter.unusedSimpArgs false
set_option linter.unusedVariables false
namespace Go.Proofs.YtnacklbaphobbaaGreatDoor
open Go.RowKit

/-- append of one element onto a row whose elements reach elsewhere, as a step of a region that draws. -/
theorem step_append_gl {P : Program} {ops : Array Oper} {o : Oper} {a : Act} {w : World} {K : Act → World → Prop} {Q : Exit → Act → World → Prop} {E : Prop} (hgd : o.guard = none) (s x : Operand) (t : TypeId)
    (ho : o.op = .call { callee := .builtin .append, args := #[s, x], argTypes := #[t, t] })
    {e : TypeId} {size bytes : Nat} (hE : ElemOf P t e size bytes) {α : Type} {R : World → (Nat → Prop) → List Value → α → Prop} (hR : Good R)
    (base : Nat) (v : Value) (G : Nat → Prop) (l : List α) (hs : a.eval s = v) (hown : OwnG size R e base w v G l)
    (ad : Addr) (c : Nat) (cs : List Value) (hx : a.eval x = .slice (some ad) 1 c) (el : α) (hl : cs.length = size) (hcell : ∀ j u, cs[j]? = some u → w.cell? (ad.add j) = some u)
    (h1 : ∀ u ∈ cs, u.oneCell' = true) (hG : ∀ b, G b → b < w.heap.size ∧ v.ownBlock ≠ some b) (hel : R w G cs el)
    (h63 : l.length + 1 ≤ maxLen) (hbytes : (l.length + 1) * bytes ≤ 140737488355328) (hbase : base ≤ w.heap.size)
    (h : ∀ g cap w', OwnG size R e base w' (.slice (some ⟨g, 0, none⟩) (l.length + 1) cap) G (l ++ [el]) → w.grownBy w' v.ownBlock → (some g = v.ownBlock ∨ g = w.heap.size) → K (a.put o.dst (.slice (some ⟨g, 0, none⟩) (l.length + 1) cap)) w') :
    if Region.wanted o (yielded ops a.tmps) = true then Oper.wp P o a w K Q else E := by
  have hw : Region.wanted o (yielded ops a.tmps) = true := by simp [Region.wanted, hgd]
  rw [if_pos hw]
  obtain ⟨i, z, e1, e2, e3, e4, e5, e6, e7⟩ := hE
  obtain ⟨css, hlen, ho', hsz, hel'⟩ := hown
  obtain ⟨v', w', hr, h2, h3, _, h4⟩ := run_append_own_at (P := P) w base t o.type e i z size bytes e1 e2 e3 e4 e5 e6 e7 v l.length css.flatten ho' ad 1 c cs (by omega) hcell h1 h63 hbytes hbase
  unfold Oper.wp execOp
  simp only [ho, resolve, invoke, builtin, Sem.run_bind, Sem.run_pure, Result.andThen_ok, List.map_toArray, List.map_cons, List.map_nil, hs, hx, hr]
  have hnew : OwnG size R e base w' v' G (l ++ [el]) := OwnG.snoc hR hlen hsz hel' h2 (Same.grown h3 fun b hb => ⟨(hG b hb).1, fun e => (hG b hb).2 e.symm⟩) hl hel
  obtain ⟨xs, _, ⟨_, h0⟩ | ⟨g, cap, cur, rfl, _⟩⟩ := hnew.owns
  · simp at h0
  · simp only [List.length_append, List.length_cons, List.length_nil, Nat.zero_add] at h4 hnew ⊢
    refine h g cap w' hnew h3 ?_
    rcases h4 with h4 | h4
    · exact .inl h4
    · exact .inr (by simpa [Value.ownBlock] using h4)
/-- The lines so far, and the powerplay at hand in a block of its own. -/
structure PowAt (w0 W : World) (v : Value) (out : List Lin) (bx : Nat) (p : Pha) : Prop where
  inv : SplitInv w0.heap.size w0 W v noD out []
  blk : Blk W bx 45 #[.int .i64 p.fr, .int .i64 p.til, .int .i64 p.out]
section
variable {w0 W W' : World} {v : Value} {out : List Lin} {bx : Nat} {p : Pha} {A : Option Addr} {n c : Nat}
theorem PowAt.below (h : PowAt w0 W v out bx p) (hb : Below W.heap.size W W') : PowAt w0 W' v out bx p := ⟨h.inv.below hb, h.blk.below hb h.blk.lt⟩
theorem PowAt.drew (h : PowAt w0 W v out bx p) : PowAt w0 W.drew v out bx p := h.below (Below.drew (Below.refl _ _))
theorem PowAt.cells (h : PowAt w0 W v out bx p) : W.cell? ⟨bx, 0, none⟩ = some (.int .i64 p.fr) ∧ W.cell? ⟨bx, 1, none⟩ = some (.int .i64 p.til) ∧ W.cell? ⟨bx, 2, none⟩ = some (.int .i64 p.out) := ⟨h.blk.cell 0, h.blk.cell 1, h.blk.cell 2⟩
theorem PowAt.new {wr : World} (h : SplitInv w0.heap.size w0 wr v noD out []) (p : Pha) : PowAt w0 (wr.alloc (.cells #[.int .i64 p.fr, .int .i64 p.til, .int .i64 p.out] 45)) v out wr.heap.size p :=
  ⟨h.below (Below.alloc (Below.refl _ _) (Nat.le_refl _) _), Blk.new wr _ _⟩
/-- The words of a powerplay's line, just laid. -/
theorem PowAt.words (h : PowAt w0 W v out bx p) (l : List (List UInt8)) (hm : l.length ≤ maxLen) : PowAt w0 (W.alloc (.cells (l.map fun s => Value.string (S s)).toArray 9)) v out bx p ∧
    Sl 1 elStr (W.alloc (.cells (l.map fun s => Value.string (S s)).toArray 9)) (· < (W.alloc (.cells (l.map fun s => Value.string (S s)).toArray 9)).heap.size) (.slice (some ⟨W.heap.size, 0, none⟩) l.length l.length) l :=
  ⟨h.below (Below.alloc (Below.refl _ _) (Nat.le_refl _) _), (strs_lit W 0 (Nat.zero_le _) l 9 hm).keep elStr_good (Same.refl _ _) fun b hb => hb.2⟩
/-- The line of a powerplay, made. -/
def LineAt (w0 W : World) (v : Value) (out : List Lin) (bx : Nat) (p : Pha) (A : Option Addr) (n c : Nat) : Prop :=
  PowAt w0 W v out bx p ∧ ∀ o, elLin (W.alloc o) (lineG w0.heap.size (W.alloc o) v noD) [.int .i64 0, .slice A n c] (powLine p)
theorem LineAt.row (h : LineAt w0 W v out bx p A n c) (o : Obj) : OwnG 2 elLin 55 w0.heap.size (W.alloc o) v (lineG w0.heap.size (W.alloc o) v noD) out := (h.1.inv.below (Below.alloc (Below.refl _ _) (Nat.le_refl _) o)).hv
theorem LineAt.app {o : Obj} {g6 cap6 : Nat} (h : LineAt w0 W v out bx p A n c) (ho : OwnG 2 elLin 55 w0.heap.size W' (.slice (some ⟨g6, 0, none⟩) (out.length + 1) cap6) (lineG w0.heap.size (W.alloc o) v noD) (out ++ [powLine p]))
    (hg : (W.alloc o).grownBy W' v.ownBlock) (hat : some g6 = v.ownBlock ∨ g6 = (W.alloc o).heap.size) : PowAt w0 W' (.slice (some ⟨g6, 0, none⟩) (out.length + 1) cap6) (out ++ [powLine p]) bx p := by
  have h1 := h.1.below (Below.alloc (Below.refl _ _) (Nat.le_refl _) o)
  have hi := h1.inv.line ho hg (by rcases hat with e | e; exact .inl e; exact .inr (by rw [← e]; rfl))
  exact ⟨hi, h1.blk.grown hg (own_ne h1.inv.hv h1.blk (by decide))⟩
end
theorem pow_dec (n : Int) (h0 : 0 ≤ n) (h1 : n ≤ 10000) {w0 W : World} {v : Value} {out : List Lin} {bx : Nat} {p : Pha} (hg : GlobN w0) (h : PowAt w0 W v out bx p) :
    Calls Tryz.prog 38 #[.int .i64 n] W fun e w' => e = .returned (.string (S (decW n))) ∧ PowAt w0 w' v out bx p := by
  refine (text1_contract n W (hg.below h.inv.hb) h0 h1).mono ?_
  rintro e w' ⟨rfl, hb⟩
  exact ⟨rfl, h.below hb⟩
theorem pow_line (a b c : List UInt8) {w0 W : World} {v : Value} {out : List Lin} {bx : Nat} {p : Pha} (h : PowAt w0 W v out bx p) (he : lineR [kPOWER, a, b, c] = powLine p) :
    Calls Tryz.prog 40 #[.slice (some ⟨W.heap.size, 0, none⟩) 4 4] (W.alloc (.cells #[.string ⟨#[80, 79, 87, 69, 82]⟩, .string (S a), .string (S b), .string (S c)] 9)) fun e w' => ∃ A n c, e = .returned (.agg #[.int .i64 0, .slice A n c]) ∧ LineAt w0 w' v out bx p A n c := by
  obtain ⟨h1, h2⟩ := h.words [kPOWER, a, b, c] (by simp [maxLen])
  refine (rul_line [kPOWER, a, b, c] _ _ _ h2 (fun b hb => hb) (by simp)).mono ?_
  rintro e w' ⟨A, n, c', rfl, hs, hb⟩
  refine ⟨A, n, c', rfl, h1.below hb, fun o => ?_⟩
  rw [← he]
  exact h1.inv.fields_el hb hs o
theorem rows_sl {B : Nat} {w0 wr : World} {v : Value} {out : List Lin} (h : SplitInv B w0 wr v noD out []) : Sl 2 elLin wr (· < wr.heap.size) v out := h.hv.sl elLin_good (fun b hb => hb.2.1) fun b _ h => h
theorem write_rows {r : Rul} {w0 wr : World} {v : Value} {out : List Lin} (h : SplitInv w0.heap.size w0 wr v noD out []) (ho : out = rulLines r) (hg : GlobN wr) (hl : (writeS (rulLines r)).length ≤ 1700) :
    Calls Tryz.prog 41 #[v] wr fun e w' => e = .returned (.string (S (writeS (rulLines r)))) ∧ Below wr.heap.size wr w' := by
  rw [← ho] at hl ⊢
  exact text_Write v out wr hg.glob (rows_sl h) (Nat.le_trans hl (by decide))
theorem pow_drop {ps : List Pha} {k : Nat} (h : k < ps.length) : (ps.drop k).map powLine = powLine ps[k] :: (ps.drop (k + 1)).map powLine := by rw [List.drop_eq_getElem_cons h, List.map_cons]
set_option maxRecDepth 100000 in
set_option maxHeartbeats 4000000 in
theorem rul_Text (r : Rul) (pv : Value) (w : World) (hg : GlobN w) (h : Sl 3 elPha w (· < w.heap.size) pv r.power) (hn : r.name.length ≤ 1000000000) :
    Calls Tryz.prog 21 #[rulV r pv] w (TextPost w (textR r)) := by
  obtain ⟨res, hres⟩ : ∃ x, x = textR r := ⟨_, rfl⟩
  rw [← hres]
  obtain ⟨A, c, rfl, hc, hc2⟩ := h.shape
  have hA := RulAt.new h
  have hb0 : Below w.heap.size w (w.alloc (.cells (rulCells r (.slice A r.power.length c)) 24)) := Below.alloc (Below.refl _ _) (Nat.le_refl _) _
  obtain ⟨W, hW⟩ : ∃ W, W = w.alloc (.cells (rulCells r (.slice A r.power.length c)) 24) := ⟨_, rfl⟩
  rw [← hW] at hA hb0
  have kc : Calls Tryz.prog 12 #[rulV r (.slice A r.power.length c)] W fun e w' => e = .returned (.int .i64 (checkR r)) ∧ Below w.heap.size w w' ∧ RulAt w' w.heap.size r (.slice A r.power.length c) := by
    refine (rul_Check r _ W hA.sl hn).mono ?_
    rintro e w' ⟨rfl, hb⟩
    exact ⟨rfl, hb0.trans (hb.mono hb0.size), hA.below hb⟩
  rw [hW] at kc
  by_cases hc0 : checkR r = 0
  · have hres' : res = (writeS (rulLines r), 0) := by rw [hres, textR_ok hc0]
    have hR := rulInts_ok hc0
    have hl := rulText_len hc0
    obtain ⟨_, _, h8, hsm⟩ := checkR_ok hc0
    rw [hc0] at kc
    unfold rulV rulCells at kc
    have KC := Lib.hid kc
    have HR := Lib.hid hR
    have HRES := Lib.hid hres'
    have HG := Lib.hid hg
    have HL := Lib.hid hl
    have HSM := Lib.hid hsm
    clear kc hR hres' hres hg hl hsm hA h hb0 hc0 hn hW
    clear W
    unfold rulV rulCells
    go_enter Tryz.func21, Tryz.ntmps21
    go_wp2_with (go_at_call 12; refine KC.out.mono ?_; rintro e w1 ⟨rfl, hb1, hr1⟩; have x8 : w1.cell? ⟨w.heap.size, 8, none⟩ = some (.bool r.free) := hr1.blk.cell 8; have HB1 := Lib.hid hb1; have HR1 := Lib.hid hr1; clear hb1 hr1)
    all_goals
      refine wp_region_at (by kernel_rfl : _ = txOps) (by kernel_rfl) (tx_free (g := w.heap.size) (pv := .slice A r.power.length c) HR.out) (of_decide_eq_true (by kernel_rfl)) ⟨⟨HR1.out, Below.refl _ _⟩, HG.out.below HB1.out⟩ (fun d hd => ?_) ?_
      · simp only [List.mem_cons, List.not_mem_nil, or_false] at hd
        rcases hd with rfl | rfl | rfl
        · exact ⟨_, rfl, rfl⟩
        · exact ⟨_, rfl, rfl⟩
        · refine ⟨_, rfl, ?_⟩
          show _ = Value.string (S (freeW r.free))
          first | (rw [show r.free = true by assumption]; rfl) | (rw [show r.free = false by simp_all]; rfl)
      · rintro ⟨⟨l⟩, df⟩ wx hin
        obtain ⟨v7, hv7, hs7⟩ := holds_rows (hin.at 72 7 (by kernel_rfl)) rfl
        have hk1 := hin.kept 1 (by kernel_rfl)
        have hk5 := hin.kept 5 (by kernel_rfl)
        have hsz : l.length = 116 := hin.size
        have hdf : df = [] := hin.dfr
        have hgx := hin.g
        have HS7 := Lib.hid hs7
        have HGX := Lib.hid hgx
        clear hin hs7 hgx
        subst hdf
        dsimp only at hv7 hk1 hk5
        iterate 116 (obtain ⟨_, t, e, h2⟩ := list_cons hsz; clear hsz; subst e; have hsz := h2; clear h2)
        have e0 := List.eq_nil_of_length_eq_zero hsz
        clear hsz
        subst e0
        simp only [List.getElem?_toArray, List.getElem?_cons_zero, List.getElem?_cons_succ, Option.some.injEq] at hv7 hk1 hk5
        subst hv7 hk1 hk5
        clear x8
        obtain ⟨Av, cv, rfl, _, _⟩ := (HS7.out.hv.sl elLin_good (F := (· < wx.heap.size)) (fun b hb => hb.2.1) fun b _ h => h).shape
        have x13 : wx.cell? ⟨w.heap.size, 13, none⟩ = some (.slice A r.power.length c) := HGX.out.lies.blk.cell 13
        have HBX := Lib.hid (HB1.out.trans (HS7.out.hb.mono HB1.out.size))
        go_wp2
        go_loopw [7, 92] (fun v i wr => ∃ (k : Nat) (out : List Lin), k ≤ r.power.length ∧ i = .int .i64 k ∧ SplitInv w1.heap.size w1 wr v noD out [] ∧ Hid (out ++ (r.power.drop k).map powLine = rulLines r) ∧ Hid (out.length = 12 + k) ∧ (∃ A n c, v = .slice A n c))
          (fun _ i _ => r.power.length - (intOf i).toNat)
        case atStart => exact ⟨0, _, Nat.zero_le _, rfl, HS7.out, by unfold Hid; rfl, by unfold Hid; rfl, ⟨_, _, _, rfl⟩⟩
        case round =>
          obtain ⟨k, out, hk, rfl, hinv, hqk, hol, ⟨Au, nu, cu, rfl⟩⟩ := hrel
          have HI := Lib.hid hinv
          have HBR := Lib.hid (HB1.out.trans (hinv.hb.mono HB1.out.size))
          have HGR := Lib.hid (HG.out.below HBR.out)
          have HG1 := Lib.hid (HG.out.below HB1.out)
          have HRR := Lib.hid (HR1.out.below hinv.hb)
          have hol20 : out.length ≤ 20 := by have := hol.out; omega
          clear hinv
          by_cases hlt : k < r.power.length
          · obtain ⟨b, o, rfl, hF, y0, y1, y2⟩ := pha_at HRR.out.sl hlt
            have hqk' := hqk.out
            rw [pow_drop hlt] at hqk'
            have hp0 := HSM.out _ (List.getElem_mem hlt)
            obtain ⟨⟨pf, pt, po⟩, hp⟩ : ∃ p, p = r.power[k] := ⟨_, rfl⟩
            rw [← hp] at y0 y1 y2 hqk' hp0
            obtain ⟨s1, s2, s3, s4, s5, s6⟩ := hp0
            dsimp only at y0 y1 y2 s1 s2 s3 s4 s5 s6
            have HQ := Lib.hid hqk'
            have hpw := PowAt.new HI.out ⟨pf, pt, po⟩
            have HP := Lib.hid hpw.drew
            have tok0 : True := trivial
            clear hqk hqk' hp hpw hF
            go_wp2
            obtain ⟨c0, c1, c2⟩ := HP.out.cells
            dsimp only at c0 c1 c2
            go_region_held3 (fun w' => w'.cell? ⟨wr.heap.size, 0, none⟩ = some (.int .i64 pf) ∧ w'.cell? ⟨wr.heap.size, 1, none⟩ = some (.int .i64 pt) ∧ w'.cell? ⟨wr.heap.size, 2, none⟩ = some (.int .i64 po)) (first | exact ⟨c0, c1, c2⟩ | go_keep) (first
              | (clear tok0; go_at_call 38; refine (pow_dec pf s1 s2 HG1.out HP.out).mono ?_; rintro e w2 ⟨rfl, hp2⟩; clear c0 c1 c2; obtain ⟨c0, c1, c2⟩ := hp2.cells; have hz2 := hp2.blk.lt; have HP2 := Lib.hid hp2; clear hp2; have tok1 : True := trivial)
              | (clear tok1; go_at_call 38; refine (pow_dec pt s3 s4 HG1.out HP2.out).mono ?_; rintro e w3 ⟨rfl, hp3⟩; obtain ⟨c0, c1, c2⟩ := hp3.cells; have hz3 := hp3.blk.lt; have HP3 := Lib.hid hp3; clear hp3; have tok2 : True := trivial)
              | (clear tok2; go_at_call 38; refine (pow_dec po s5 s6 HG1.out HP3.out).mono ?_; rintro e w4 ⟨rfl, hp4⟩; obtain ⟨c0, c1, c2⟩ := hp4.cells; have hz4 := hp4.blk.lt; have HP4 := Lib.hid hp4; clear hp4; have tok3 : True := trivial)
              | (clear tok3; go_at_call 40; refine (pow_line _ _ _ HP4.out rfl).mono ?_; rintro e w5 ⟨A5, n5, k5, rfl, hp5⟩; obtain ⟨c0, c1, c2⟩ := hp5.1.cells; have hz5 := hp5.1.blk.lt; have hs5 := hp5.1.inv.hz; have HP5 := Lib.hid hp5; clear hp5; have tok4 : True := trivial)
              | (clear tok4; refine step_append_gl rfl (.tmp 96) (.tmp 111) _ rfl E_lin elLin_good w1.heap.size _ _ out rfl (HP5.out.row _) ⟨w5.heap.size, 0, none⟩ 1 [.int .i64 0, .slice A5 n5 k5] rfl (powLine ⟨pf, pt, po⟩) rfl (cells_new _ _ _ _) (oneCells rfl) (fun b hb => ⟨hb.2.1, hb.2.2.1⟩) (HP5.out.2 _) (by simp only [maxLen]; omega) (by omega) (by simp; omega) ?_; intro g6 cap6 w6 hown6 hg6 hat6; have hp6 := HP5.out.app hown6 hg6 hat6; obtain ⟨c0, c1, c2⟩ := hp6.cells; have HP6 := Lib.hid hp6; clear hp6 hown6 hg6 hat6; have tok5 : True := trivial))
            go_wp2
            go_roundw
            case rel => exact ⟨k + 1, _, by omega, by go_num, HP6.out.inv, by unfold Hid; rw [← HQ.out, List.append_assoc]; rfl, by unfold Hid; rw [List.length_append, hol.out]; rfl, ⟨_, _, _, rfl⟩⟩
            case measure => simp [intOf]; omega
          · have hke : k = r.power.length := by omega
            have ho := hqk.out
            rw [List.drop_eq_nil_of_le (by omega), List.map_nil, List.append_nil] at ho
            have hwr := write_rows HI.out ho HGR.out HL.out
            have HWR := Lib.hid hwr
            clear hwr hqk hke ho
            go_wp2_with (go_at_call 41; refine HWR.out.mono ?_; rintro x w9 ⟨rfl, hb9⟩)
            refine bodyPost_ret (v := .tuple #[.string (S (writeS (rulLines r))), .int .i64 0]) (by simp [results, Tryz.results21, go_sem]) rfl ⟨?_, HBR.out.trans (hb9.mono HBR.out.size)⟩
            rw [HRES.out]
  · have hres' : res = ([], checkR r) := by rw [hres, textR_bad hc0]
    obtain ⟨e, he⟩ : ∃ e, e = checkR r := ⟨_, rfl⟩
    rw [← he] at kc hc0 hres'
    have e0 : (e != 0) = true := by simp [hc0]
    unfold rulV rulCells at kc
    have KC := Lib.hid kc
    have HRES := Lib.hid hres'
    clear kc hres' hres hg hA h hb0 hc0 hn he hW
    clear W
    unfold rulV rulCells
    go_enter Tryz.func21, Tryz.ntmps21
    go_wp2_with (go_at_call 12; refine KC.out.mono ?_; rintro x w1 ⟨rfl, hb1, hr1⟩; have HB1 := Lib.hid hb1; clear hb1 hr1)
    refine bodyPost_ret (v := .tuple #[.string ⟨#[]⟩, .int .i64 e]) (by simp [results, Tryz.results21, go_sem]) rfl ⟨?_, HB1.out⟩
    rw [HRES.out]
    rfl
end Go.Proofs.YtnacklbaphobbaaGreatDoor
