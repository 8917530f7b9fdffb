/- conduct.Check. -/
import Derived.Test.YtajcnjehjkpieaaE7
import Derived.Maps.Own
set_option linter.unusedSimpArgs false
set_option linter.unusedVariables false
namespace Go.Proofs.Ytajcnjehjkpieaa
open Go.RowKit Go.Maps

theorem i64_keyed : Keyed Try.prog 2 := int_keyed Try.underlying2
abbrev IdMap (w : World) (b N : Nat) (D : DataW Unit) : Prop := w.ownsMap Try.prog 2 (plainElem Try.prog 4) b N D
def idLit (x : Int) : Lit := .int .i64 x
/-- What the map says of the numbers. -/
def SeenI (l : List Off) (D : DataW Unit) : Prop := IsMap D ∧ ∀ x : Int, D.atKey (idLit x) (.lit (.bool false)) = .lit (.bool (l.any fun y => y.id == x))
theorem id_lit (x : Int) : WideAt.IsKeyLit (idLit x) := by unfold idLit; trivial
theorem SeenI.nil : SeenI [] (.map []) := ⟨⟨_, rfl⟩, fun x => rfl⟩
theorem SeenI.put {l : List Off} {D : DataW Unit} (h : SeenI l D) (y : Off) : SeenI (l ++ [y]) (D.put (idLit y.id) (.lit (.bool true))) := by
  refine ⟨h.1.put _ _, fun x => ?_⟩
  rw [List.any_append]
  by_cases e : x = y.id
  · subst e
    rw [atKey_put_same h.1 (id_lit _)]
    simp
  · rw [atKey_put_other (by unfold idLit; simpa using e), h.2 x]
    have : (y.id == x) = false := by simpa using fun h => e h.symm
    simp [this]
structure CK (l : List Off) (w W : World) (b n : Nat) : Prop where
  bel : Below w.heap.size w W
  low : w.heap.size ≤ b
  map : ∃ D, IdMap W b n D ∧ SeenI l D
theorem CK.step {l : List Off} {w W W' : World} {b n : Nat} (h : CK l w W b n) (hb : Below W.heap.size W W') : CK l w W' b n := by
  obtain ⟨D, hm, hs⟩ := h.map
  exact ⟨h.bel.trans (hb.mono h.bel.size), h.low, D, hm.kept (row := none) ⟨hb.os, hb.tape, hb.output, hb.size, fun k hk _ => hb.block k hk⟩ (by simp), hs⟩
theorem CK.look {l : List Off} {w W : World} {b n : Nat} (h : CK l w W b n) {x : Int} (hx : 1 ≤ x ∧ x ≤ 1099511627776) :
    (Instr.lookup 73 (.map (some b)) (.int .i64 x) false).run Try.prog W = .ok (.bool (l.any fun y => y.id == x)) W := by
  obtain ⟨D, hm, hs⟩ := h.map
  have hk : keyOf Try.prog 2 (.int .i64 x) = some (idLit x) := keyOf_int_mk Try.underlying2 (WalkArith.wf_i64 (by omega))
  have hz : (zeroValue 4).run Try.prog W = .ok (.bool false) W := by simp [go_sem]
  have hzd : plainElem (H := Unit) Try.prog 4 (.bool false) = some (.lit (.bool false), []) := by simp [plainElem, Try.underlying4]
  obtain ⟨v, ps, hrun, hv⟩ := World.ownsMap.lookup hm i64_keyed Try.underlying73 hz hzd hk
  rw [hs.2 x] at hv
  unfold plainElem at hv
  rw [Try.underlying4] at hv
  cases v <;> simp at hv
  obtain ⟨rfl, _⟩ := hv
  exact hrun
set_option maxRecDepth 100000 in
set_option maxHeartbeats 8000000 in
theorem con_Check (l : List Off) (lv : Value) (w : World) (hl : Sl 4 elOff w (· < w.heap.size) lv l) :
    Calls Try.prog 22 #[lv] w fun e w' => e = .returned (.int .i64 (conS l)) ∧ Below w.heap.size w w' := by
  obtain ⟨A, c, rfl, hc, hc2⟩ := hl.shape
  obtain ⟨z, hz⟩ : ∃ z, z = conS l := ⟨_, rfl⟩
  rw [← hz]
  unfold conS at hz
  have HL := Lib.hid hl
  have HB := Lib.hid (Below.refl w.heap.size w)
  clear hl
  by_cases hbig : 2000 < l.length
  · rw [if_pos hbig] at hz
    have HZ := Lib.hid hz
    have g1 : (2000 : Int) < (l.length : Int) := by omega
    clear hz
    go_enter Try.func22, Try.ntmps22
    go_wp2
    go_ret
    exact ⟨ret_i HZ.out.symm, HB.out⟩
  rw [if_neg hbig] at hz
  have g1 : ¬ (2000 : Int) < (l.length : Int) := by omega
  have hnl : l.length ≤ 2000 := by omega
  have HZ : Hid (z = fst0 (offE l) (l.length - 0) 0) := Lib.hid hz
  have HCK := Lib.hid (⟨Below.alloc (Below.refl _ _) (Nat.le_refl _) _, Nat.le_refl _, _, World.ownsMap_made w Try.prog 2 _, SeenI.nil⟩ : CK (l.take 0) w (w.alloc (.map #[] 0)) w.heap.size 0)
  have hmm := @run_makeMap Try.prog
  clear hz
  go_enter Try.func22, Try.ntmps22
  go_wp2
  clear hmm
  go_loopw [12] (fun i wr => ∃ k : Nat, k ≤ l.length ∧ i = .int .i64 k ∧ Hid (CK (l.take k) w wr w.heap.size k) ∧ Hid (z = fst0 (offE l) (l.length - k) k)) (fun i _ => l.length - (intOf i).toNat)
  case atStart => exact ⟨0, Nat.zero_le _, rfl, HCK, HZ⟩
  case round =>
    obtain ⟨k, hk, rfl, hck, hzz⟩ := hrel
    clear HB HZ HCK
    by_cases hlt : k < l.length
    case neg =>
      obtain rfl : k = l.length := by omega
      have hz2 := hzz.out
      rw [Nat.sub_self, fst0] at hz2
      have HZZ := Lib.hid hz2
      have HB := Lib.hid hck.out.bel
      clear hz2 hzz hck
      go_wp2
      go_ret
      exact ⟨ret_i HZZ.out.symm, HB.out⟩
    obtain ⟨b, o, rfl, hbl, t0, t1, t2, t3, pl⟩ := off_at HL.out hlt
    have x0 := (hck.out.bel.cell (p := ⟨b, o + k * 4, none⟩) hbl).trans t0
    have x1 := (hck.out.bel.cell (p := ⟨b, o + k * 4 + 1, none⟩) hbl).trans t1
    have x2 := (hck.out.bel.cell (p := ⟨b, o + k * 4 + 2, none⟩) hbl).trans t2
    have x3 := (hck.out.bel.cell (p := ⟨b, o + k * 4 + 3, none⟩) hbl).trans t3
    have hpre : 0 < k → ∀ W, Below w.heap.size w W → W.cell? ⟨b, o + (k - 1) * 4, none⟩ = some (.int .i64 (ofn l (k - 1)).id) ∧ W.cell? ⟨b, o + (k - 1) * 4 + 2, none⟩ = some (.int .i64 (ofn l (k - 1)).day) := fun h0 W hW => by
      obtain ⟨b', o', e, _, s0, _, s2, _⟩ := off_at HL.out (k := k - 1) (by omega)
      injection e with e; injection e with e1 e2; subst e1 e2
      exact ⟨(hW.cell (p := ⟨b, o + (k - 1) * 4, none⟩) hbl).trans s0, (hW.cell (p := ⟨b, o + (k - 1) * 4 + 2, none⟩) hbl).trans s2⟩
    have ke : offE l k = offE l k := rfl
    conv at ke => rhs; unfold offE
    have kn := fun W => text_Name (S (ofn l k).player) W (by rw [S_size]; exact pl)
    rw [S_data] at kn
    have kd := fun W => con_isDay (ofn l k).day W
    have hbb : Below wr.heap.size wr (wr.alloc (.cells #[.int .i64 (ofn l k).id, .string (S (ofn l k).player), .int .i64 (ofn l k).day, .int .i64 (ofn l k).pts] 35)) := Below.alloc (Below.refl _ _) (Nat.le_refl _) _
    have hcx := hck.out.step hbb
    have hbx : Blk (wr.alloc (.cells #[.int .i64 (ofn l k).id, .string (S (ofn l k).player), .int .i64 (ofn l k).day, .int .i64 (ofn l k).pts] 35)) wr.heap.size 35 _ := Blk.new wr _ _
    have ez : ∀ e : Int, e ≠ 0 → offE l k = e → z = e := fun e he h => hzz.out.trans (fst0_err hlt h he)
    have en : offE l k = 0 → z = fst0 (offE l) (l.length - (k + 1)) (k + 1) := fun h => hzz.out.trans (fst0_next hlt h)
    have hput : ∀ D, SeenI (l.take k) D → SeenI (l.take (k + 1)) (D.put (idLit (ofn l k).id) (.lit (.bool true))) := fun D h => by
      rw [List.take_succ_eq_append_getElem hlt, ofn_at hlt]
      exact h.put _
    have hlook := fun W (hI : CK (l.take k) w W w.heap.size k) (hx : 1 ≤ (ofn l k).id ∧ (ofn l k).id ≤ 1099511627776) => hI.look hx
    obtain ⟨dup, hdup⟩ : ∃ t, t = (l.take k).any (fun x => x.id == (ofn l k).id) := ⟨_, rfl⟩
    rw [← hdup] at ke hlook
    obtain ⟨od, hod⟩ : ∃ t, t = orI (cmpN (ofn l (k - 1)).day (ofn l k).day) (cmpN (ofn l (k - 1)).id (ofn l k).id) := ⟨_, rfl⟩
    have ko := fun n W hn y0 y1 => cmp_Or2 (cmpN (ofn l (k - 1)).day (ofn l k).day) (cmpN (ofn l (k - 1)).id (ofn l k).id) n 2 W hn y0 y1
    rw [← hod] at ke ko
    obtain ⟨⟨xi, xp, xd, xn⟩, hx⟩ : ∃ x, x = ofn l k := ⟨_, rfl⟩
    obtain ⟨⟨yi, yp, yd, yn⟩, hy⟩ : ∃ x, x = ofn l (k - 1) := ⟨_, rfl⟩
    rw [← hx] at x0 x1 x2 x3 ke kn kd ko hcx hbx hput hlook
    rw [← hy] at hpre ko
    obtain ⟨te, hte⟩ : ∃ e, e = offE l k := ⟨_, rfl⟩
    rw [← hte] at ke ez en
    dsimp only at x0 x1 x2 x3 ke kn kd ko hcx hbx hput hlook hpre
    obtain ⟨nm, hnm⟩ : ∃ e, e = nameS xp := ⟨_, rfl⟩
    obtain ⟨dd, hdd⟩ : ∃ e, e = isDayB xd := ⟨_, rfl⟩
    rw [← hnm] at ke kn
    rw [← hdd] at ke kd
    have KN := Lib.hid kn
    have KD := Lib.hid kd
    have KO := Lib.hid ko
    have HCX := Lib.hid hcx
    have HBX := Lib.hid hbx
    have HPUT := Lib.hid hput
    have HLK := Lib.hid hlook
    clear kn kd ko hcx hbx hput hlook t0 t1 t2 t3 pl hdup hod hx hy hte hnm hdd hzz hbb
    have tok0 : True := trivial
    cases i1 : decide (xi < 1)
    case true =>
      rw [i1] at ke
      have HZZ := Lib.hid (ez 2 (by decide) (by rw [ke]; rfl))
      clear ke ez en hpre
      have HF := Lib.hid HCX.out.bel
      go_wp2
      go_ret
      exact ⟨ret_i HZZ.out.symm, HF.out⟩
    cases i2 : decide (1099511627776 < xi)
    case true =>
      rw [i1, i2] at ke
      have HZZ := Lib.hid (ez 2 (by decide) (by rw [ke]; rfl))
      clear ke ez en hpre
      have HF := Lib.hid HCX.out.bel
      go_wp2
      go_ret
      exact ⟨ret_i HZZ.out.symm, HF.out⟩
    have hid : 1 ≤ xi ∧ xi ≤ 1099511627776 := by have h1 := of_decide_eq_false i1; have h2 := of_decide_eq_false i2; omega
    have HID := Lib.hid hid
    rw [i1, i2] at ke
    clear hid
    cases nm
    case false =>
      have HZZ := Lib.hid (ez 5 (by decide) (by rw [ke]; rfl))
      clear ke ez en hpre
      go_wp2_with (first
        | (clear tok0; go_at_call 16; refine (KN.out _).mono ?_; rintro e w2 ⟨rfl, hb2⟩; have HC2 := Lib.hid (HCX.out.step hb2); have hk := HBX.out.below hb2 HBX.out.lt; obtain ⟨y0, y1, y2, y3⟩ := blk_four hk; have hgz := hk.lt; have HB2 := Lib.hid hk; clear hk hb2; have tok1 : True := trivial))
      go_ret
      exact ⟨ret_i HZZ.out.symm, HC2.out.bel⟩
    cases dd
    case false =>
      have HZZ := Lib.hid (ez 2 (by decide) (by rw [ke]; rfl))
      clear ke ez en hpre
      go_wp2_with (first
        | (clear tok0; go_at_call 16; refine (KN.out _).mono ?_; rintro e w2 ⟨rfl, hb2⟩; have HC2 := Lib.hid (HCX.out.step hb2); have hk := HBX.out.below hb2 HBX.out.lt; obtain ⟨y0, y1, y2, y3⟩ := blk_four hk; have hgz := hk.lt; have HB2 := Lib.hid hk; clear hk hb2; have tok1 : True := trivial)
        | (clear tok1; go_at_call 34; refine (KD.out _).mono ?_; rintro e w3 ⟨rfl, rfl⟩; have tok2 : True := trivial))
      go_ret
      exact ⟨ret_i HZZ.out.symm, HC2.out.bel⟩
    cases p1 : decide (xn < 1)
    case true =>
      rw [p1] at ke
      have HZZ := Lib.hid (ez 2 (by decide) (by rw [ke]; rfl))
      clear ke ez en hpre
      go_wp2_with (first
        | (clear tok0; go_at_call 16; refine (KN.out _).mono ?_; rintro e w2 ⟨rfl, hb2⟩; have HC2 := Lib.hid (HCX.out.step hb2); have hk := HBX.out.below hb2 HBX.out.lt; obtain ⟨y0, y1, y2, y3⟩ := blk_four hk; have hgz := hk.lt; have HB2 := Lib.hid hk; clear hk hb2; have tok1 : True := trivial)
        | (clear tok1; go_at_call 34; refine (KD.out _).mono ?_; rintro e w3 ⟨rfl, rfl⟩; have tok2 : True := trivial))
      go_ret
      exact ⟨ret_i HZZ.out.symm, HC2.out.bel⟩
    cases p2 : decide (8 < xn)
    case true =>
      rw [p1, p2] at ke
      have HZZ := Lib.hid (ez 2 (by decide) (by rw [ke]; rfl))
      clear ke ez en hpre
      go_wp2_with (first
        | (clear tok0; go_at_call 16; refine (KN.out _).mono ?_; rintro e w2 ⟨rfl, hb2⟩; have HC2 := Lib.hid (HCX.out.step hb2); have hk := HBX.out.below hb2 HBX.out.lt; obtain ⟨y0, y1, y2, y3⟩ := blk_four hk; have hgz := hk.lt; have HB2 := Lib.hid hk; clear hk hb2; have tok1 : True := trivial)
        | (clear tok1; go_at_call 34; refine (KD.out _).mono ?_; rintro e w3 ⟨rfl, rfl⟩; have tok2 : True := trivial))
      go_ret
      exact ⟨ret_i HZZ.out.symm, HC2.out.bel⟩
    rw [p1, p2] at ke
    rcases Nat.eq_zero_or_pos k with hk0 | hk0
    · rw [decide_eq_false (show ¬ 0 < k by omega), Bool.false_and] at ke
      have g2 : decide (0 < k) = false := decide_eq_false (by omega)
      clear hk0 hpre
      go_wp2_with (first
        | (clear tok0; go_at_call 16; refine (KN.out _).mono ?_; rintro e w2 ⟨rfl, hb2⟩; have HC2 := Lib.hid (HCX.out.step hb2); have hk := HBX.out.below hb2 HBX.out.lt; obtain ⟨y0, y1, y2, y3⟩ := blk_four hk; have hgz := hk.lt; have HB2 := Lib.hid hk; clear hk hb2; have tok1 : True := trivial)
        | (clear tok1; go_at_call 34; refine (KD.out _).mono ?_; rintro e w3 ⟨rfl, rfl⟩; have tok2 : True := trivial))
      have HC3d := Lib.hid (fun nq => HC2.out.step (Below.drewN_ (Below.refl _ _) nq))
      have HB3d := Lib.hid (fun nq => HB2.out.below (Below.drewN_ (Below.refl w2.heap.size w2) nq) HB2.out.lt)
      go_quiet (fail)
      have HC4 := Lib.hid (HC3d.out nq)
      clear y0 y1 y2 y3
      obtain ⟨y0, y1, y2, y3⟩ := blk_four (HB3d.out nq)
      obtain ⟨D, hmap, hseen⟩ := HC4.out.map
      have HMAP := Lib.hid hmap
      have HSEEN := Lib.hid hseen
      clear hmap hseen
      have HKEY := Lib.hid (show keyOf Try.prog 2 (.int .i64 xi) = some (idLit xi) from keyOf_int_mk Try.underlying2 (WalkArith.wf_i64 (by have := HID.out; omega)))
      have HTR := Lib.hid (show plainElem (H := Unit) Try.prog 4 (.bool true) = some (.lit (.bool true), []) by simp [plainElem, Try.underlying4])
      have hlk := HLK.out _ HC4.out HID.out
      cases dup
      case true =>
        have HZZ := Lib.hid (ez 7 (by decide) (by rw [ke]; rfl))
        clear ke ez en
        go_wp2
        go_ret
        exact ⟨ret_i HZZ.out.symm, HC4.out.bel⟩
      have HZZ := Lib.hid (en (by rw [ke]; rfl))
      clear ke ez en
      go_wp2_with (first
        | (at_mapUpdate; refine wpList_mapUpdate_own _ rfl _ _ _ 73 rfl 2 4 i64_keyed Try.underlying73 _ w.heap.size k D rfl HMAP.out (by unfold maxLen; omega) _ _ (idLit xi) rfl rfl HKEY.out (.lit (.bool true)) [] HTR.out ?_; intro w6 hm6 hg6; have HM6 := Lib.hid hm6; have HG6 := Lib.hid hg6; clear hm6 hg6; have tok6 : True := trivial))
      go_roundw
      case rel => exact ⟨k + 1, by omega, by go_num, Lib.hid ⟨HC4.out.bel.grown HG6.out HC4.out.bel.size (fun q hq => by injection hq with hq; omega), Nat.le_refl _, _, HM6.out, HPUT.out _ HSEEN.out⟩, HZZ⟩
      case measure => simp [intOf]; omega
    · rw [decide_eq_true hk0, Bool.true_and] at ke
      have g2 : (0 : Int) < (k : Int) := by omega
      have g3 : IntKind.i64.wrap ((k : Int) - 1) = ((k - 1 : Nat) : Int) := by rw [show ((k - 1 : Nat) : Int) = (k : Int) - 1 by omega]; exact IntWalk.i64_in _ (by omega)
      have g4 : ((k - 1 : Nat) : Int) < (l.length : Int) := by omega
      have g5 : k - 1 < l.length := by omega
      have HPRE := Lib.hid (hpre hk0)
      clear hpre
      go_wp2_with (first
        | (clear tok0; go_at_call 16; refine (KN.out _).mono ?_; rintro e w2 ⟨rfl, hb2⟩; have HC2 := Lib.hid (HCX.out.step hb2); have hk := HBX.out.below hb2 HBX.out.lt; obtain ⟨y0, y1, y2, y3⟩ := blk_four hk; have hgz := hk.lt; have HB2 := Lib.hid hk; clear hk hb2; have tok1 : True := trivial)
        | (clear tok1; go_at_call 34; refine (KD.out _).mono ?_; rintro e w3 ⟨rfl, rfl⟩; have tok2 : True := trivial))
      have hk2 := HB2.out.drew
      have hc2 := HC2.out.step (Below.drew (Below.refl _ _))
      clear y0 y1 y2 y3
      obtain ⟨y0, y1, y2, y3⟩ := blk_four hk2
      obtain ⟨z0, z2⟩ := HPRE.out _ hc2.bel
      have FA := Lib.hid (fun o2 => (⟨((HB2.out.alloc o2).drew).cell 0, ((HB2.out.alloc o2).drew).cell 2, (HPRE.out _ ((HC2.out.step (Below.alloc (Below.refl _ _) (Nat.le_refl _) o2)).step (Below.drew (Below.refl _ _))).bel).1, (HPRE.out _ ((HC2.out.step (Below.alloc (Below.refl _ _) (Nat.le_refl _) o2)).step (Below.drew (Below.refl _ _))).bel).2⟩ : (w2.alloc o2).drew.cell? ⟨wr.heap.size, 0, none⟩ = some (.int .i64 xi) ∧ (w2.alloc o2).drew.cell? ⟨wr.heap.size, 2, none⟩ = some (.int .i64 xd) ∧ (w2.alloc o2).drew.cell? ⟨b, o + (k - 1) * 4, none⟩ = some (.int .i64 yi) ∧ (w2.alloc o2).drew.cell? ⟨b, o + (k - 1) * 4 + 2, none⟩ = some (.int .i64 yd)))
      have hn := (Blk.new w2 3 #[.int .i64 (cmpN yd xd), .int .i64 (cmpN yi xi)]).drew
      have KO4 := Lib.hid (KO.out w2.heap.size (w2.alloc (.cells #[.int .i64 (cmpN yd xd), .int .i64 (cmpN yi xi)] 3)).drew hn.lt (hn.cell 0) (hn.cell 1))
      have HC4 := Lib.hid ((HC2.out.step (Below.alloc (Below.refl _ _) (Nat.le_refl _) (.cells #[.int .i64 (cmpN yd xd), .int .i64 (cmpN yi xi)] 3))).step (Below.drew (Below.refl _ _)))
      have HB4 := Lib.hid ((HB2.out.alloc (.cells #[.int .i64 (cmpN yd xd), .int .i64 (cmpN yi xi)] 3)).drew)
      clear hk2 hc2 hn
      cases od1 : decide (0 ≤ od)
      case true =>
        rw [od1] at ke
        have HZZ := Lib.hid (ez 8 (by decide) (by rw [ke]; rfl))
        clear ke ez en
        go_region_held3 (fun w' => w'.cell? ⟨wr.heap.size, 0, none⟩ = some (.int .i64 xi) ∧ w'.cell? ⟨wr.heap.size, 2, none⟩ = some (.int .i64 xd) ∧ w'.cell? ⟨b, o + (k - 1) * 4, none⟩ = some (.int .i64 yi) ∧ w'.cell? ⟨b, o + (k - 1) * 4 + 2, none⟩ = some (.int .i64 yd)) (first | exact ⟨y0, y2, z0, z2⟩ | exact FA.out _ | go_keep) (first | (go_at_call 31; refine (cmp_64 _ _ _).mono ?_; rintro e w4 ⟨rfl, rfl⟩) | (go_at_call 30; refine KO4.out.mono ?_; rintro e w5 ⟨rfl, rfl⟩))
        go_wp2
        go_ret
        exact ⟨ret_i HZZ.out.symm, HC4.out.bel⟩
      rw [od1] at ke
      go_region_held3 (fun w' => w'.cell? ⟨wr.heap.size, 0, none⟩ = some (.int .i64 xi) ∧ w'.cell? ⟨wr.heap.size, 2, none⟩ = some (.int .i64 xd) ∧ w'.cell? ⟨b, o + (k - 1) * 4, none⟩ = some (.int .i64 yi) ∧ w'.cell? ⟨b, o + (k - 1) * 4 + 2, none⟩ = some (.int .i64 yd)) (first | exact ⟨y0, y2, z0, z2⟩ | exact FA.out _ | go_keep) (first | (go_at_call 31; refine (cmp_64 _ _ _).mono ?_; rintro e w4 ⟨rfl, rfl⟩) | (go_at_call 30; refine KO4.out.mono ?_; rintro e w5 ⟨rfl, rfl⟩))
      clear y0 y1 y2 y3
      obtain ⟨y0, y1, y2, y3⟩ := blk_four HB4.out
      obtain ⟨D, hmap, hseen⟩ := HC4.out.map
      have HMAP := Lib.hid hmap
      have HSEEN := Lib.hid hseen
      clear hmap hseen
      have HKEY := Lib.hid (show keyOf Try.prog 2 (.int .i64 xi) = some (idLit xi) from keyOf_int_mk Try.underlying2 (WalkArith.wf_i64 (by have := HID.out; omega)))
      have HTR := Lib.hid (show plainElem (H := Unit) Try.prog 4 (.bool true) = some (.lit (.bool true), []) by simp [plainElem, Try.underlying4])
      have hlk := HLK.out _ HC4.out HID.out
      cases dup
      case true =>
        have HZZ := Lib.hid (ez 7 (by decide) (by rw [ke]; rfl))
        clear ke ez en
        go_wp2
        go_ret
        exact ⟨ret_i HZZ.out.symm, HC4.out.bel⟩
      have HZZ := Lib.hid (en (by rw [ke]; rfl))
      clear ke ez en
      go_wp2_with (first
        | (at_mapUpdate; refine wpList_mapUpdate_own _ rfl _ _ _ 73 rfl 2 4 i64_keyed Try.underlying73 _ w.heap.size k D rfl HMAP.out (by unfold maxLen; omega) _ _ (idLit xi) rfl rfl HKEY.out (.lit (.bool true)) [] HTR.out ?_; intro w6 hm6 hg6; have HM6 := Lib.hid hm6; have HG6 := Lib.hid hg6; clear hm6 hg6; have tok6 : True := trivial))
      go_roundw
      case rel => exact ⟨k + 1, by omega, by go_num, Lib.hid ⟨HC4.out.bel.grown HG6.out HC4.out.bel.size (fun q hq => by injection hq with hq; omega), Nat.le_refl _, _, HM6.out, HPUT.out _ HSEEN.out⟩, HZZ⟩
      case measure => simp [intOf]; omega
end Go.Proofs.Ytajcnjehjkpieaa
