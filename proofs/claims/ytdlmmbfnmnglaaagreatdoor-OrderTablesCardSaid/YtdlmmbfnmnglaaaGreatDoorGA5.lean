/- Several texts of this family in one: V5 Z25 Z26 Z27 Z28 V7 V28 Z29 V8. -/
import Derived.Test.YtdlmmbfnmnglaaaGreatDoorGA4
set_option linter.unusedSimpArgs false
set_option linter.unusedVariables false
namespace Go.Proofs.YtdlmmbfnmnglaaaGreatDoor
open Go.RowKit Go.Maps

/-- A task and a state boxed in value's frame, the maker's boxes and the map beside them. -/
structure SolV (w W : World) (F : Nat → Prop) (b g0 g2 N : Nat) (P : DataW Unit → Prop) (c : Chs) (bv wv pv ov : Value) (s : Ost) : Prop where
  only : Only b w W
  box : Blk W w.heap.size 42 #[bv, wv, pv, .int .i64 c.over, .int .i64 c.done, .int .i64 c.need, ov]
  st : Blk W (w.heap.size + 1) 45 #[.int .i64 s.ball, .int .i64 s.need, .int .i64 s.str, .int .i64 s.par, .int .u16 s.wait]
  blt : b < w.heap.size
  env : EnvO W F b g0 g2 c bv wv pv ov
  vals : ∃ D, ValsO W b N D ∧ KnownO c D ∧ P D
section
variable {w W W' : World} {F : Nat → Prop} {b g0 g2 N N' : Nat} {P P' : DataW Unit → Prop} {c : Chs} {bv wv pv ov : Value} {s : Ost}
theorem SolV.below (h : SolV w W F b g0 g2 N P c bv wv pv ov s) (hb : Below W.heap.size W W') : SolV w W' F b g0 g2 N P c bv wv pv ov s :=
  ⟨h.only.trans (Only.of_below hb), h.box.below hb h.box.lt, h.st.below hb h.st.lt, h.blt, h.env.only (Only.of_below hb), let ⟨D, h1, h2, h3⟩ := h.vals; ⟨D, ovals_below h1 hb, h2, h3⟩⟩
theorem SolV.alloc (h : SolV w W F b g0 g2 N P c bv wv pv ov s) (o : Obj) : SolV w (W.alloc o) F b g0 g2 N P c bv wv pv ov s := h.below (Below.alloc (Below.refl _ _) (Nat.le_refl _) o)
theorem SolV.into (h : SolV w W F b g0 g2 N P c bv wv pv ov s) (ho : Only b W W') (hv : ∃ D, ValsO W' b N' D ∧ KnownO c D ∧ P' D) : SolV w W' F b g0 g2 N' P' c bv wv pv ov s :=
  ⟨h.only.trans ho, h.box.grown ho (by intro e; injection e with e; have := h.blt; omega), h.st.grown ho (by intro e; injection e with e; have := h.blt; omega), h.blt, h.env.only ho, hv⟩
theorem SolV.cells (h : SolV w W F b g0 g2 N P c bv wv pv ov s) : W.cell? ⟨w.heap.size, 0, none⟩ = some bv ∧ W.cell? ⟨w.heap.size, 1, none⟩ = some wv ∧ W.cell? ⟨w.heap.size, 2, none⟩ = some pv ∧ W.cell? ⟨w.heap.size, 3, none⟩ = some (.int .i64 c.over) ∧ W.cell? ⟨w.heap.size, 4, none⟩ = some (.int .i64 c.done) ∧ W.cell? ⟨w.heap.size, 5, none⟩ = some (.int .i64 c.need) ∧ W.cell? ⟨w.heap.size, 6, none⟩ = some ov ∧
    W.cell? ⟨w.heap.size + 1, 0, none⟩ = some (.int .i64 s.ball) ∧ W.cell? ⟨w.heap.size + 1, 1, none⟩ = some (.int .i64 s.need) ∧ W.cell? ⟨w.heap.size + 1, 2, none⟩ = some (.int .i64 s.str) ∧ W.cell? ⟨w.heap.size + 1, 3, none⟩ = some (.int .i64 s.par) ∧ W.cell? ⟨w.heap.size + 1, 4, none⟩ = some (.int .u16 s.wait) :=
  ⟨h.box.cell 0, h.box.cell 1, h.box.cell 2, h.box.cell 3, h.box.cell 4, h.box.cell 5, h.box.cell 6, h.st.cell 0, h.st.cell 1, h.st.cell 2, h.st.cell 3, h.st.cell 4⟩
theorem SolV.new {D : DataW Unit} (he : EnvO w F b g0 g2 c bv wv pv ov) (h1 : ValsO w b N D) (h2 : KnownO c D) (h3 : P D) : SolV w ((w.alloc (.cells #[bv, wv, pv, .int .i64 c.over, .int .i64 c.done, .int .i64 c.need, ov] 42)).alloc (.cells #[.int .i64 s.ball, .int .i64 s.need, .int .i64 s.str, .int .i64 s.par, .int .u16 s.wait] 45)) F b g0 g2 N P c bv wv pv ov s :=
  let hx := OSB.new w c bv wv pv ov s
  ⟨Only.of_below hx.bel, hx.box, hx.st, h1.lt, he.only (Only.of_below hx.bel), D, ovals_below h1 hx.bel, h2, h3⟩
/-- The chase lies still. -/
theorem SolV.chb (h : SolV w W F b g0 g2 N P c bv wv pv ov s) : ChAt W (· < W.heap.size) bv wv pv ov c := h.env.ch.keep (Same.refl _ _) fun x hx => (h.env.hF x hx).1
end
/-- What the function handed to value does. -/
def LookO (f : FuncId) (F : Nat → Prop) (b g0 g2 K m : Nat) (c : Chs) (bv wv pv ov : Value) : Prop := ∀ (x : Ost), OkOs c x → ReachO c x → rankO c x < m → ∀ (N : Nat) (D : DataW Unit) (W : World), EnvO W F b g0 g2 c bv wv pv ov → ValsO W b N D → KnownO c D → N + K ≤ 2000000000000000000 →
  Calls Tryz.prog f #[osV x, .pointer (some ⟨g0, 0, none⟩), .pointer (some ⟨g2, 0, none⟩)] W fun e W' => e = .returned (.tuple #[.int .i64 (vO c x), .bool true]) ∧ Only b W W' ∧ ∃ D', ValsO W' b (N + K) D' ∧ KnownO c D' ∧ GrewO D D' ∧ Maps.has D' (keyOs x) = true
theorem bestF_at {f : Int → Int} {w : Int} {k : Nat} (h : bitW w k = true) : bestF f w (k + 1) = max (bestF f w k) (f k) := by rw [bestF, if_pos h]
theorem bestF_not {f : Int → Int} {w : Int} {k : Nat} (h : bitW w k = false) : bestF f w (k + 1) = bestF f w k := by rw [bestF, if_neg (by simp [h])]
set_option maxRecDepth 100000 in
set_option maxHeartbeats 8000000 in
theorem or_value (c : Chs) (ht : OkT c) (s : Ost) (hs : OkOs c s) (hr : ReachO c s) (F : Nat → Prop) (b g0 g2 K N : Nat) (D : DataW Unit) (bv wv pv ov : Value) (w : World) (hlook : LookO 97 F b g0 g2 K (rankO c s) c bv wv pv ov) (henv : EnvO w F b g0 g2 c bv wv pv ov) (hown : ValsO w b N D) (hkn : KnownO c D) (hN : N + (if rankO c s % 2 = 1 then 6 else 16) * K ≤ 2000000000000000000) :
    Calls Tryz.prog 44 #[chV c bv wv pv ov, osV s, .func (.func 97) #[] #[.pointer (some ⟨g0, 0, none⟩), .pointer (some ⟨g2, 0, none⟩)]] w fun e w' => e = .returned (.tuple #[.int .i64 (vO c s), .bool true]) ∧ Only b w w' ∧ ∃ D', ValsO w' b (N + (if rankO c s % 2 = 1 then 6 else 16) * K) D' ∧ KnownO c D' ∧ GrewO D D' ∧ ∀ x ∈ (nextsO c s).1, Maps.has D' (keyOs x) = true := by
  obtain ⟨z, hz⟩ : ∃ z, z = vO c s := ⟨_, rfl⟩
  have hbd := vO_bd ht _ s hs rfl
  have hp16 := pow16_le (leftO_le ht hs)
  have hz0 : 0 ≤ z ∧ z ≤ 281474976710656 := by rw [hz]; omega
  have hnp := ht.np
  have hch := henv.ch
  have hFF := henv.hF
  rw [← hz]
  obtain ⟨A, ca, rfl, hc1, hc2⟩ := hch.mdl.bat.shape
  obtain ⟨A1, ca1, rfl, hc3, hc4⟩ := hch.mdl.bow.shape
  obtain ⟨A2, ca2, rfl, hc5, hc6⟩ := hch.bow.shape
  obtain ⟨A3, ca3, rfl, hc7, hc8⟩ := hch.ord.shape
  obtain ⟨xs, hxs⟩ : ∃ xs, xs = (nextsO c s).1 := ⟨_, rfl⟩
  rw [← hxs]
  have hnx := ReachO.next hr
  rw [← hxs] at hnx
  have hsol := SolV.new (s := s) (P := fun D' => GrewO D D' ∧ ∀ x ∈ xs.take 0, Maps.has D' (keyOs x) = true) henv hown hkn ⟨GrewO.refl _, fun x hx => by cases hx⟩
  have HSOL := Lib.hid hsol
  have kend := fun W (hW : ChAt W (· < W.heap.size) (.slice A c.mdl.bats.length ca) (.slice A1 c.mdl.bows.length ca1) (.slice A2 c.bows.length ca2) (.slice A3 c.ord.length ca3) c) => or_ended c s _ _ _ _ W hW
  have kvac := fun W => or_vacant s W
  have kpow := fun W (hW : ChAt W (· < W.heap.size) (.slice A c.mdl.bats.length ca) (.slice A1 c.mdl.bows.length ca1) (.slice A2 c.bows.length ca2) (.slice A3 c.ord.length ca3) c) => or_power c s _ _ _ _ W hW ht hs
  unfold chV at kend kpow ⊢
  have hwon := fun h => vO_won (c := c) (s := s) h
  have hlost := fun h h2 => vO_lost (c := c) (s := s) h h2
  obtain ⟨Q, hQ⟩ : ∃ q, q = (if rankO c s % 2 = 1 then 6 else 16) * K := ⟨_, rfl⟩
  rw [← hQ] at hN ⊢
  have tok0 : True := trivial
  by_cases h0 : s.need = 0
  · have hw0 := hwon h0
    have hx0 : xs = [] := by rw [hxs]; exact nexts_end (by unfold endO; simp [h0])
    have HXE := Lib.hid hx0
    rw [← hz] at hw0
    rw [← hw0] at kpow
    have KP := Lib.hid kpow
    have e0 : (s.need == 0) = true := beq_iff_eq.2 h0
    obtain ⟨ball, need, str, par, wait⟩ := s
    unfold osV at KP ⊢
    dsimp only at e0
    obtain ⟨y0, y1, y2, y3, y4, y5, y6, t0, t1, t2, t3, t4⟩ := HSOL.out.cells
    dsimp only at KP t0 t1 t2 t3 t4
    clear hx0 hxs hnx hr kend kvac kpow hwon hlost hw0 h0 hz hbd hp16 hlook henv hown hkn hs hch hFF hQ hsol ht y0 y1 y2 y3 y4 y5 y6 t0 t1 t2 t3 t4
    go_enter Tryz.func44, Tryz.ntmps44
    go_wp2_with (clear tok0; go_at_call 86; refine (KP.out _ HSOL.out.chb).mono ?_; rintro e w2 ⟨rfl, hb2⟩; have HS2 := Lib.hid (HSOL.out.below hb2); clear hb2; have tok1 : True := trivial)
    go_ret2
    exact ⟨rfl, HS2.out.only, by obtain ⟨D2, h1, h2, h3⟩ := HS2.out.vals; exact ⟨D2, h1.mono (by omega), h2, h3.1, fun x hx => by rw [HXE.out] at hx; cases hx⟩⟩
  have e0 : (s.need == 0) = false := beq_eq_false_iff_ne.2 h0
  by_cases h1 : s.ball = c.bows.length
  · have hl := hlost h0 h1
    have hx0 : xs = [] := by rw [hxs]; exact nexts_end (by unfold endO; simp [h1])
    have HXE := Lib.hid hx0
    rw [← hz] at hl
    have hend : endO c s = true := by unfold endO; simp [h1]
    rw [hend] at kend
    have KE := Lib.hid kend
    obtain ⟨ball, need, str, par, wait⟩ := s
    unfold osV at KE ⊢
    dsimp only at e0 KE
    subst hl
    clear hx0 hxs hnx hr kend kvac kpow hwon hlost h0 h1 hz hbd hp16 hlook henv hown hkn hs hch hFF hQ hsol ht hend
    go_enter Tryz.func44, Tryz.ntmps44
    go_wp2_with (clear tok0; go_at_call 87; refine (KE.out _ HSOL.out.chb).mono ?_; rintro e w2 ⟨rfl, hb2⟩; have HS2 := Lib.hid (HSOL.out.below hb2); clear hb2; have tok1 : True := trivial)
    go_ret2
    exact ⟨rfl, HS2.out.only, by obtain ⟨D2, h1, h2, h3⟩ := HS2.out.vals; exact ⟨D2, h1.mono (by omega), h2, h3.1, fun x hx => by rw [HXE.out] at hx; cases hx⟩⟩
  have hend : endO c s = false := by unfold endO; simp [h0, h1]
  rw [hend] at kend
  have KE := Lib.hid kend
  clear hwon hlost kpow
  cases hv : vacO s
  · -- a ball is bowled
    rw [hv] at kvac
    have KV := Lib.hid kvac
    have kmv := fun W (hW : ChAt W (· < W.heap.size) (.slice A c.mdl.bats.length ca) (.slice A1 c.mdl.bows.length ca1) (.slice A2 c.bows.length ca2) (.slice A3 c.ord.length ca3) c) => or_moves c s _ _ _ _ W hW ht.ok hs h1 hv
    obtain ⟨_, _, _, _, _, _, _, _, _, _, _, _, _, _, _, hd⟩ := mvO_at ht.ok hs h1 hv
    have hrun := vO_run ht.ok hs h0 h1 hv
    rw [← hz] at hrun
    obtain ⟨l, hle⟩ : ∃ l, mvO c s = l := ⟨_, rfl⟩
    rw [hle] at hd hrun kmv
    have hok := checkD_ok hd
    have hlen : l.length ≤ 16 := hok.len.2
    have hoe : ∀ (k : Nat) (hk : k < l.length), OkO l[k] := fun k hk => hok.each _ (List.getElem_mem hk)
    have kstep := fun k (hk : k < l.length) W => or_step c s l[k] A A1 A2 A3 ca ca1 ca2 ca3 W ht hs h1 hv ⟨(hoe k hk).r0, (hoe k hk).r7⟩
    have hxl : xs = l.map (stepO c s) := by rw [hxs, nexts_run hend hv, hle]
    have krec := fun k (hk : k < l.length) N' D' W => hlook (stepO c s l[k]) (rank_step hs h1 hv (hoe k hk).r0).1 (hnx _ (by rw [hxl]; exact List.mem_map.2 ⟨_, List.getElem_mem hk, rfl⟩)) (by have := (rank_step hs h1 hv (hoe k hk).r0).2; omega) N' D' W
    have hprod : ∀ (k : Nat) (hk : k < l.length), 0 ≤ l[k].wt * vO c (stepO c s l[k]) ∧ l[k].wt * vO c (stepO c s l[k]) ≤ 281474976710656 := fun k hk => by
      obtain ⟨k1, k2, _⟩ := stepO_ok hs h1 hv (hoe k hk).r0
      have h8 := ht.nb
      have h9 := hs.ball
      exact prod_bd (n := leftO c (stepO c s l[k])) (by unfold leftO; rw [k2]; omega) ⟨(hoe k hk).w1, (hoe k hk).w16⟩ (vO_bd ht _ _ k1 rfl)
    have hsum : ∀ (k : Nat) (hk : k < l.length) (sm : Int), sm = sumI ((l.take k).map fun o => o.wt * vO c (stepO c s o)) → sm + l[k].wt * vO c (stepO c s l[k]) = sumI ((l.take (k + 1)).map fun o => o.wt * vO c (stepO c s o)) := fun k hk sm h => by
      rw [h, sum_take (fun o : Otc => o.wt * vO c (stepO c s o)) hk]
    have htk : ∀ (k : Nat) (hk : k < l.length) (x : Ost), x ∈ xs.take (k + 1) → x ∈ xs.take k ∨ x = stepO c s l[k] := fun k hk x hx => by
      have hk2 : k < xs.length := by rw [hxl, List.length_map]; exact hk
      rw [List.take_add_one, List.getElem?_eq_getElem hk2] at hx
      rcases List.mem_append.1 hx with hx | hx
      · exact .inl hx
      · refine .inr ?_
        have : xs[k] = stepO c s l[k] := by simp only [hxl, List.getElem_map]
        rw [← this]; simpa using hx
    have hxn : xs.take l.length = xs := List.take_of_length_le (by rw [hxl, List.length_map]; exact Nat.le_refl _)
    have HTK := Lib.hid htk
    have HXN := Lib.hid hxn
    have hK : 16 * K ≤ Q := by
      have hpar : rankO c s % 2 = 0 := by unfold rankO; rw [hv]; simp
      rw [hQ, if_neg (by omega)]; exact Nat.le_refl _
    have KMV := Lib.hid kmv
    have KSTEP := Lib.hid kstep
    have KREC := Lib.hid krec
    have HPR := Lib.hid hprod
    have HSUM := Lib.hid hsum
    have HFIN := Lib.hid hrun.symm
    obtain ⟨ball, need, str, par, wait⟩ := s
    unfold osV at KE KV KMV KSTEP KREC ⊢
    dsimp only at e0 KE KV KMV KSTEP KREC HTK
    clear hxl htk hxn hxs hnx hr kend kvac kmv kstep krec hprod hsum hrun hd hok hoe hle h0 h1 hz hbd hp16 hlook henv hown hkn hs hch hFF hQ hsol ht hend hv
    go_enter Tryz.func44, Tryz.ntmps44
    go_wp2_with (first
      | (clear tok0; go_at_call 87; refine (KE.out _ HSOL.out.chb).mono ?_; rintro e w2 ⟨rfl, hb2⟩; have HS2 := Lib.hid (HSOL.out.below hb2); obtain ⟨y0, y1, y2, y3, y4, y5, y6, t0, t1, t2, t3, t4⟩ := HS2.out.cells; dsimp only at t0 t1 t2 t3 t4; clear hb2; have tok1 : True := trivial)
      | (clear tok1; go_at_call 88; refine (KV.out _).mono ?_; rintro e w3 ⟨rfl, hb2⟩; have HS3 := Lib.hid (HS2.out.below hb2); clear y0 y1 y2 y3 y4 y5 y6 t0 t1 t2 t3 t4; obtain ⟨y0, y1, y2, y3, y4, y5, y6, t0, t1, t2, t3, t4⟩ := HS3.out.cells; dsimp only at t0 t1 t2 t3 t4; clear hb2; have tok2 : True := trivial)
      | (clear tok2; go_at_call 90; refine (KMV.out _ HS3.out.chb).mono ?_; rintro e w4 ⟨A4, n4, k4, rfl, hb3, hs3⟩; obtain ⟨Az, kz, hze, hz1, hz2⟩ := hs3.shape; have hn4 : n4 = l.length := (by injection hze); subst hn4; have HS4 := Lib.hid (HS3.out.below hb3); have HL4 := Lib.hid (hs3.keep (G := fun x => x < w4.heap.size ∧ x ≠ b) elOtc_good (Same.refl _ _) fun x hx => ⟨hx.2, by have := HS3.out.blt; have := HS3.out.only.size; omega⟩); clear y0 y1 y2 y3 y4 y5 y6 t0 t1 t2 t3 t4; obtain ⟨y0, y1, y2, y3, y4, y5, y6, t0, t1, t2, t3, t4⟩ := HS4.out.cells; dsimp only at t0 t1 t2 t3 t4; clear hb3 hs3 hze hz1 hz2; have tok3 : True := trivial))
    go_loopw [8, 61] (fun v i wr => ∃ (k : Nat) (sm : Int), k ≤ l.length ∧ i = .int .i64 k ∧ v = .int .i64 sm ∧ 0 ≤ sm ∧ sm ≤ 281474976710656 * k ∧ Hid (SolV w wr F b g0 g2 (N + k * K) (fun D' => GrewO D D' ∧ ∀ x ∈ xs.take k, Maps.has D' (keyOs x) = true) c (.slice A c.mdl.bats.length ca) (.slice A1 c.mdl.bows.length ca1) (.slice A2 c.bows.length ca2) (.slice A3 c.ord.length ca3) ⟨ball, need, str, par, wait⟩) ∧ Hid (Sl 3 elOtc wr (fun x => x < wr.heap.size ∧ x ≠ b) (.slice A4 l.length k4) l) ∧ Hid (sm = sumI ((l.take k).map fun o => o.wt * vO c (stepO c ⟨ball, need, str, par, wait⟩ o)))) (fun _ i _ => l.length - (intOf i).toNat)
    case atStart => exact ⟨0, 0, Nat.zero_le _, rfl, rfl, by omega, by omega, Lib.hid (by rw [Nat.zero_mul]; exact HS4.out), HL4, Lib.hid rfl⟩
    case round =>
      clear HS2 HS3 HS4 HL4 y0 y1 y2 y3 y4 y5 y6 t0 t1 t2 t3 t4
      obtain ⟨k, sm, hk, rfl, rfl, hs0, hs1, HS, HL, hss⟩ := hrel
      by_cases hlt : k < l.length
      · obtain ⟨b0, o, rfl, hbl, j0, j1, j2⟩ := otc_at HL.out hlt
        have hp := HPR.out k hlt
        have hst := HSUM.out k hlt sm hss.out
        have kS := KSTEP.out k hlt
        have kR := KREC.out k hlt
        have hT := HTK.out k hlt
        obtain ⟨s', hs'⟩ : ∃ x, x = stepO c ⟨ball, need, str, par, wait⟩ l[k] := ⟨_, rfl⟩
        rw [← hs'] at hp hst
        simp only [← hs'] at kS kR hT
        obtain ⟨vv, hvv⟩ : ∃ x, x = vO c s' := ⟨_, rfl⟩
        rw [← hvv] at hp hst
        simp only [← hvv] at kR
        obtain ⟨⟨pr, pw, pt⟩, hp'⟩ : ∃ p, p = l[k] := ⟨_, rfl⟩
        rw [← hp'] at j0 j1 j2 hp hst
        simp only [← hp'] at kS
        dsimp only at j0 j1 j2 hp hst kS
        obtain ⟨hp0, hp1⟩ := hp
        have hkq : k * K + K ≤ Q := by have := Nat.mul_le_mul_right K (show k + 1 ≤ 16 by omega); rw [Nat.add_mul, Nat.one_mul] at this; omega
        have HST := Lib.hid hst
        have KS := Lib.hid kS
        have KR := Lib.hid kR
        have HKQ := Lib.hid hkq
        have HT := Lib.hid hT
        clear hst kS kR hT hs' hvv hp' hss hkq
        have HSA := Lib.hid (HS.out.alloc (.cells #[.int .i64 pr, .bool pw, .int .i64 pt] 110))
        have HLA := Lib.hid (sl_only HL.out (Only.of_below (g := b) (Below.alloc (Below.refl wr.heap.size wr) (Nat.le_refl _) (.cells #[.int .i64 pr, .bool pw, .int .i64 pt] 110))))
        have HCA := Lib.hid (Blk.new wr 110 #[.int .i64 pr, .bool pw, .int .i64 pt])
        obtain ⟨y0, y1, y2, y3, y4, y5, y6, t0, t1, t2, t3, t4⟩ := HS.out.cells; dsimp only at t0 t1 t2 t3 t4
        have hl1 := HS.out.box.lt
        have hl2 := HS.out.st.lt
        have hwb : b < wr.heap.size := by have := HS.out.blt; have := HS.out.only.size; omega
        have tok5 : True := trivial
        go_wp2_with (first
          | (clear tok5; go_at_call 91; refine (KS.out _).mono ?_; rintro e w5 ⟨rfl, hb5⟩; have HS5 := Lib.hid (HSA.out.below hb5); have HL5 := Lib.hid (sl_only HLA.out (Only.of_below hb5)); have HC5 := Lib.hid (HCA.out.below hb5 HCA.out.lt); clear y0 y1 y2 y3 y4 y5 y6 t0 t1 t2 t3 t4; obtain ⟨y0, y1, y2, y3, y4, y5, y6, t0, t1, t2, t3, t4⟩ := HS5.out.cells; dsimp only at t0 t1 t2 t3 t4; have u0 := HC5.out.cell 0; have u1 := HC5.out.cell 1; have u2 := HC5.out.cell 2; clear hb5 hl1 hl2; have tok6 : True := trivial)
          | (clear tok6; go_at_call 97; obtain ⟨D5, hv5, hk5, hg5⟩ := HS5.out.vals; refine (KR.out _ D5 _ HS5.out.env hv5 hk5 (by have := HKQ.out; omega)).mono ?_; rintro e w6 ⟨rfl, ho6, hv6⟩; have HS6 := Lib.hid (show SolV w w6 F b g0 g2 (N + (k + 1) * K) (fun D' => GrewO D D' ∧ ∀ x ∈ xs.take (k + 1), Maps.has D' (keyOs x) = true) c (.slice A c.mdl.bats.length ca) (.slice A1 c.mdl.bows.length ca1) (.slice A2 c.bows.length ca2) (.slice A3 c.ord.length ca3) ⟨ball, need, str, par, wait⟩ from HS5.out.into ho6 (by obtain ⟨D7, h1, h2, h3, h4⟩ := hv6; exact ⟨D7, h1.mono (by rw [Nat.add_mul]; omega), h2, hg5.1.trans h3, fun x hx => by rcases HT.out x hx with h | h; exact h3 x (hg5.2 x h); rw [h]; exact h4⟩)); have HL6 := Lib.hid (sl_only HL5.out ho6); have HC6 := Lib.hid (HC5.out.grown ho6 (by intro e; injection e with e; omega)); clear y0 y1 y2 y3 y4 y5 y6 t0 t1 t2 t3 t4; clear u0 u1 u2; obtain ⟨y0, y1, y2, y3, y4, y5, y6, t0, t1, t2, t3, t4⟩ := HS6.out.cells; dsimp only at t0 t1 t2 t3 t4; have u0 := HC6.out.cell 0; have u1 := HC6.out.cell 1; have u2 := HC6.out.cell 2; clear ho6 hv6 hv5 hk5 hg5; have tok7 : True := trivial))
        go_roundw
        case rel => exact ⟨k + 1, sm + pt * vv, by omega, by go_num, by first | rfl | rw [IntWalk.i64_in (pt * vv) (by omega), IntWalk.i64_in (sm + pt * vv) (by omega)], by omega, by push_cast; omega, HS6, HL6, HST⟩
        case measure => simp [intOf]; omega
      · obtain rfl : k = l.length := by omega
        have hs2 := hss.out
        rw [List.take_of_length_le (Nat.le_refl _), HFIN.out] at hs2
        subst hs2
        have hlq : l.length * K ≤ 16 * K := Nat.mul_le_mul_right K hlen
        clear hss
        go_wp2
        go_ret2
        exact ⟨rfl, HS.out.only, by obtain ⟨D2, h1, h2, h3⟩ := HS.out.vals; exact ⟨D2, h1.mono (by omega), h2, h3.1, by have h8 := h3.2; rw [HXN.out] at h8; exact h8⟩⟩
  · -- somebody has to be sent
    rw [hv] at kvac
    have KV := Lib.hid kvac
    have hvc := vO_vac ht hs h0 h1 hv
    rw [← hz] at hvc
    have h16 := hs.w16
    have ksend := fun (i : Nat) (hi : i < c.ord.length) W => or_send s (i : Int) W h16 ⟨by omega, by omega⟩
    have hxl : xs = sendsL s c.ord.length := by rw [hxs, nexts_vac hend hv]
    have krec := fun (i : Nat) (hi : i < c.ord.length) (hb : bitW s.wait i = true) N' D' W => hlook (sendO s i) (rank_send ht hs hv (i := i) ⟨by omega, by omega⟩ hb).1 (hnx _ (by rw [hxl]; exact sendsL_in hb hi)) (by have := (rank_send ht hs hv (i := i) ⟨by omega, by omega⟩ hb).2; omega) N' D' W
    have hvb : ∀ (i : Nat) (hi : i < c.ord.length) (hb : bitW s.wait i = true), 0 ≤ vO c (sendO s i) ∧ vO c (sendO s i) ≤ 281474976710656 := fun i hi hb => by
      obtain ⟨k1, _⟩ := sendO_ok ht hs hv (i := i) ⟨by omega, by omega⟩ hb
      have h5 := vO_bd ht _ _ k1 rfl
      have h6 := pow16_le (leftO_le ht k1)
      omega
    have hat := fun (i : Nat) (hb : bitW s.wait i = true) => bestF_at (f := fun i => vO c (sendO s i)) hb
    have hnt := fun (i : Nat) (hb : bitW s.wait i = false) => bestF_not (f := fun i => vO c (sendO s i)) hb
    have hK : 6 * K ≤ Q := by
      have hpar : rankO c s % 2 = 1 := by unfold rankO; rw [hv]; simp
      rw [hQ, if_pos hpar]; exact Nat.le_refl _
    have HXL := Lib.hid hxl
    have hsl : ∀ k : Nat, (bitW s.wait k = false → sendsL s (k + 1) = sendsL s k) ∧ (bitW s.wait k = true → ∀ x, x ∈ sendsL s (k + 1) → x ∈ sendsL s k ∨ x = sendO s k) := fun k => ⟨fun hb => by rw [sendsL, if_neg (by simp [hb])], fun hb x hx => by rw [sendsL, if_pos hb] at hx; rcases List.mem_append.1 hx with hx | hx; exact .inl hx; exact .inr (by simpa using hx)⟩
    have HSL := Lib.hid hsl
    have hsol2 : SolV w _ F b g0 g2 N (fun D' => GrewO D D' ∧ ∀ x ∈ sendsL s 0, Maps.has D' (keyOs x) = true) c _ _ _ _ s := hsol.into (Only.refl _ _) (by obtain ⟨D7, h1, h2, h3⟩ := hsol.vals; exact ⟨D7, h1, h2, h3.1, fun x hx => by cases hx⟩)
    clear HSOL
    have HSOL := Lib.hid hsol2
    have HAT := Lib.hid hat
    have HNT := Lib.hid hnt
    have HVB := Lib.hid hvb
    have KSEND := Lib.hid ksend
    have KREC := Lib.hid krec
    have HFIN := Lib.hid hvc.symm
    obtain ⟨ball, need, str, par, wait⟩ := s
    unfold osV at KE KV KSEND KREC ⊢
    dsimp only at e0 KE KV KSEND KREC HAT HNT HVB h16 HSL
    obtain ⟨h16a, h16b⟩ := h16
    clear hsol2 hsl hxl hxs hnx hr kend kvac ksend krec hat hnt hvb hvc h0 h1 hz hbd hp16 hlook henv hown hkn hs hch hFF hQ hsol ht hend hv
    go_enter Tryz.func44, Tryz.ntmps44
    go_wp2_with (first
      | (clear tok0; go_at_call 87; refine (KE.out _ HSOL.out.chb).mono ?_; rintro e w2 ⟨rfl, hb2⟩; have HS2 := Lib.hid (HSOL.out.below hb2); obtain ⟨y0, y1, y2, y3, y4, y5, y6, t0, t1, t2, t3, t4⟩ := HS2.out.cells; dsimp only at t0 t1 t2 t3 t4; clear hb2; have tok1 : True := trivial)
      | (clear tok1; go_at_call 88; refine (KV.out _).mono ?_; rintro e w3 ⟨rfl, hb2⟩; have HS3 := Lib.hid (HS2.out.below hb2); clear y0 y1 y2 y3 y4 y5 y6 t0 t1 t2 t3 t4; obtain ⟨y0, y1, y2, y3, y4, y5, y6, t0, t1, t2, t3, t4⟩ := HS3.out.cells; dsimp only at t0 t1 t2 t3 t4; clear hb2; have tok2 : True := trivial))
    go_loopw [8, 33] (fun v i wr => ∃ (k : Nat) (sm : Int), k ≤ c.ord.length ∧ i = .int .i64 k ∧ v = .int .i64 sm ∧ 0 ≤ sm ∧ sm ≤ 281474976710656 ∧ Hid (SolV w wr F b g0 g2 (N + k * K) (fun D' => GrewO D D' ∧ ∀ x ∈ sendsL ⟨ball, need, str, par, wait⟩ k, Maps.has D' (keyOs x) = true) c (.slice A c.mdl.bats.length ca) (.slice A1 c.mdl.bows.length ca1) (.slice A2 c.bows.length ca2) (.slice A3 c.ord.length ca3) ⟨ball, need, str, par, wait⟩) ∧ Hid (sm = bestF (fun i => vO c (sendO ⟨ball, need, str, par, wait⟩ i)) wait k)) (fun _ i _ => c.ord.length - (intOf i).toNat)
    case atStart => exact ⟨0, 0, Nat.zero_le _, rfl, rfl, by omega, by omega, Lib.hid (by rw [Nat.zero_mul]; exact HS3.out), Lib.hid rfl⟩
    case round =>
      clear HS2 HS3 y0 y1 y2 y3 y4 y5 y6 t0 t1 t2 t3 t4
      obtain ⟨k, sm, hk, rfl, rfl, hs0, hs1, HS, hss⟩ := hrel
      obtain ⟨y0, y1, y2, y3, y4, y5, y6, t0, t1, t2, t3, t4⟩ := HS.out.cells; dsimp only at t0 t1 t2 t3 t4
      by_cases hlt : k < c.ord.length
      · have hk0 : (0 : Int) ≤ (k : Int) := by omega
        have hk16 : (k : Int) < 16 := by omega
        cases hbit : bitW wait k
        · have hst := HNT.out k hbit
          rw [← hss.out] at hst
          have HST := Lib.hid hst.symm
          have f1 : (bits .and .u16 (wait / 2 ^ k) 1 == 1) = false := hbit
          have HE := Lib.hid ((HSL.out k).1 hbit)
          clear hst hss hbit
          go_wp2
          go_roundw
          case rel => exact ⟨k + 1, sm, by omega, by go_num, rfl, by omega, by omega, Lib.hid (HS.out.into (Only.refl _ _) (by obtain ⟨D7, h1, h2, h3⟩ := HS.out.vals; exact ⟨D7, h1.mono (by rw [Nat.add_mul]; omega), h2, h3.1, by rw [HE.out]; exact h3.2⟩)), HST⟩
          case measure => simp [intOf]; omega
        · have hst := HAT.out k hbit
          rw [← hss.out] at hst
          have kS := KSEND.out k hlt
          have kR := KREC.out k hlt hbit
          have hp := HVB.out k hlt hbit
          have hT := (HSL.out k).2 hbit
          obtain ⟨s', hs'⟩ : ∃ x, x = sendO ⟨ball, need, str, par, wait⟩ k := ⟨_, rfl⟩
          rw [← hs'] at hp hst
          simp only [← hs'] at kS kR hT
          obtain ⟨vv, hvv⟩ : ∃ x, x = vO c s' := ⟨_, rfl⟩
          rw [← hvv] at hp hst
          simp only [← hvv] at kR
          obtain ⟨hp0, hp1⟩ := hp
          have hkq : k * K + K ≤ Q := by have := Nat.mul_le_mul_right K (show k + 1 ≤ 6 by omega); rw [Nat.add_mul, Nat.one_mul] at this; omega
          have HST := Lib.hid hst.symm
          have KS := Lib.hid kS
          have KR := Lib.hid kR
          have HKQ := Lib.hid hkq
          have f1 : (bits .and .u16 (wait / 2 ^ k) 1 == 1) = true := hbit
          have hwb : b < wr.heap.size := by have := HS.out.blt; have := HS.out.only.size; omega
          have HT := Lib.hid hT
          clear hst kS kR hT hs' hvv hss hkq hbit
          have tok5 : True := trivial
          go_wp2_with (first
            | (clear tok5; go_at_call 89; refine (KS.out _).mono ?_; rintro e w5 ⟨rfl, hb5⟩; have HS5 := Lib.hid (HS.out.below hb5); clear y0 y1 y2 y3 y4 y5 y6 t0 t1 t2 t3 t4; obtain ⟨y0, y1, y2, y3, y4, y5, y6, t0, t1, t2, t3, t4⟩ := HS5.out.cells; dsimp only at t0 t1 t2 t3 t4; clear hb5; have tok6 : True := trivial)
            | (clear tok6; go_at_call 97; obtain ⟨D5, hv5, hk5, hg5⟩ := HS5.out.vals; refine (KR.out _ D5 _ HS5.out.env hv5 hk5 (by have := HKQ.out; omega)).mono ?_; rintro e w6 ⟨rfl, ho6, hv6⟩; have HS6 := Lib.hid (show SolV w w6 F b g0 g2 (N + (k + 1) * K) (fun D' => GrewO D D' ∧ ∀ x ∈ sendsL ⟨ball, need, str, par, wait⟩ (k + 1), Maps.has D' (keyOs x) = true) c (.slice A c.mdl.bats.length ca) (.slice A1 c.mdl.bows.length ca1) (.slice A2 c.bows.length ca2) (.slice A3 c.ord.length ca3) ⟨ball, need, str, par, wait⟩ from HS5.out.into ho6 (by obtain ⟨D7, h1, h2, h3, h4⟩ := hv6; exact ⟨D7, h1.mono (by rw [Nat.add_mul]; omega), h2, hg5.1.trans h3, fun x hx => by rcases HT.out x hx with h | h; exact h3 x (hg5.2 x h); rw [h]; exact h4⟩)); clear y0 y1 y2 y3 y4 y5 y6 t0 t1 t2 t3 t4; obtain ⟨y0, y1, y2, y3, y4, y5, y6, t0, t1, t2, t3, t4⟩ := HS6.out.cells; dsimp only at t0 t1 t2 t3 t4; clear ho6 hv6 hv5 hk5 hg5; have tok7 : True := trivial))
          go_roundw
          case rel => exact ⟨k + 1, max sm vv, by omega, by go_num, by first | rfl | (rw [Int.max_comm]), by omega, by omega, HS6, HST⟩
          case measure => simp [intOf]; omega
      · obtain rfl : k = c.ord.length := by omega
        have hs2 := hss.out
        rw [HFIN.out] at hs2
        subst hs2
        have hlq : c.ord.length * K ≤ 6 * K := Nat.mul_le_mul_right K (by omega)
        clear hss
        go_wp2
        go_ret2
        exact ⟨rfl, HS.out.only, by obtain ⟨D2, h1, h2, h3⟩ := HS.out.vals; exact ⟨D2, h1.mono (by omega), h2, h3.1, by rw [HXL.out]; exact h3.2⟩⟩
end Go.Proofs.YtdlmmbfnmnglaaaGreatDoor

namespace Go.Proofs.YtdlmmbfnmnglaaaGreatDoor
open Go.RowKit

def runL (lk : Ost → Int × Bool) (f : Otc → Ost) : List Otc → Int → Int × Bool
  | [], b => (b, true)
  | o :: l, b => if (lk (f o)).2 = true then runL lk f l (wrap64 (b + wrap64 (o.wt * (lk (f o)).1))) else (0, false)
theorem runL_at {lk : Ost → Int × Bool} {f : Otc → Ost} {l : List Otc} {k : Nat} {b : Int} (h : k < l.length) : runL lk f (l.drop k) b = if (lk (f l[k])).2 = true then runL lk f (l.drop (k + 1)) (wrap64 (b + wrap64 (l[k].wt * (lk (f l[k])).1))) else (0, false) := by
  rw [drop_get h, runL]
set_option maxRecDepth 100000 in
set_option maxHeartbeats 2000000 in
theorem or_valueB (c : Chs) (ht : OkT c) (s : Ost) (hs : OkOs c s) (bv wv pv ov : Value) (g : Nat) (lk : Ost → Int × Bool) (w : World) (h : ChAt w (· < w.heap.size) bv wv pv ov c) (h0 : s.need ≠ 0) (h1 : s.ball ≠ c.bows.length) (hv : vacO s = false)
    (hlook : ∀ (x : Ost) (W : World), Below w.heap.size w W → Calls Tryz.prog 45 #[osV x, .pointer (some ⟨g, 0, none⟩)] W fun e W' => e = .returned (.tuple #[.int .i64 (lk x).1, .bool (lk x).2]) ∧ Below W.heap.size W W') :
    Calls Tryz.prog 44 #[chV c bv wv pv ov, osV s, .func (.func 45) #[] #[.pointer (some ⟨g, 0, none⟩)]] w fun e w' => e = .returned (.tuple #[.int .i64 (runL lk (stepO c s) (mvO c s) 0).1, .bool (runL lk (stepO c s) (mvO c s) 0).2]) ∧ Below w.heap.size w w' := by
  obtain ⟨A, ca, rfl, hc1, hc2⟩ := h.mdl.bat.shape
  obtain ⟨A1, ca1, rfl, hc3, hc4⟩ := h.mdl.bow.shape
  obtain ⟨A2, ca2, rfl, hc5, hc6⟩ := h.bow.shape
  obtain ⟨A3, ca3, rfl, hc7, hc8⟩ := h.ord.shape
  have hend : endO c s = false := by unfold endO; simp [h0, h1]
  have e0 : (s.need == 0) = false := beq_eq_false_iff_ne.2 h0
  have kend := fun W (hW : Below w.heap.size w W) => or_ended c s _ _ _ _ W (h.below hW)
  have kvac := fun W => or_vacant s W
  have kmv := fun W (hW : Below w.heap.size w W) => or_moves c s _ _ _ _ W (h.below hW) ht.ok hs h1 hv
  rw [hend] at kend
  rw [hv] at kvac
  obtain ⟨_, _, _, _, _, _, _, _, _, _, _, _, _, _, _, hd⟩ := mvO_at ht.ok hs h1 hv
  obtain ⟨⟨z1, z2⟩, hz⟩ : ∃ z, z = runL lk (stepO c s) (mvO c s) 0 := ⟨_, rfl⟩
  rw [← hz]
  obtain ⟨l, hle⟩ : ∃ l, mvO c s = l := ⟨_, rfl⟩
  rw [hle] at hd kmv hz
  have hok := checkD_ok hd
  have hlen : l.length ≤ 16 := hok.len.2
  have hoe : ∀ (k : Nat) (hk : k < l.length), OkO l[k] := fun k hk => hok.each _ (List.getElem_mem hk)
  have kstep := fun k (hk : k < l.length) W => or_step c s l[k] A A1 A2 A3 ca ca1 ca2 ca3 W ht hs h1 hv ⟨(hoe k hk).r0, (hoe k hk).r7⟩
  have krec := fun k (hk : k < l.length) W (hW : Below w.heap.size w W) => hlook (stepO c s l[k]) W hW
  have hat := fun k b (hk : k < l.length) => runL_at (lk := lk) (f := stepO c s) (b := b) hk
  have HZ0 : Hid ((z1, z2) = runL lk (stepO c s) (l.drop 0) 0) := hz
  have HX0 := Lib.hid (OSB.new w c (.slice A c.mdl.bats.length ca) (.slice A1 c.mdl.bows.length ca1) (.slice A2 c.bows.length ca2) (.slice A3 c.ord.length ca3) s)
  have KE := Lib.hid kend
  have KV := Lib.hid kvac
  have KMV := Lib.hid kmv
  have KSTEP := Lib.hid kstep
  have KREC := Lib.hid krec
  have HAT := Lib.hid hat
  have tok0 : True := trivial
  obtain ⟨ball, need, str, par, wait⟩ := s
  unfold chV osV at *
  dsimp only at e0 KE KV KMV KSTEP KREC HX0 ⊢
  clear kend kvac kmv kstep krec hat hz hd hok hoe hle h0 h1 hlook hs h ht hend hv
  go_enter Tryz.func44, Tryz.ntmps44
  go_wp2_with (first
    | (clear tok0; go_at_call 87; refine (KE.out _ HX0.out.bel).mono ?_; rintro e w2 ⟨rfl, hb2⟩; have HS2 := Lib.hid (HX0.out.below hb2); obtain ⟨y0, y1, y2, y3, y4, y5, y6, t0, t1, t2, t3, t4⟩ := HS2.out.cells; dsimp only at t0 t1 t2 t3 t4; clear hb2; have tok1 : True := trivial)
    | (clear tok1; go_at_call 88; refine (KV.out _).mono ?_; rintro e w3 ⟨rfl, hb2⟩; have HS3 := Lib.hid (HS2.out.below hb2); clear y0 y1 y2 y3 y4 y5 y6 t0 t1 t2 t3 t4; obtain ⟨y0, y1, y2, y3, y4, y5, y6, t0, t1, t2, t3, t4⟩ := HS3.out.cells; dsimp only at t0 t1 t2 t3 t4; clear hb2; have tok2 : True := trivial)
    | (clear tok2; go_at_call 90; refine (KMV.out _ HS3.out.bel).mono ?_; rintro e w4 ⟨A4, n4, k4, rfl, hb3, hs3⟩; obtain ⟨Az, kz, hze, hz1, hz2⟩ := hs3.shape; have hn4 : n4 = l.length := (by injection hze); subst hn4; have HS4 := Lib.hid (HS3.out.below hb3); have HL4 := Lib.hid (hs3.keep (G := fun x => x < w4.heap.size) elOtc_good (Same.refl _ _) fun x hx => hx.2); clear y0 y1 y2 y3 y4 y5 y6 t0 t1 t2 t3 t4; obtain ⟨y0, y1, y2, y3, y4, y5, y6, t0, t1, t2, t3, t4⟩ := HS4.out.cells; dsimp only at t0 t1 t2 t3 t4; clear hb3 hs3 hze hz1 hz2; have tok3 : True := trivial))
  go_loopw [8, 61] (fun v i wr => ∃ (k : Nat) (sm : Int), k ≤ l.length ∧ i = .int .i64 k ∧ v = .int .i64 sm ∧ Hid (OSB w wr w.heap.size c (.slice A c.mdl.bats.length ca) (.slice A1 c.mdl.bows.length ca1) (.slice A2 c.bows.length ca2) (.slice A3 c.ord.length ca3) ⟨ball, need, str, par, wait⟩) ∧ Hid (Sl 3 elOtc wr (· < wr.heap.size) (.slice A4 l.length k4) l) ∧ Hid ((z1, z2) = runL lk (stepO c ⟨ball, need, str, par, wait⟩) (l.drop k) sm)) (fun _ i _ => l.length - (intOf i).toNat)
  case atStart => exact ⟨0, 0, Nat.zero_le _, rfl, rfl, HS4, HL4, HZ0⟩
  case round =>
    clear HS2 HS3 HS4 HL4 HZ0 y0 y1 y2 y3 y4 y5 y6 t0 t1 t2 t3 t4
    obtain ⟨k, sm, hk, rfl, rfl, HS, HL, hss⟩ := hrel
    by_cases hlt : k < l.length
    · obtain ⟨b0, o, rfl, hbl, j0, j1, j2⟩ := otc_at HL.out hlt
      have hst := hss.out.trans (HAT.out k sm hlt)
      have kS := KSTEP.out k hlt
      have kR := KREC.out k hlt
      obtain ⟨s', hs'⟩ : ∃ x, x = stepO c ⟨ball, need, str, par, wait⟩ l[k] := ⟨_, rfl⟩
      simp only [← hs'] at kS kR hst
      obtain ⟨⟨y, ok⟩, hvv⟩ : ∃ x, x = lk s' := ⟨_, rfl⟩
      simp only [← hvv] at kR hst
      obtain ⟨⟨pr, pw, pt⟩, hp'⟩ : ∃ p, p = l[k] := ⟨_, rfl⟩
      rw [← hp'] at j0 j1 j2
      simp only [← hp'] at kS hst
      dsimp only at j0 j1 j2 kS hst
      have KS := Lib.hid kS
      have KR := Lib.hid kR
      clear kS kR hs' hvv hp' hss
      have HSA := Lib.hid (HS.out.below (Below.alloc (Below.refl wr.heap.size wr) (Nat.le_refl _) (.cells #[.int .i64 pr, .bool pw, .int .i64 pt] 110)))
      have HLA := Lib.hid (HL.out.keep (G := fun x => x < (wr.alloc (.cells #[.int .i64 pr, .bool pw, .int .i64 pt] 110)).heap.size) elOtc_good (Same.of_below (Below.alloc (Below.refl wr.heap.size wr) (Nat.le_refl _) (.cells #[.int .i64 pr, .bool pw, .int .i64 pt] 110))) fun x hx => by simp; omega)
      have HCA := Lib.hid (Blk.new wr 110 #[.int .i64 pr, .bool pw, .int .i64 pt])
      obtain ⟨y0, y1, y2, y3, y4, y5, y6, t0, t1, t2, t3, t4⟩ := HS.out.cells; dsimp only at t0 t1 t2 t3 t4
      have hl1 := HS.out.box.lt
      have hl2 := HS.out.st.lt
      have tok5 : True := trivial
      cases ok
      · rw [if_neg (by decide)] at hst
        have HST := Lib.hid hst
        clear hst
        go_wp2_with (first
          | (clear tok5; go_at_call 91; refine (KS.out _).mono ?_; rintro e w5 ⟨rfl, hb5⟩; have HS5 := Lib.hid (HSA.out.below hb5); have HL5 := Lib.hid (HLA.out.keep (G := fun x => x < w5.heap.size) elOtc_good (Same.of_below hb5) fun x hx => Nat.lt_of_lt_of_le hx hb5.size); have HC5 := Lib.hid (HCA.out.below hb5 HCA.out.lt); clear y0 y1 y2 y3 y4 y5 y6 t0 t1 t2 t3 t4; obtain ⟨y0, y1, y2, y3, y4, y5, y6, t0, t1, t2, t3, t4⟩ := HS5.out.cells; dsimp only at t0 t1 t2 t3 t4; have u0 := HC5.out.cell 0; have u1 := HC5.out.cell 1; have u2 := HC5.out.cell 2; clear hb5 hl1 hl2; have tok6 : True := trivial)
          | (clear tok6; go_at_call 45; refine (KR.out _ HS5.out.bel).mono ?_; rintro e w6 ⟨rfl, hb6⟩; have HS6 := Lib.hid (HS5.out.below hb6); have HL6 := Lib.hid (HL5.out.keep (G := fun x => x < w6.heap.size) elOtc_good (Same.of_below hb6) fun x hx => Nat.lt_of_lt_of_le hx hb6.size); have HC6 := Lib.hid (HC5.out.below hb6 HC5.out.lt); clear y0 y1 y2 y3 y4 y5 y6 t0 t1 t2 t3 t4; clear u0 u1 u2; obtain ⟨y0, y1, y2, y3, y4, y5, y6, t0, t1, t2, t3, t4⟩ := HS6.out.cells; dsimp only at t0 t1 t2 t3 t4; have u0 := HC6.out.cell 0; have u1 := HC6.out.cell 1; have u2 := HC6.out.cell 2; clear hb6; have tok7 : True := trivial))
        go_ret2
        exact ⟨by have h9 := HST.out; injection h9 with h7 h8; rw [h7, h8] <;> rfl, HS6.out.bel⟩
      · rw [if_pos rfl] at hst
        have HST := Lib.hid hst
        clear hst
        go_wp2_with (first
          | (clear tok5; go_at_call 91; refine (KS.out _).mono ?_; rintro e w5 ⟨rfl, hb5⟩; have HS5 := Lib.hid (HSA.out.below hb5); have HL5 := Lib.hid (HLA.out.keep (G := fun x => x < w5.heap.size) elOtc_good (Same.of_below hb5) fun x hx => Nat.lt_of_lt_of_le hx hb5.size); have HC5 := Lib.hid (HCA.out.below hb5 HCA.out.lt); clear y0 y1 y2 y3 y4 y5 y6 t0 t1 t2 t3 t4; obtain ⟨y0, y1, y2, y3, y4, y5, y6, t0, t1, t2, t3, t4⟩ := HS5.out.cells; dsimp only at t0 t1 t2 t3 t4; have u0 := HC5.out.cell 0; have u1 := HC5.out.cell 1; have u2 := HC5.out.cell 2; clear hb5 hl1 hl2; have tok6 : True := trivial)
          | (clear tok6; go_at_call 45; refine (KR.out _ HS5.out.bel).mono ?_; rintro e w6 ⟨rfl, hb6⟩; have HS6 := Lib.hid (HS5.out.below hb6); have HL6 := Lib.hid (HL5.out.keep (G := fun x => x < w6.heap.size) elOtc_good (Same.of_below hb6) fun x hx => Nat.lt_of_lt_of_le hx hb6.size); have HC6 := Lib.hid (HC5.out.below hb6 HC5.out.lt); clear y0 y1 y2 y3 y4 y5 y6 t0 t1 t2 t3 t4; clear u0 u1 u2; obtain ⟨y0, y1, y2, y3, y4, y5, y6, t0, t1, t2, t3, t4⟩ := HS6.out.cells; dsimp only at t0 t1 t2 t3 t4; have u0 := HC6.out.cell 0; have u1 := HC6.out.cell 1; have u2 := HC6.out.cell 2; clear hb6; have tok7 : True := trivial))
        go_roundw
        case rel => exact ⟨k + 1, _, by omega, by go_num, rfl, HS6, HL6, HST⟩
        case measure => simp [intOf]; omega
    · obtain rfl : k = l.length := by omega
      have hs2 := hss.out
      rw [List.drop_length, runL] at hs2
      have HZ := Lib.hid hs2
      clear hss hs2
      go_wp2
      go_ret2
      exact ⟨by have h9 := HZ.out; injection h9 with h7 h8; rw [h7, h8] <;> rfl, HS.out.bel⟩
end Go.Proofs.YtdlmmbfnmnglaaaGreatDoor

namespace Go.Proofs.YtdlmmbfnmnglaaaGreatDoor
open Go.RowKit

def vacL (lk : Ost → Int × Bool) (s : Ost) : Nat → Nat → Int → Int × Bool
  | 0, _, b => (b, true)
  | m + 1, i, b => if bitW s.wait i = true then (if (lk (sendO s i)).2 = true then vacL lk s m (i + 1) (max b (lk (sendO s i)).1) else (0, false)) else vacL lk s m (i + 1) b
theorem vacL_at {lk : Ost → Int × Bool} {s : Ost} {n k : Nat} {b : Int} (h : k < n) : vacL lk s (n - k) k b = if bitW s.wait k = true then (if (lk (sendO s k)).2 = true then vacL lk s (n - (k + 1)) (k + 1) (max b (lk (sendO s k)).1) else (0, false)) else vacL lk s (n - (k + 1)) (k + 1) b := by
  rw [show n - k = (n - (k + 1)) + 1 by omega, vacL]
set_option maxRecDepth 100000 in
set_option maxHeartbeats 2000000 in
theorem or_valueV (c : Chs) (ht : OkT c) (s : Ost) (hs : OkOs c s) (bv wv pv ov : Value) (g : Nat) (lk : Ost → Int × Bool) (w : World) (h : ChAt w (· < w.heap.size) bv wv pv ov c) (h0 : s.need ≠ 0) (h1 : s.ball ≠ c.bows.length) (hv : vacO s = true)
    (hlook : ∀ (x : Ost) (W : World), Below w.heap.size w W → Calls Tryz.prog 45 #[osV x, .pointer (some ⟨g, 0, none⟩)] W fun e W' => e = .returned (.tuple #[.int .i64 (lk x).1, .bool (lk x).2]) ∧ Below W.heap.size W W') :
    Calls Tryz.prog 44 #[chV c bv wv pv ov, osV s, .func (.func 45) #[] #[.pointer (some ⟨g, 0, none⟩)]] w fun e w' => e = .returned (.tuple #[.int .i64 (vacL lk s c.ord.length 0 0).1, .bool (vacL lk s c.ord.length 0 0).2]) ∧ Below w.heap.size w w' := by
  obtain ⟨A, ca, rfl, hc1, hc2⟩ := h.mdl.bat.shape
  obtain ⟨A1, ca1, rfl, hc3, hc4⟩ := h.mdl.bow.shape
  obtain ⟨A2, ca2, rfl, hc5, hc6⟩ := h.bow.shape
  obtain ⟨A3, ca3, rfl, hc7, hc8⟩ := h.ord.shape
  have hend : endO c s = false := by unfold endO; simp [h0, h1]
  have e0 : (s.need == 0) = false := beq_eq_false_iff_ne.2 h0
  have kend := fun W (hW : Below w.heap.size w W) => or_ended c s _ _ _ _ W (h.below hW)
  have kvac := fun W => or_vacant s W
  rw [hend] at kend
  rw [hv] at kvac
  obtain ⟨⟨z1, z2⟩, hz⟩ : ∃ z, z = vacL lk s c.ord.length 0 0 := ⟨_, rfl⟩
  rw [← hz]
  have hnp := ht.np
  have h16 := hs.w16
  have ksend := fun (i : Nat) (hi : i < c.ord.length) W => or_send s (i : Int) W h16 ⟨by omega, by omega⟩
  have krec := fun (i : Nat) W (hW : Below w.heap.size w W) => hlook (sendO s i) W hW
  have hat := fun (k : Nat) (b : Int) (hk : k < c.ord.length) => vacL_at (lk := lk) (s := s) (b := b) hk
  have HZ0 : Hid ((z1, z2) = vacL lk s (c.ord.length - 0) 0 0) := hz
  have HX0 := Lib.hid (OSB.new w c (.slice A c.mdl.bats.length ca) (.slice A1 c.mdl.bows.length ca1) (.slice A2 c.bows.length ca2) (.slice A3 c.ord.length ca3) s)
  have KE := Lib.hid kend
  have KV := Lib.hid kvac
  have KSEND := Lib.hid ksend
  have KREC := Lib.hid krec
  have HAT := Lib.hid hat
  have tok0 : True := trivial
  obtain ⟨ball, need, str, par, wait⟩ := s
  unfold chV osV at *
  dsimp only at e0 KE KV KSEND KREC HX0 h16 HAT ⊢
  obtain ⟨h16a, h16b⟩ := h16
  clear kend kvac ksend krec hat hz h0 h1 hlook hs h ht hend hv
  go_enter Tryz.func44, Tryz.ntmps44
  go_wp2_with (first
    | (clear tok0; go_at_call 87; refine (KE.out _ HX0.out.bel).mono ?_; rintro e w2 ⟨rfl, hb2⟩; have HS2 := Lib.hid (HX0.out.below hb2); obtain ⟨y0, y1, y2, y3, y4, y5, y6, t0, t1, t2, t3, t4⟩ := HS2.out.cells; dsimp only at t0 t1 t2 t3 t4; clear hb2; have tok1 : True := trivial)
    | (clear tok1; go_at_call 88; refine (KV.out _).mono ?_; rintro e w3 ⟨rfl, hb2⟩; have HS3 := Lib.hid (HS2.out.below hb2); clear y0 y1 y2 y3 y4 y5 y6 t0 t1 t2 t3 t4; obtain ⟨y0, y1, y2, y3, y4, y5, y6, t0, t1, t2, t3, t4⟩ := HS3.out.cells; dsimp only at t0 t1 t2 t3 t4; clear hb2; have tok2 : True := trivial))
  go_loopw [8, 33] (fun v i wr => ∃ (k : Nat) (sm : Int), k ≤ c.ord.length ∧ i = .int .i64 k ∧ v = .int .i64 sm ∧ Hid (OSB w wr w.heap.size c (.slice A c.mdl.bats.length ca) (.slice A1 c.mdl.bows.length ca1) (.slice A2 c.bows.length ca2) (.slice A3 c.ord.length ca3) ⟨ball, need, str, par, wait⟩) ∧ Hid ((z1, z2) = vacL lk ⟨ball, need, str, par, wait⟩ (c.ord.length - k) k sm)) (fun _ i _ => c.ord.length - (intOf i).toNat)
  case atStart => exact ⟨0, 0, Nat.zero_le _, rfl, rfl, HS3, HZ0⟩
  case round =>
    clear HS2 HS3 HZ0 y0 y1 y2 y3 y4 y5 y6 t0 t1 t2 t3 t4
    obtain ⟨k, sm, hk, rfl, rfl, HS, hss⟩ := hrel
    obtain ⟨y0, y1, y2, y3, y4, y5, y6, t0, t1, t2, t3, t4⟩ := HS.out.cells; dsimp only at t0 t1 t2 t3 t4
    by_cases hlt : k < c.ord.length
    · have hk0 : (0 : Int) ≤ (k : Int) := by omega
      have hk16 : (k : Int) < 16 := by omega
      have hst := hss.out.trans (HAT.out k sm hlt)
      cases hbit : bitW wait k
      · rw [hbit, if_neg (by decide)] at hst
        have HST := Lib.hid hst
        have f1 : (bits .and .u16 (wait / 2 ^ k) 1 == 1) = false := hbit
        clear hst hss hbit
        go_wp2
        go_roundw
        case rel => exact ⟨k + 1, sm, by omega, by go_num, rfl, HS, HST⟩
        case measure => simp [intOf]; omega
      · rw [hbit, if_pos rfl] at hst
        have kS := KSEND.out k hlt
        have kR := KREC.out k
        obtain ⟨s', hs'⟩ : ∃ x, x = sendO ⟨ball, need, str, par, wait⟩ k := ⟨_, rfl⟩
        simp only [← hs'] at kS kR hst
        obtain ⟨⟨y, ok⟩, hvv⟩ : ∃ x, x = lk s' := ⟨_, rfl⟩
        simp only [← hvv] at kR hst
        have KS := Lib.hid kS
        have KR := Lib.hid kR
        have f1 : (bits .and .u16 (wait / 2 ^ k) 1 == 1) = true := hbit
        clear kS kR hs' hvv hss hbit
        have tok5 : True := trivial
        cases ok
        · rw [if_neg (by decide)] at hst
          have HST := Lib.hid hst
          clear hst
          go_wp2_with (first
            | (clear tok5; go_at_call 89; refine (KS.out _).mono ?_; rintro e w5 ⟨rfl, hb5⟩; have HS5 := Lib.hid (HS.out.below hb5); clear y0 y1 y2 y3 y4 y5 y6 t0 t1 t2 t3 t4; obtain ⟨y0, y1, y2, y3, y4, y5, y6, t0, t1, t2, t3, t4⟩ := HS5.out.cells; dsimp only at t0 t1 t2 t3 t4; clear hb5; have tok6 : True := trivial)
            | (clear tok6; go_at_call 45; refine (KR.out _ HS5.out.bel).mono ?_; rintro e w6 ⟨rfl, hb6⟩; have HS6 := Lib.hid (HS5.out.below hb6); clear y0 y1 y2 y3 y4 y5 y6 t0 t1 t2 t3 t4; obtain ⟨y0, y1, y2, y3, y4, y5, y6, t0, t1, t2, t3, t4⟩ := HS6.out.cells; dsimp only at t0 t1 t2 t3 t4; clear hb6; have tok7 : True := trivial))
          go_ret2
          exact ⟨by have h9 := HST.out; injection h9 with h7 h8; rw [h7, h8] <;> rfl, HS6.out.bel⟩
        · rw [if_pos rfl] at hst
          have HST := Lib.hid hst
          clear hst
          go_wp2_with (first
            | (clear tok5; go_at_call 89; refine (KS.out _).mono ?_; rintro e w5 ⟨rfl, hb5⟩; have HS5 := Lib.hid (HS.out.below hb5); clear y0 y1 y2 y3 y4 y5 y6 t0 t1 t2 t3 t4; obtain ⟨y0, y1, y2, y3, y4, y5, y6, t0, t1, t2, t3, t4⟩ := HS5.out.cells; dsimp only at t0 t1 t2 t3 t4; clear hb5; have tok6 : True := trivial)
            | (clear tok6; go_at_call 45; refine (KR.out _ HS5.out.bel).mono ?_; rintro e w6 ⟨rfl, hb6⟩; have HS6 := Lib.hid (HS5.out.below hb6); clear y0 y1 y2 y3 y4 y5 y6 t0 t1 t2 t3 t4; obtain ⟨y0, y1, y2, y3, y4, y5, y6, t0, t1, t2, t3, t4⟩ := HS6.out.cells; dsimp only at t0 t1 t2 t3 t4; clear hb6; have tok7 : True := trivial))
          go_roundw
          case rel => exact ⟨k + 1, max sm y, by omega, by go_num, by first | rfl | (rw [Int.max_comm]), HS6, HST⟩
          case measure => simp [intOf]; omega
    · obtain rfl : k = c.ord.length := by omega
      have hs2 := hss.out
      rw [Nat.sub_self, vacL] at hs2
      have HZ := Lib.hid hs2
      clear hss hs2
      go_wp2
      go_ret2
      exact ⟨by have h9 := HZ.out; injection h9 with h7 h8; rw [h7, h8] <;> rfl, HS.out.bel⟩
end Go.Proofs.YtdlmmbfnmnglaaaGreatDoor

namespace Go.Proofs.YtdlmmbfnmnglaaaGreatDoor
open Go.RowKit

/-- The value of a state by a table, and whether every state that follows is in it. -/
def valL (c : Chs) (lk : Ost → Int × Bool) (s : Ost) : Int × Bool :=
  if s.need = 0 then (vO c s, true) else if s.ball = c.bows.length then (0, true) else if vacO s = true then vacL lk s c.ord.length 0 0 else runL lk (stepO c s) (mvO c s) 0
set_option maxRecDepth 100000 in
set_option maxHeartbeats 2000000 in
theorem or_valueL (c : Chs) (ht : OkT c) (s : Ost) (hs : OkOs c s) (bv wv pv ov : Value) (g : Nat) (lk : Ost → Int × Bool) (w : World) (h : ChAt w (· < w.heap.size) bv wv pv ov c)
    (hlook : ∀ (x : Ost) (W : World), Below w.heap.size w W → Calls Tryz.prog 45 #[osV x, .pointer (some ⟨g, 0, none⟩)] W fun e W' => e = .returned (.tuple #[.int .i64 (lk x).1, .bool (lk x).2]) ∧ Below W.heap.size W W') :
    Calls Tryz.prog 44 #[chV c bv wv pv ov, osV s, .func (.func 45) #[] #[.pointer (some ⟨g, 0, none⟩)]] w fun e w' => e = .returned (.tuple #[.int .i64 (valL c lk s).1, .bool (valL c lk s).2]) ∧ Below w.heap.size w w' := by
  unfold valL
  by_cases h0 : s.need = 0
  · rw [if_pos h0]
    have hw0 := vO_won (c := c) (s := s) h0
    have kpow := fun W (hW : Below w.heap.size w W) => or_power c s _ _ _ _ W (h.below hW) ht hs
    obtain ⟨A, ca, rfl, hc1, hc2⟩ := h.mdl.bat.shape
    obtain ⟨A1, ca1, rfl, hc3, hc4⟩ := h.mdl.bow.shape
    obtain ⟨A2, ca2, rfl, hc5, hc6⟩ := h.bow.shape
    obtain ⟨A3, ca3, rfl, hc7, hc8⟩ := h.ord.shape
    rw [← hw0] at kpow
    obtain ⟨z, hz⟩ : ∃ z, z = vO c s := ⟨_, rfl⟩
    rw [← hz] at kpow ⊢
    have KP := Lib.hid kpow
    have e0 : (s.need == 0) = true := beq_iff_eq.2 h0
    have HX0 := Lib.hid (OSB.new w c (.slice A c.mdl.bats.length ca) (.slice A1 c.mdl.bows.length ca1) (.slice A2 c.bows.length ca2) (.slice A3 c.ord.length ca3) s)
    have tok0 : True := trivial
    obtain ⟨ball, need, str, par, wait⟩ := s
    unfold chV osV at *
    dsimp only at e0 KP HX0 ⊢
    clear kpow hw0 h0 hz hlook hs h ht
    go_enter Tryz.func44, Tryz.ntmps44
    go_wp2_with (clear tok0; go_at_call 86; refine (KP.out _ HX0.out.bel).mono ?_; rintro e w2 ⟨rfl, hb2⟩; have HS2 := Lib.hid (HX0.out.below hb2); clear hb2; have tok1 : True := trivial)
    go_ret2
    exact ⟨rfl, HS2.out.bel⟩
  rw [if_neg h0]
  by_cases h1 : s.ball = c.bows.length
  · rw [if_pos h1]
    have kend := fun W (hW : Below w.heap.size w W) => or_ended c s _ _ _ _ W (h.below hW)
    have hend : endO c s = true := by unfold endO; simp [h1]
    rw [hend] at kend
    obtain ⟨A, ca, rfl, hc1, hc2⟩ := h.mdl.bat.shape
    obtain ⟨A1, ca1, rfl, hc3, hc4⟩ := h.mdl.bow.shape
    obtain ⟨A2, ca2, rfl, hc5, hc6⟩ := h.bow.shape
    obtain ⟨A3, ca3, rfl, hc7, hc8⟩ := h.ord.shape
    have KE := Lib.hid kend
    have e0 : (s.need == 0) = false := beq_eq_false_iff_ne.2 h0
    have HX0 := Lib.hid (OSB.new w c (.slice A c.mdl.bats.length ca) (.slice A1 c.mdl.bows.length ca1) (.slice A2 c.bows.length ca2) (.slice A3 c.ord.length ca3) s)
    have tok0 : True := trivial
    obtain ⟨ball, need, str, par, wait⟩ := s
    unfold chV osV at *
    dsimp only at e0 KE HX0 ⊢
    clear kend hend h0 h1 hlook hs h ht
    go_enter Tryz.func44, Tryz.ntmps44
    go_wp2_with (clear tok0; go_at_call 87; refine (KE.out _ HX0.out.bel).mono ?_; rintro e w2 ⟨rfl, hb2⟩; have HS2 := Lib.hid (HX0.out.below hb2); clear hb2; have tok1 : True := trivial)
    go_ret2
    exact ⟨rfl, HS2.out.bel⟩
  rw [if_neg h1]
  cases hv : vacO s
  · rw [if_neg (by decide)]
    exact or_valueB c ht s hs bv wv pv ov g lk w h h0 h1 hv hlook
  · rw [if_pos rfl]
    exact or_valueV c ht s hs bv wv pv ov g lk w h h0 h1 hv hlook
end Go.Proofs.YtdlmmbfnmnglaaaGreatDoor

namespace Go.Proofs.YtdlmmbfnmnglaaaGreatDoor

/-- Every state of a table is one of the task, and the states rise. -/
def FormO (c : Chs) (l : List Ove) : Prop := ∀ (i : Nat) (h : i < l.length), stateO c l[i].st = 0 ∧ ∀ (h0 : 0 < i), cmpO (l[i - 1]'(by omega)).st l[i].st < 0
/-- Every pair of openers is in it. -/
def PairsO (c : Chs) (lk : Ost → Int × Bool) : Prop := ∀ a b : Nat, a < c.ord.length → b < c.ord.length → a ≠ b → (lk (openO c a b)).2 = true
/-- The first error of its entries. -/
def entL (c : Chs) (lk : Ost → Int × Bool) : List Ove → Int
  | [] => 0
  | x :: t => if (valL c lk x.st).2 = false then 6 else if (valL c lk x.st).1 ≠ x.val then 12 else entL c lk t
open Classical in
noncomputable def acceptS (c : Chs) (l : List Ove) : Int :=
  if checkO c ≠ 0 then checkO c else if ¬ FormO c l then 4 else if ¬ PairsO c (lookL l) then 6 else entL c (lookL l) l
/-- What the numbers of a table are, whatever it holds. -/
def TabW (l : List Ove) : Prop := ∀ x ∈ l, (0 ≤ x.st.wait ∧ x.st.wait < 65536) ∧ -9223372036854775808 ≤ x.val ∧ x.val ≤ 9223372036854775807
theorem form_strict {c : Chs} {l : List Ove} (h : FormO c l) : StrictO l := by
  intro i j hi hj hij
  induction j with
  | zero => omega
  | succ j ih =>
    have h1 := (h (j + 1) hj).2 (by omega)
    by_cases e : i = j
    · subst e; exact h1
    · exact cmpO_trans (ih (by omega) (by omega)) h1
theorem form_ok {c : Chs} {l : List Ove} (h : FormO c l) (hw : TabW l) (i : Nat) (hi : i < l.length) : OkOs c l[i].st :=
  (stateO_ok (hw _ (List.getElem_mem hi)).1).1 (h i hi).1
theorem accept_bad {c : Chs} {l : List Ove} (h0 : checkO c ≠ 0) : acceptS c l = checkO c := by unfold acceptS; rw [if_pos h0]
theorem accept_form {c : Chs} {l : List Ove} (h0 : checkO c = 0) (h : ¬ FormO c l) : acceptS c l = 4 := by unfold acceptS; rw [if_neg (by omega), if_pos h]
theorem accept_pair {c : Chs} {l : List Ove} (h0 : checkO c = 0) (h : FormO c l) (h2 : ¬ PairsO c (lookL l)) : acceptS c l = 6 := by unfold acceptS; rw [if_neg (by omega), if_neg (by simpa using h), if_pos h2]
theorem accept_ent {c : Chs} {l : List Ove} (h0 : checkO c = 0) (h : FormO c l) (h2 : PairsO c (lookL l)) : acceptS c l = entL c (lookL l) l := by unfold acceptS; rw [if_neg (by omega), if_neg (by simpa using h), if_neg (by simpa using h2)]
theorem entL_at {c : Chs} {lk : Ost → Int × Bool} {l : List Ove} {k : Nat} (h : k < l.length) : entL c lk (l.drop k) = if (valL c lk l[k].st).2 = false then 6 else if (valL c lk l[k].st).1 ≠ l[k].val then 12 else entL c lk (l.drop (k + 1)) := by
  rw [List.drop_eq_getElem_cons h, entL]
/-- The rows' pairs below (a, b). -/
def PairsTo (c : Chs) (lk : Ost → Int × Bool) (a : Nat) : Prop := ∀ i j : Nat, i < a → j < c.ord.length → i ≠ j → (lk (openO c i j)).2 = true
def RowTo (c : Chs) (lk : Ost → Int × Bool) (a b : Nat) : Prop := ∀ j : Nat, j < b → a ≠ j → (lk (openO c a j)).2 = true
theorem pairs_row {c : Chs} {lk : Ost → Int × Bool} {a : Nat} (h : PairsTo c lk a) (h2 : RowTo c lk a c.ord.length) : PairsTo c lk (a + 1) := fun i j hi hj hne => by
  by_cases e : i = a
  · subst e; exact h2 j hj hne
  · exact h i j (by omega) hj hne
theorem row_step {c : Chs} {lk : Ost → Int × Bool} {a b : Nat} (h : RowTo c lk a b) (h2 : a ≠ b → (lk (openO c a b)).2 = true) : RowTo c lk a (b + 1) := fun j hj hne => by
  by_cases e : j = b
  · subst e; exact h2 hne
  · exact h j (by omega) hne
def FormTo (c : Chs) (l : List Ove) (k : Nat) : Prop := ∀ (i : Nat) (h : i < l.length), i < k → stateO c l[i].st = 0 ∧ ∀ (h0 : 0 < i), cmpO (l[i - 1]'(by omega)).st l[i].st < 0
theorem form_step {c : Chs} {l : List Ove} {k : Nat} (h : FormTo c l k) (hk : k < l.length) (h1 : stateO c l[k].st = 0) (h2 : ∀ (h0 : 0 < k), cmpO (l[k - 1]'(by omega)).st l[k].st < 0) : FormTo c l (k + 1) := fun i hi hik => by
  by_cases e : i = k
  · subst e; exact ⟨h1, h2⟩
  · exact h i hi (by omega)
theorem form_all {c : Chs} {l : List Ove} (h : FormTo c l l.length) : FormO c l := fun i hi => h i hi hi
/-- The look-up in one more entry. -/
theorem look_snoc (l : List Ove) (x : Ove) (t : Ost) : lookL (l ++ [x]) t = if (lookL l t).2 = true then lookL l t else if cmpO x.st t = 0 then (x.val, true) else (0, false) := by
  unfold lookL
  rw [List.find?_append]
  cases h : l.find? (fun x => (cmpO x.st t == 0)) with
  | some y => simp
  | none =>
    simp only [Option.none_or, List.find?_cons, List.find?_nil]
    by_cases e : cmpO x.st t = 0
    · simp [e]
    · have h9 : (cmpO x.st t == 0) = false := beq_eq_false_iff_ne.2 e
      simp [h9, e]
theorem look_mem {l : List Ove} {t : Ost} (h : (lookL l t).2 = true) : ∃ x ∈ l, x.st = t ∧ lookL l t = (x.val, true) := by
  unfold lookL at h ⊢
  cases hf : l.find? (fun x => (cmpO x.st t == 0)) with
  | none => rw [hf] at h; cases h
  | some x =>
    have := List.find?_some hf
    exact ⟨x, List.mem_of_find?_eq_some hf, cmpO_eq.1 (by simpa using this), rfl⟩
theorem look_not {l : List Ove} {t : Ost} (h : ∀ x ∈ l, x.st ≠ t) : lookL l t = (0, false) := by
  cases hb : (lookL l t).2
  · unfold lookL at hb ⊢
    cases hf : l.find? (fun x => (cmpO x.st t == 0)) with
    | none => rfl
    | some x => rw [hf] at hb; cases hb
  · obtain ⟨x, hx, e, _⟩ := look_mem hb
    exact absurd e (h x hx)
/-- In a table that rises the next entry's state is a new one. -/
theorem look_new {c : Chs} {l : List Ove} {k : Nat} (h : FormTo c l (k + 1)) (hk : k < l.length) : lookL (l.take k) l[k].st = (0, false) := by
  refine look_not fun x hx e => ?_
  obtain ⟨i, hi, rfl⟩ := List.getElem_of_mem hx
  rw [List.length_take] at hi
  rw [List.getElem_take] at e
  have hs : ∀ j, i < j → j ≤ k → ∀ hj : j < l.length, cmpO (l[i]'(by omega)).st l[j].st < 0 := by
    intro j
    induction j with
    | zero => intro h1; omega
    | succ j ih =>
      intro h1 h2 hj
      have h3 := (h (j + 1) hj (by omega)).2 (by omega)
      by_cases e : i = j
      · subst e; exact h3
      · exact cmpO_trans (ih (by omega) (by omega) (by omega)) h3
  have := hs k (by omega) (Nat.le_refl _) hk
  rw [cmpO_eq.2 e] at this
  omega
theorem look_take {c : Chs} {l : List Ove} {k : Nat} (h : FormTo c l (k + 1)) (hk : k < l.length) (t : Ost) : lookL (l.take (k + 1)) t = if cmpO l[k].st t = 0 then (l[k].val, true) else lookL (l.take k) t := by
  rw [List.take_add_one, List.getElem?_eq_getElem hk, Option.toList, look_snoc]
  by_cases e : cmpO l[k].st t = 0
  · obtain rfl := cmpO_eq.1 e
    rw [look_new h hk, if_neg (by decide), if_pos e]
  · rw [if_neg e, if_neg e]
    cases hb : (lookL (l.take k) t).2
    · rw [if_neg (by decide)]
      unfold lookL at hb ⊢
      cases hf : (l.take k).find? (fun x => (cmpO x.st t == 0)) with
      | none => rfl
      | some x => rw [hf] at hb; cases hb
    · rw [if_pos rfl]
end Go.Proofs.YtdlmmbfnmnglaaaGreatDoor

namespace Go.Proofs.YtdlmmbfnmnglaaaGreatDoor
open Go.RowKit Go.Maps

def elOst (_ : World) (_ : Nat → Prop) (cs : List Value) (s : Ost) : Prop := cs = [.int .i64 s.ball, .int .i64 s.need, .int .i64 s.str, .int .i64 s.par, .int .u16 s.wait]
theorem elOst_good : Good elOst := ⟨fun h _ _ => h⟩
theorem E_ost : ElemOf Tryz.prog 97 45 5 40 := ElemOf.mk (z := .agg #[.int .i64 0, .int .i64 0, .int .i64 0, .int .i64 0, .int .u16 0]) Tryz.underlying97 (by kernel_rfl) rfl (by decide)
theorem E_i64o : ElemOf Tryz.prog 127 2 1 8 := ElemOf.mk (z := .int .i64 0) Tryz.underlying127 (by kernel_rfl) rfl (by decide)
theorem ost_at {w : World} {F : Nat → Prop} {A : Option Addr} {n c : Nat} {l : List Ost} (h : Sl 5 elOst w F (.slice A n c) l) {k : Nat} (hk : k < l.length) :
    ∃ b o, A = some ⟨b, o, none⟩ ∧ F b ∧ w.cell? ⟨b, o + k * 5, none⟩ = some (.int .i64 l[k].ball) ∧ w.cell? ⟨b, o + k * 5 + 1, none⟩ = some (.int .i64 l[k].need) ∧ w.cell? ⟨b, o + k * 5 + 2, none⟩ = some (.int .i64 l[k].str) ∧ w.cell? ⟨b, o + k * 5 + 3, none⟩ = some (.int .i64 l[k].par) ∧ w.cell? ⟨b, o + k * 5 + 4, none⟩ = some (.int .u16 l[k].wait) := by
  obtain ⟨b, o, cs, h1, h2, h3, h4, h5⟩ := h.at hk
  have h5 : cs = _ := h5
  subst h5
  exact ⟨b, o, h1, h2, h4 0 _ rfl, h4 1 _ rfl, h4 2 _ rfl, h4 3 _ rfl, h4 4 _ rfl⟩
theorem rep_snoc {α : Type} (n : Nat) (a : α) : List.replicate n a ++ [a] = List.replicate (n + 1) a := by
  induction n with
  | zero => rfl
  | succ n ih => rw [List.replicate_succ, List.cons_append, ih]; rfl
/-- The reference's sum over the states that follow. -/
def accF (f : Ost → Int) : List Ost → List Int → Int → Int
  | x :: l, y :: w, v => accF f l w (if y = 0 then max v (f x) else v + y * f x)
  | _, _, v => v
theorem accF_snoc (f : Ost → Int) (x : Ost) (y : Int) : ∀ (l : List Ost) (w : List Int) (v : Int), l.length = w.length → accF f (l ++ [x]) (w ++ [y]) v = if y = 0 then max (accF f l w v) (f x) else accF f l w v + y * f x
  | [], [], v, _ => rfl
  | a :: l, b :: w, v, h => by
    rw [List.cons_append, List.cons_append, accF, accF_snoc f x y l w _ (by simpa using h), accF]
  | [], _ :: _, _, h => by simp at h
  | _ :: _, [], _, h => by simp at h
theorem accF_vac (f : Ost → Int) (s : Ost) : ∀ k, accF f (sendsL s k) (List.replicate (sendsL s k).length 0) 0 = bestF (fun i => f (sendO s i)) s.wait k
  | 0 => rfl
  | k + 1 => by
    rw [sendsL, bestF]
    by_cases hb : bitW s.wait k = true
    · rw [if_pos hb, if_pos hb, List.length_append, List.length_singleton, ← rep_snoc, accF_snoc f _ _ _ _ _ (by simp), accF_vac f s k, if_pos rfl]
    · rw [if_neg hb, if_neg hb, accF_vac f s k]
theorem accF_run (f : Ost → Int) (g : Otc → Ost) : ∀ (l : List Otc) (v : Int), (∀ o ∈ l, o.wt ≠ 0) → accF f (l.map g) (l.map (·.wt)) v = v + sumI (l.map fun o => o.wt * f (g o))
  | [], v, _ => by show v = v + sumI []; rw [sumI_nil, Int.add_zero]
  | o :: l, v, h => by
    rw [List.map_cons, List.map_cons, List.map_cons, accF, if_neg (h o (by simp)), accF_run f g l _ fun x hx => h x (by simp [hx]), sumI_cons, Int.add_assoc]
theorem accF_at (f : Ost → Int) {l : List Ost} {w : List Int} {k : Nat} (h1 : k < l.length) (h2 : k < w.length) (v : Int) : accF f (l.drop k) (w.drop k) v = accF f (l.drop (k + 1)) (w.drop (k + 1)) (if w[k] = 0 then max v (f l[k]) else v + w[k] * f l[k]) := by
  rw [List.drop_eq_getElem_cons h1, List.drop_eq_getElem_cons h2, accF]
/-- What holds of the states that follow. -/
structure NextOk (c : Chs) (s x : Ost) (y : Int) : Prop where
  ok : OkOs c x
  rank : rankO c x < rankO c s
  v0 : 0 ≤ vO c x ∧ vO c x ≤ 281474976710656
  p0 : 0 ≤ y * vO c x ∧ y * vO c x ≤ 281474976710656
theorem vO_48 {c : Chs} (ht : OkT c) {x : Ost} (hx : OkOs c x) : 0 ≤ vO c x ∧ vO c x ≤ 281474976710656 := by
  have h1 := vO_bd ht _ x hx rfl
  have h2 := pow16_le (leftO_le ht hx)
  omega
theorem nexts_law {c : Chs} (ht : OkT c) {s : Ost} (hs : OkOs c s) : (nextsO c s).1.length = (nextsO c s).2.length ∧ (nextsO c s).1.length ≤ 16 ∧ (∀ (k : Nat) (h1 : k < (nextsO c s).1.length) (h2 : k < (nextsO c s).2.length), NextOk c s (nextsO c s).1[k] (nextsO c s).2[k]) ∧
    (s.need ≠ 0 → accF (vO c) (nextsO c s).1 (nextsO c s).2 0 = vO c s) := by
  unfold nextsO
  by_cases he : endO c s = true
  · simp only [if_pos he]
    refine ⟨rfl, by simp, fun k h1 => by simp at h1, fun hn => ?_⟩
    unfold endO at he
    simp [hn] at he
    rw [vO_lost hn he]; rfl
  · simp only [if_neg he]
    have he2 : s.need ≠ 0 ∧ s.ball ≠ c.bows.length := by unfold endO at he; simpa using he
    have hp := ht.np
    cases hv : vacO s
    · simp only [Bool.false_eq_true, if_false]
      obtain ⟨_, _, _, _, _, _, _, _, _, _, _, _, _, _, _, hd⟩ := mvO_at ht.ok hs he2.2 hv
      have hok := checkD_ok hd
      refine ⟨by simp, by simp; exact hok.len.2, fun k h1 h2 => ?_, fun hn => ?_⟩
      · simp only [List.length_map] at h1
        simp only [List.getElem_map]
        have ho := hok.each _ (List.getElem_mem h1)
        obtain ⟨k1, k2⟩ := rank_step hs he2.2 hv ho.r0
        obtain ⟨_, k4, _⟩ := stepO_ok hs he2.2 hv ho.r0
        have h8 := ht.nb
        have h9 := hs.ball
        exact ⟨k1, by omega, vO_48 ht k1, prod_bd (n := leftO c (stepO c s (mvO c s)[k])) (by unfold leftO; rw [k4]; omega) ⟨ho.w1, ho.w16⟩ (vO_bd ht _ _ k1 rfl)⟩
      · rw [accF_run (vO c) (stepO c s) _ _ fun o ho => by have := (hok.each o ho).w1; omega, Int.zero_add, vO_run ht.ok hs he2.1 he2.2 hv]
    · simp only [if_true]
      refine ⟨by simp, by have := sendsL_len s c.ord.length; omega, fun k h1 h2 => ?_, fun hn => ?_⟩
      · obtain ⟨i, h3, h4, h5⟩ := sendsL_mem (List.getElem_mem h1)
        obtain ⟨k1, k2⟩ := rank_send ht hs hv (i := i) ⟨by omega, by omega⟩ h4
        have hz : (List.replicate (sendsL s c.ord.length).length (0 : Int))[k] = 0 := by simp
        rw [hz, h5]
        exact ⟨k1, by omega, vO_48 ht k1, by rw [Int.zero_mul]; omega⟩
      · rw [accF_vac, vO_vac ht hs he2.1 he2.2 hv]
/-- The rows under way; they lie behind the world wB. -/
structure NxO (w wB W : World) (c : Chs) (bv wv pv ov : Value) (s : Ost) (v1 v2 : Value) (l1 : List Ost) (l2 : List Int) (n : Nat) : Prop where
  b0 : OSB w wB w.heap.size c bv wv pv ov s
  o1 : OwnSl 5 elOst 45 wB.heap.size W v1 l1
  o2 : OwnSl 1 elInt 2 wB.heap.size W v2 l2
  sb : Below wB.heap.size wB W
  n1 : l1.length ≤ n
  n2 : l2.length ≤ n
section
variable {w wB W W' : World} {c : Chs} {bv wv pv ov v1 v2 v' : Value} {s : Ost} {l1 : List Ost} {l2 : List Int} {n : Nat}
theorem NxO.base (h : NxO w wB W c bv wv pv ov s v1 v2 l1 l2 n) : OSB w W w.heap.size c bv wv pv ov s := h.b0.below h.sb
theorem NxO.below (h : NxO w wB W c bv wv pv ov s v1 v2 l1 l2 n) (hb : Below W.heap.size W W') : NxO w wB W' c bv wv pv ov s v1 v2 l1 l2 n := ⟨h.b0, h.o1.below elOst_good hb, h.o2.below elInt_good hb, h.sb.trans (hb.mono h.sb.size), h.n1, h.n2⟩
theorem NxO.alloc (h : NxO w wB W c bv wv pv ov s v1 v2 l1 l2 n) (o : Obj) : NxO w wB (W.alloc o) c bv wv pv ov s v1 v2 l1 l2 n := h.below (Below.alloc (Below.refl _ _) (Nat.le_refl _) o)
theorem NxO.app1 {x : Ost} (h : NxO w wB W c bv wv pv ov s v1 v2 l1 l2 n) (ho : OwnSl 5 elOst 45 wB.heap.size W' v' (l1 ++ [x])) (hg : W.grownBy W' v1.ownBlock) : NxO w wB W' c bv wv pv ov s v' v2 (l1 ++ [x]) l2 (n + 1) := by
  have hap := OwnG.apart h.o1 h.o2 (by decide)
  exact ⟨h.b0, ho, h.o2.grown elInt_good hg fun b hb e => hap b e hb, below_own h.sb h.o1 hg (Nat.le_refl _) h.sb.size, by simp; exact h.n1, Nat.le_succ_of_le h.n2⟩
theorem NxO.app2 {x : Int} {m : Nat} (h : NxO w wB W c bv wv pv ov s v1 v2 l1 l2 n) (ho : OwnSl 1 elInt 2 wB.heap.size W' v' (l2 ++ [x])) (hg : W.grownBy W' v2.ownBlock) (hm1 : l1.length ≤ m) (hm2 : l2.length + 1 ≤ m) : NxO w wB W' c bv wv pv ov s v1 v' l1 (l2 ++ [x]) m := by
  have hap := OwnG.apart h.o1 h.o2 (by decide)
  exact ⟨h.b0, h.o1.grown elOst_good hg fun b hb e => hap b hb e, ho, below_own h.sb h.o2 hg (Nat.le_refl _) h.sb.size, hm1, by simp; exact hm2⟩
theorem NxO.le {m : Nat} (h : NxO w wB W c bv wv pv ov s v1 v2 l1 l2 n) (hm : n ≤ m) : NxO w wB W c bv wv pv ov s v1 v2 l1 l2 m := ⟨h.b0, h.o1, h.o2, h.sb, Nat.le_trans h.n1 hm, Nat.le_trans h.n2 hm⟩
theorem NxO.start (h : OSB w W w.heap.size c bv wv pv ov s) : NxO w W W c bv wv pv ov s (.slice none 0 0) (.slice none 0 0) [] [] 0 := ⟨h, OwnSl.nil _, OwnSl.nil _, Below.refl _ _, Nat.le_refl _, Nat.le_refl _⟩
theorem NxO.otc {v : Value} {l : List Otc} (h : NxO w wB W c bv wv pv ov s v1 v2 l1 l2 n) (hl : Sl 3 elOtc wB (· < wB.heap.size) v l) : Sl 3 elOtc W (· < wB.heap.size) v l := hl.keep elOtc_good (Same.of_below h.sb) fun _ h => h
end
theorem roomO {k n : Nat} (h : n ≤ k) (hk : k < 1000) : n + 1 ≤ maxLen ∧ (n + 1) * 40 ≤ 140737488355328 := by simp only [maxLen]; omega
theorem room8 {k n : Nat} (h : n ≤ k) (hk : k < 1000) : n + 1 ≤ maxLen ∧ (n + 1) * 8 ≤ 140737488355328 := by simp only [maxLen]; omega
theorem base2 {B : Nat} {W : World} (h : B ≤ W.heap.size) (o : Obj) : B ≤ (W.alloc o).heap.size := by simp; omega
theorem own_neq {α : Type} {size e base : Nat} {R : World → (Nat → Prop) → List Value → α → Prop} {W : World} {v : Value} {l : List α} (h : OwnSl size R e base W v l) : v.ownBlock ≠ some W.heap.size := fun e => by have := (OwnSl.block h _ e).2; omega
/-- What nexts hands back. -/
def NxPost (w : World) (r : List Ost × List Int) (e : Ending) (w' : World) : Prop :=
  ∃ A n k A2 n2 k2, e = .returned (.tuple #[.slice A n k, .slice A2 n2 k2]) ∧ Below w.heap.size w w' ∧ Sl 5 elOst w' (fun b => w.heap.size ≤ b ∧ b < w'.heap.size) (.slice A n k) r.1 ∧ Sl 1 elInt w' (fun b => w.heap.size ≤ b ∧ b < w'.heap.size) (.slice A2 n2 k2) r.2
theorem NxO.post {w wB W : World} {c : Chs} {bv wv pv ov : Value} {s : Ost} {A A2 : Option Addr} {n k n2 k2 : Nat} {l1 : List Ost} {l2 : List Int} {m : Nat} (h : NxO w wB W c bv wv pv ov s (.slice A n k) (.slice A2 n2 k2) l1 l2 m) : NxPost w (l1, l2) (.returned (.tuple #[.slice A n k, .slice A2 n2 k2])) W :=
  ⟨_, _, _, _, _, _, rfl, h.base.bel, (h.o1.sl elOst_good).keep elOst_good (Same.refl _ _) fun b hb => ⟨Nat.le_trans h.b0.bel.size hb.1, hb.2⟩, (h.o2.sl elInt_good).keep elInt_good (Same.refl _ _) fun b hb => ⟨Nat.le_trans h.b0.bel.size hb.1, hb.2⟩⟩
set_option maxRecDepth 100000 in
set_option maxHeartbeats 8000000 in
theorem r45_nexts (c : Chs) (ht : OkT c) (s : Ost) (hs : OkOs c s) (bv wv pv ov : Value) (w : World) (h : ChAt w (· < w.heap.size) bv wv pv ov c) :
    Calls Tryz.prog 79 #[chV c bv wv pv ov, osV s] w (NxPost w (nextsO c s)) := by
  unfold chV osV
  have hnp := ht.np
  obtain ⟨A, ca, rfl, hc1, hc2⟩ := h.mdl.bat.shape
  obtain ⟨A1, ca1, rfl, hc3, hc4⟩ := h.mdl.bow.shape
  obtain ⟨A2, ca2, rfl, hc5, hc6⟩ := h.bow.shape
  obtain ⟨A3, ca3, rfl, hc7, hc8⟩ := h.ord.shape
  have HX0 := Lib.hid (NxO.start (OSB.new w c (.slice A c.mdl.bats.length ca) (.slice A1 c.mdl.bows.length ca1) (.slice A2 c.bows.length ca2) (.slice A3 c.ord.length ca3) s))
  have HM := Lib.hid h
  obtain ⟨z, hz⟩ : ∃ z, z = nextsO c s := ⟨_, rfl⟩
  rw [← hz]
  unfold nextsO at hz
  have tok0 : True := trivial
  by_cases h0 : s.need = 0
  · have he : endO c s = true := by unfold endO; simp [h0]
    rw [if_pos he] at hz
    have HZ := Lib.hid hz
    have e0 : (s.need == 0) = true := beq_iff_eq.2 h0
    obtain ⟨ball, need, str, par, wait⟩ := s
    dsimp only at e0 ⊢
    clear hz h0 he hs ht h
    go_enter Tryz.func79, Tryz.ntmps79
    go_wp2
    go_ret2
    rw [HZ.out]; exact HX0.out.post
  have e0 : (s.need == 0) = false := beq_eq_false_iff_ne.2 h0
  by_cases h1 : s.ball = c.bows.length
  · have he : endO c s = true := by unfold endO; simp [h1]
    rw [if_pos he] at hz
    have HZ := Lib.hid hz
    have e1 : (s.ball == (c.bows.length : Int)) = true := beq_iff_eq.2 h1
    obtain ⟨ball, need, str, par, wait⟩ := s
    dsimp only at e0 e1 ⊢
    clear hz h0 h1 he hs ht h
    go_enter Tryz.func79, Tryz.ntmps79
    go_wp2
    go_ret2
    rw [HZ.out]; exact HX0.out.post
  have e1 : (s.ball == (c.bows.length : Int)) = false := beq_eq_false_iff_ne.2 h1
  have he : endO c s = false := by unfold endO; simp [h0, h1]
  rw [he, if_neg (by decide)] at hz
  cases hv : vacO s
  · -- a ball
    rw [hv, if_neg (by decide)] at hz
    obtain ⟨_, _, _, _, _, _, _, _, _, _, _, _, _, _, _, hd⟩ := mvO_at ht.ok hs h1 hv
    have kmv := fun W (hW : Below w.heap.size w W) => r45_moves c s _ _ _ _ W (HM.out.below hW) ht.ok hs h1 hv
    obtain ⟨l, hle⟩ : ∃ l, mvO c s = l := ⟨_, rfl⟩
    rw [hle] at hd kmv hz
    have hok := checkD_ok hd
    have hlen : l.length ≤ 16 := hok.len.2
    have hoe : ∀ (k : Nat) (hk : k < l.length), OkO l[k] := fun k hk => hok.each _ (List.getElem_mem hk)
    have kstep := fun k (hk : k < l.length) W => r45_after c s l[k] A A1 A2 A3 ca ca1 ca2 ca3 W ht hs h1 hv ⟨(hoe k hk).r0, (hoe k hk).r7⟩
    have htk : ∀ (k : Nat) (hk : k < l.length), (l.take (k + 1)).map (stepO c s) = (l.take k).map (stepO c s) ++ [stepO c s l[k]] ∧ (l.take (k + 1)).map (·.wt) = (l.take k).map (·.wt) ++ [l[k].wt] := fun k hk => by
      rw [List.take_add_one, List.getElem?_eq_getElem hk, List.map_append, List.map_append]; exact ⟨rfl, rfl⟩
    have hvv : ¬ s.str < 0 ∧ ¬ s.par < 0 := by unfold vacO at hv; simpa using hv
    obtain ⟨hv1, hv2⟩ := hvv
    have HTK := Lib.hid htk
    have KMV := Lib.hid kmv
    have KST := Lib.hid kstep
    have HZ := Lib.hid hz
    obtain ⟨ball, need, str, par, wait⟩ := s
    unfold chV osV at KMV
    unfold osV at KST
    dsimp only at e0 e1 KMV KST hv1 hv2 ⊢
    clear hz h0 h1 he hs ht h kmv kstep hd hok hoe hle hv htk
    go_enter Tryz.func79, Tryz.ntmps79
    go_wp2_with (clear tok0; go_at_call 118; refine (KMV.out _ HX0.out.base.bel).mono ?_; rintro e w4 ⟨A4, n4, k4, rfl, hb3, hs3⟩; obtain ⟨Az, kz, hze, hz1, hz2⟩ := hs3.shape; have hn4 : n4 = l.length := (by injection hze); subst hn4; have HX4 := Lib.hid (HX0.out.base.below hb3); have HL4 := Lib.hid (hs3.keep (G := fun x => x < w4.heap.size) elOtc_good (Same.refl _ _) fun x hx => hx.2); obtain ⟨x0, x1, x2, x3, x4, x5, x6, y0, y1, y2, y3, y4⟩ := HX4.out.cells; dsimp only at y0 y1 y2 y3 y4; clear hb3 hs3 hze hz1 hz2; have tok1 : True := trivial)
    go_loopw [6, 7, 15] (fun v1 v2 i wr => ∃ (k : Nat) (l1 : List Ost) (l2 : List Int) (A1' A2' : Option Addr) (m1 m2 q1 q2 : Nat), k ≤ l.length ∧ i = .int .i64 k ∧ v1 = .slice A1' m1 q1 ∧ v2 = .slice A2' m2 q2 ∧ Hid (NxO w w4 wr c (.slice A c.mdl.bats.length ca) (.slice A1 c.mdl.bows.length ca1) (.slice A2 c.bows.length ca2) (.slice A3 c.ord.length ca3) ⟨ball, need, str, par, wait⟩ v1 v2 l1 l2 k) ∧ Hid (l1 = (l.take k).map (stepO c ⟨ball, need, str, par, wait⟩)) ∧ Hid (l2 = (l.take k).map (·.wt))) (fun _ _ i _ => l.length - (intOf i).toNat)
    case atStart => exact ⟨0, [], [], none, none, 0, 0, 0, 0, Nat.zero_le _, rfl, rfl, rfl, Lib.hid (NxO.start HX4.out), Lib.hid rfl, Lib.hid rfl⟩
    case round =>
      clear x0 x1 x2 x3 x4 x5 x6 y0 y1 y2 y3 y4 HX4
      obtain ⟨k, l1, l2, A1', A2', m1, m2, q1, q2, hk, rfl, rfl, rfl, HN, HE1, HE2⟩ := hrel
      obtain ⟨x0, x1, x2, x3, x4, x5, x6, y0, y1, y2, y3, y4⟩ := HN.out.base.cells; dsimp only at y0 y1 y2 y3 y4; 
      by_cases hlt : k < l.length
      · obtain ⟨b0, o, rfl, hbl, g0, g1, g2⟩ := otc_at (HN.out.otc HL4.out) hlt
        have hk17 : k < 1000 := by omega
        have hk18 : k + 1 < 1000 := by omega
        have HLEN1 : (l1 ++ [stepO c ⟨ball, need, str, par, wait⟩ l[k]]).length ≤ k + 1 := by have := HN.out.n1; simp; omega
        have HLEN2 : l2.length + 1 ≤ k + 1 := by have := HN.out.n2; omega
        obtain ⟨ht1, ht2⟩ := HTK.out k hlt
        rw [← HE1.out] at ht1
        rw [← HE2.out] at ht2
        have kS := KST.out k hlt
        obtain ⟨⟨t0, t1, t2, t3, t4⟩, hs'⟩ : ∃ x, x = stepO c ⟨ball, need, str, par, wait⟩ l[k] := ⟨_, rfl⟩
        rw [← hs'] at ht1 HLEN1
        simp only [← hs'] at kS
        obtain ⟨⟨pr, pw, pt⟩, hp'⟩ : ∃ p, p = l[k] := ⟨_, rfl⟩
        rw [← hp'] at g0 g1 g2 ht2
        simp only [← hp'] at kS
        dsimp only at g0 g1 g2 ht2 kS
        have KS := Lib.hid kS
        have HT1 := Lib.hid ht1
        have HT2 := Lib.hid ht2
        have HNA := Lib.hid (HN.out.alloc (.cells #[.int .i64 pr, .bool pw, .int .i64 pt] 110))
        have HCA := Lib.hid (Blk.new wr 110 #[.int .i64 pr, .bool pw, .int .i64 pt])
        have hl1 := HN.out.base.box.lt
        have hl2 := HN.out.base.st.lt
        clear kS ht1 ht2 hs' hp'
        have tok5 : True := trivial
        go_wp2_with (first
          | (clear tok5; go_at_call 119; refine (KS.out _).mono ?_; rintro e w5 ⟨rfl, hb5⟩; have HN5 := Lib.hid (HNA.out.below hb5); have HC5 := Lib.hid (HCA.out.below hb5 HCA.out.lt); clear x0 x1 x2 x3 x4 x5 x6 y0 y1 y2 y3 y4; obtain ⟨x0, x1, x2, x3, x4, x5, x6, y0, y1, y2, y3, y4⟩ := HN5.out.base.cells; dsimp only at y0 y1 y2 y3 y4; have u0 := HC5.out.cell 0; have u1 := HC5.out.cell 1; have u2 := HC5.out.cell 2; have hl3 := HC5.out.lt; clear hb5; have tok6 : True := trivial)
          | (clear tok6; at_builtin; refine wpList_append_sl _ rfl (.tmp 19) (.tmp 24) _ rfl E_ost elOst_good _ _ l1 rfl (HN5.out.o1.alloc elOst_good _) ⟨w5.heap.size, 0, none⟩ 1 [.int .i64 t0, .int .i64 t1, .int .i64 t2, .int .i64 t3, .int .u16 t4] rfl ⟨t0, t1, t2, t3, t4⟩ rfl (cells_new _ _ _ _) (oneCells rfl) rfl (roomO HN5.out.n1 hk17).1 (roomO HN5.out.n1 hk17).2 (base2 HN5.out.sb.size _) ?_; intro v6 w6 hown6 hg6 hat6; have h6 := (HN5.out.alloc (.cells #[.int .i64 t0, .int .i64 t1, .int .i64 t2, .int .i64 t3, .int .u16 t4] 45)).app1 hown6 hg6; have H6 := Lib.hid h6; clear x0 x1 x2 x3 x4 x5 x6 y0 y1 y2 y3 y4; obtain ⟨x0, x1, x2, x3, x4, x5, x6, y0, y1, y2, y3, y4⟩ := h6.base.cells; dsimp only at y0 y1 y2 y3 y4; obtain ⟨A6, c6, rfl, hc61, hc62⟩ := (hown6.sl elOst_good).shape; have HC6 := Lib.hid ((HC5.out.alloc _).grown hg6 (own_neq HN.out.o1)); clear u0 u1 u2; have u0 := HC6.out.cell 0; have u1 := HC6.out.cell 1; have u2 := HC6.out.cell 2; clear hown6 hg6 hat6 h6; have tok7 : True := trivial)
          | (clear tok7; at_builtin; refine wpList_append_sl _ rfl (.tmp 26) (.tmp 29) _ rfl E_i64o elInt_good _ _ l2 rfl (H6.out.o2.alloc elInt_good _) ⟨w6.heap.size, 0, none⟩ 1 [.int .i64 pt] rfl pt rfl (cells_new _ _ _ _) (oneCells rfl) rfl (room8 H6.out.n2 hk18).1 (room8 H6.out.n2 hk18).2 (base2 H6.out.sb.size _) ?_; intro v7 w7 hown7 hg7 hat7; have h7 := (H6.out.alloc (.cells #[.int .i64 pt] 2)).app2 hown7 hg7 HLEN1 HLEN2; have H7 := Lib.hid h7; clear x0 x1 x2 x3 x4 x5 x6 y0 y1 y2 y3 y4; obtain ⟨x0, x1, x2, x3, x4, x5, x6, y0, y1, y2, y3, y4⟩ := h7.base.cells; dsimp only at y0 y1 y2 y3 y4; obtain ⟨A7, c7, rfl, hc71, hc72⟩ := (hown7.sl elInt_good).shape; clear hown7 hg7 hat7 h7; have tok8 : True := trivial))
        go_roundw
        case rel => exact ⟨k + 1, _, _, A6, A7, _, _, c6, c7, by omega, by go_num, rfl, rfl, Lib.hid (by have h7 := H7.out; simp only [List.length_append, List.length_singleton] at h7; exact h7), Lib.hid HT1.out.symm, Lib.hid HT2.out.symm⟩
        case measure => simp [intOf]; omega
      · obtain rfl : k = l.length := by omega
        have he1 := HE1.out
        have he2 := HE2.out
        rw [List.take_of_length_le (Nat.le_refl _)] at he1 he2
        have HF := Lib.hid (show z = (l1, l2) by rw [HZ.out, he1, he2])
        clear he1 he2 HE1 HE2
        go_wp2
        go_ret2
        rw [HF.out]; exact HN.out.post
  · -- somebody has to be sent
    rw [hv, if_pos rfl] at hz
    have h16 := hs.w16
    have ksend := fun (i : Nat) (hi : i < c.ord.length) W => r45_send s (i : Int) W h16 ⟨by omega, by omega⟩
    have kwait := fun (i : Nat) (hi : i < c.ord.length) W => r45_waits s (i : Int) W h16 ⟨by omega, by omega⟩
    have hvv : s.str < 0 ∨ (¬ s.str < 0 ∧ s.par < 0) := by unfold vacO at hv; simp at hv; omega
    have hsn : ∀ i : Nat, bitW s.wait i = true → sendsL s (i + 1) = sendsL s i ++ [sendO s i] := fun i hb => by rw [sendsL, if_pos hb]
    have hsk : ∀ i : Nat, bitW s.wait i = false → sendsL s (i + 1) = sendsL s i := fun i hb => by rw [sendsL, if_neg (by simp [hb])]
    have HSN := Lib.hid hsn
    have HSK := Lib.hid hsk
    have KSEND := Lib.hid ksend
    have KWAIT := Lib.hid kwait
    have HZ := Lib.hid hz
    have hn6 : c.ord.length ≤ 6 := hnp.2
    obtain ⟨ball, need, str, par, wait⟩ := s
    unfold osV at KSEND KWAIT
    dsimp only at e0 e1 KSEND KWAIT HSN HSK hvv ⊢
    clear hz h0 h1 he hs ht h ksend kwait hsn hsk hv h16 hnp
    rcases hvv with hs1 | ⟨hs1, hs2⟩
    all_goals
      go_enter Tryz.func79, Tryz.ntmps79
      go_wp2
      go_loopw [6, 7, 56] (fun v1 v2 i wr => ∃ (k : Nat) (l1 : List Ost) (l2 : List Int) (A1' A2' : Option Addr) (m1 m2 q1 q2 : Nat), k ≤ c.ord.length ∧ i = .int .i64 k ∧ v1 = .slice A1' m1 q1 ∧ v2 = .slice A2' m2 q2 ∧ Hid (NxO w ((w.alloc (.cells #[.slice A c.mdl.bats.length ca, .slice A1 c.mdl.bows.length ca1, .slice A2 c.bows.length ca2, .int .i64 c.over, .int .i64 c.done, .int .i64 c.need, .slice A3 c.ord.length ca3] 42)).alloc (.cells #[.int .i64 ball, .int .i64 need, .int .i64 str, .int .i64 par, .int .u16 wait] 45)) wr c (.slice A c.mdl.bats.length ca) (.slice A1 c.mdl.bows.length ca1) (.slice A2 c.bows.length ca2) (.slice A3 c.ord.length ca3) ⟨ball, need, str, par, wait⟩ v1 v2 l1 l2 k) ∧ Hid (l1 = sendsL ⟨ball, need, str, par, wait⟩ k) ∧ Hid (l2 = List.replicate l1.length 0)) (fun _ _ i _ => c.ord.length - (intOf i).toNat)
      case atStart => exact ⟨0, [], [], none, none, 0, 0, 0, 0, Nat.zero_le _, rfl, rfl, rfl, HX0, Lib.hid rfl, Lib.hid rfl⟩
      case round =>
        obtain ⟨k, l1, l2, A1', A2', m1, m2, q1, q2, hk, rfl, rfl, rfl, HN, HE1, HE2⟩ := hrel
        obtain ⟨x0, x1, x2, x3, x4, x5, x6, y0, y1, y2, y3, y4⟩ := HN.out.base.cells; dsimp only at y0 y1 y2 y3 y4; 
        have tok5 : True := trivial
        by_cases hlt : k < c.ord.length
        · have kW := KWAIT.out k hlt
          cases hbit : bitW wait k
          · have he1 := HSK.out k hbit
            rw [← HE1.out] at he1
            have HF1 := Lib.hid he1.symm
            rw [hbit] at kW
            have KW := Lib.hid kW
            clear kW he1 hbit
            go_wp2_with (clear tok5; go_at_call 92; refine (KW.out _).mono ?_; rintro e w5 ⟨rfl, hb5⟩; have HN5 := Lib.hid ((HN.out.below hb5).le (Nat.le_succ k)); clear hb5; have tok6 : True := trivial)
            go_roundw
            case rel => exact ⟨k + 1, l1, l2, A1', A2', _, _, q1, q2, by omega, by go_num, rfl, rfl, HN5, HF1, HE2⟩
            case measure => simp [intOf]; omega
          · have hk17 : k < 1000 := by omega
            have hk18 : k + 1 < 1000 := by omega
            have he1 := HSN.out k hbit
            rw [← HE1.out] at he1
            have kS := KSEND.out k hlt
            rw [hbit] at kW
            obtain ⟨⟨t0, t1, t2, t3, t4⟩, hs'⟩ : ∃ x, x = sendO ⟨ball, need, str, par, wait⟩ k := ⟨_, rfl⟩
            rw [← hs'] at he1
            simp only [← hs'] at kS
            have HLEN1 : (l1 ++ [(⟨t0, t1, t2, t3, t4⟩ : Ost)]).length ≤ k + 1 := by have := HN.out.n1; simp; omega
            have HLEN2 : l2.length + 1 ≤ k + 1 := by have := HN.out.n2; omega
            have HF1 := Lib.hid he1.symm
            have HF2 := Lib.hid (show l2 ++ [0] = List.replicate (l1 ++ [(⟨t0, t1, t2, t3, t4⟩ : Ost)]).length 0 by rw [HE2.out, rep_snoc]; simp)
            have KW := Lib.hid kW
            have KS := Lib.hid kS
            clear kW kS he1 hs' hbit
            go_wp2_with (first
              | (clear tok5; go_at_call 92; refine (KW.out _).mono ?_; rintro e w4 ⟨rfl, hb5⟩; have HN4 := Lib.hid (HN.out.below hb5); clear x0 x1 x2 x3 x4 x5 x6 y0 y1 y2 y3 y4; obtain ⟨x0, x1, x2, x3, x4, x5, x6, y0, y1, y2, y3, y4⟩ := HN4.out.base.cells; dsimp only at y0 y1 y2 y3 y4; clear hb5; have tok6 : True := trivial)
              | (clear tok6; go_at_call 117; refine (KS.out _).mono ?_; rintro e w5 ⟨rfl, hb5⟩; have HN5 := Lib.hid (HN4.out.below hb5); clear x0 x1 x2 x3 x4 x5 x6 y0 y1 y2 y3 y4; obtain ⟨x0, x1, x2, x3, x4, x5, x6, y0, y1, y2, y3, y4⟩ := HN5.out.base.cells; dsimp only at y0 y1 y2 y3 y4; clear hb5; have tok7 : True := trivial)
              | (clear tok7; at_builtin; refine wpList_append_sl _ rfl (.tmp 62) (.tmp 66) _ rfl E_ost elOst_good _ _ l1 rfl (HN5.out.o1.alloc elOst_good _) ⟨w5.heap.size, 0, none⟩ 1 [.int .i64 t0, .int .i64 t1, .int .i64 t2, .int .i64 t3, .int .u16 t4] rfl ⟨t0, t1, t2, t3, t4⟩ rfl (cells_new _ _ _ _) (oneCells rfl) rfl (roomO HN5.out.n1 hk17).1 (roomO HN5.out.n1 hk17).2 (base2 HN5.out.sb.size _) ?_; intro v6 w6 hown6 hg6 hat6; have h6 := (HN5.out.alloc (.cells #[.int .i64 t0, .int .i64 t1, .int .i64 t2, .int .i64 t3, .int .u16 t4] 45)).app1 hown6 hg6; have H6 := Lib.hid h6; clear x0 x1 x2 x3 x4 x5 x6 y0 y1 y2 y3 y4; obtain ⟨x0, x1, x2, x3, x4, x5, x6, y0, y1, y2, y3, y4⟩ := h6.base.cells; dsimp only at y0 y1 y2 y3 y4; obtain ⟨A6, c6, rfl, hc61, hc62⟩ := (hown6.sl elOst_good).shape; clear hown6 hg6 hat6 h6; have tok8 : True := trivial)
              | (clear tok8; at_builtin; refine wpList_append_sl _ rfl (.tmp 68) (.tmp 69) _ rfl E_i64o elInt_good _ _ l2 rfl (H6.out.o2.alloc elInt_good _) ⟨w6.heap.size, 0, none⟩ 1 [.int .i64 0] rfl 0 rfl (cells_new _ _ _ _) (oneCells rfl) rfl (room8 H6.out.n2 hk18).1 (room8 H6.out.n2 hk18).2 (base2 H6.out.sb.size _) ?_; intro v7 w7 hown7 hg7 hat7; have h7 := (H6.out.alloc (.cells #[.int .i64 0] 2)).app2 hown7 hg7 HLEN1 HLEN2; have H7 := Lib.hid h7; clear x0 x1 x2 x3 x4 x5 x6 y0 y1 y2 y3 y4; obtain ⟨x0, x1, x2, x3, x4, x5, x6, y0, y1, y2, y3, y4⟩ := h7.base.cells; dsimp only at y0 y1 y2 y3 y4; obtain ⟨A7, c7, rfl, hc71, hc72⟩ := (hown7.sl elInt_good).shape; clear hown7 hg7 hat7 h7; have tok9 : True := trivial))
            go_roundw
            case rel => exact ⟨k + 1, _, _, A6, A7, _, _, c6, c7, by omega, by go_num, rfl, rfl, Lib.hid (by have h7 := H7.out; simp only [List.length_append, List.length_singleton] at h7; exact h7), HF1, HF2⟩
            case measure => simp [intOf]; omega
        · obtain rfl : k = c.ord.length := by omega
          have HF := Lib.hid (show z = (l1, l2) by rw [HZ.out, HE2.out, HE1.out])
          clear HE1 HE2
          go_wp2
          go_ret2
          rw [HF.out]; exact HN.out.post
end Go.Proofs.YtdlmmbfnmnglaaaGreatDoor

namespace Go.Proofs.YtdlmmbfnmnglaaaGreatDoor
open Go.RowKit Go.Maps

def accL (lk : Ost → Int × Bool) : List Ost → List Int → Int → Int × Bool
  | x :: l, y :: w, v => if (lk x).2 = true then accL lk l w (if y = 0 then max v (lk x).1 else wrap64 (v + wrap64 (y * (lk x).1))) else (0, false)
  | _, _, v => (v, true)
theorem accL_at {lk : Ost → Int × Bool} {l : List Ost} {w : List Int} {k : Nat} (h1 : k < l.length) (h2 : k < w.length) (v : Int) : accL lk (l.drop k) (w.drop k) v = if (lk l[k]).2 = true then accL lk (l.drop (k + 1)) (w.drop (k + 1)) (if w[k] = 0 then max v (lk l[k]).1 else wrap64 (v + wrap64 (w[k] * (lk l[k]).1))) else (0, false) := by
  rw [List.drop_eq_getElem_cons h1, List.drop_eq_getElem_cons h2, accL]
theorem accL_run (lk : Ost → Int × Bool) (g : Otc → Ost) : ∀ (l : List Otc) (v : Int), (∀ o ∈ l, o.wt ≠ 0) → accL lk (l.map g) (l.map (·.wt)) v = runL lk g l v
  | [], v, _ => rfl
  | o :: l, v, h => by
    rw [List.map_cons, List.map_cons, accL, runL]
    split
    · rw [if_neg (h o (by simp)), accL_run lk g l _ fun x hx => h x (by simp [hx])]
    · rfl
theorem sendsL_filter (s : Ost) : ∀ k, sendsL s k = ((List.range k).filter fun (i : Nat) => bitW s.wait (i : Int)).map fun (i : Nat) => sendO s (i : Int)
  | 0 => rfl
  | k + 1 => by
    rw [sendsL, List.range_succ, List.filter_append, List.map_append, ← sendsL_filter s k]
    by_cases h : bitW s.wait (k : Int) = true
    · rw [if_pos h]; simp [h]
    · rw [if_neg h]; simp [h]
theorem vacL_acc (lk : Ost → Int × Bool) (s : Ost) : ∀ (m i : Nat) (b : Int) (n : Nat), (((List.range' i m).filter fun (i : Nat) => bitW s.wait (i : Int)).map fun (i : Nat) => sendO s (i : Int)).length ≤ n → accL lk (((List.range' i m).filter fun (i : Nat) => bitW s.wait (i : Int)).map fun (i : Nat) => sendO s (i : Int)) (List.replicate n 0) b = vacL lk s m i b
  | 0, i, b, n, _ => by
    rw [vacL]
    show accL lk [] _ b = _
    cases n <;> rfl
  | m + 1, i, b, n, hn => by
    rw [vacL, List.range'_succ] at *
    by_cases h : bitW s.wait (i : Int) = true
    · rw [if_pos h]
      simp only [List.filter_cons, h, if_true, List.map_cons] at hn ⊢
      cases n with
      | zero => simp at hn
      | succ n =>
        rw [List.replicate_succ, accL]
        split
        · rw [if_pos rfl, vacL_acc lk s m (i + 1) _ n (by simpa using hn)]
        · rfl
    · rw [if_neg h]
      simp only [List.filter_cons, h] at hn ⊢
      exact vacL_acc lk s m (i + 1) b n hn
theorem accL_val {c : Chs} {lk : Ost → Int × Bool} {s : Ost} (ht : OkT c) (hs : OkOs c s) (h0 : s.need ≠ 0) : accL lk (nextsO c s).1 (nextsO c s).2 0 = valL c lk s := by
  unfold valL nextsO
  rw [if_neg h0]
  by_cases h1 : s.ball = c.bows.length
  · have he : endO c s = true := by unfold endO; simp [h1]
    rw [if_pos he, if_pos h1]; rfl
  · have he : endO c s = false := by unfold endO; simp [h0, h1]
    rw [if_neg (by simp [he]), if_neg h1]
    cases hv : vacO s
    · rw [if_neg (by decide), if_neg (by decide)]
      obtain ⟨_, _, _, _, _, _, _, _, _, _, _, _, _, _, _, hd⟩ := mvO_at ht.ok hs h1 hv
      have hok := checkD_ok hd
      exact accL_run lk (stepO c s) _ _ fun o ho => by have := (hok.each o ho).w1; omega
    · rw [if_pos rfl, if_pos rfl]
      dsimp only
      have hk := vacL_acc lk s c.ord.length 0 0 (sendsL s c.ord.length).length (by rw [sendsL_filter, List.range_eq_range']; exact Nat.le_refl _)
      rw [← List.range_eq_range', ← sendsL_filter] at hk
      exact hk
/-- A map that holds a table. -/
structure MapL (D : DataW Unit) (lk : Ost → Int × Bool) : Prop where
  isMap : IsMap D
  has : ∀ t, SmolO t → Maps.has D (keyOs t) = (lk t).2
  val : ∀ t, SmolO t → (lk t).2 = true → D.atKey (keyOs t) (.lit (.int .i64 0)) = .lit (.int .i64 (lk t).1)
theorem MapL.none : MapL (.map []) (lookL []) := ⟨isMap_empty, fun _ _ => rfl, fun _ _ h => by cases h⟩
theorem MapL.put {c : Chs} {D : DataW Unit} {l : List Ove} {k : Nat} (ht : OkT c) (h : MapL D (lookL (l.take k))) (hf : FormTo c l (k + 1)) (hk : k < l.length) (hw : TabW l) : MapL (D.put (keyOs l[k].st) (.lit (.int .i64 l[k].val))) (lookL (l.take (k + 1))) := by
  have hs : SmolO l[k].st := ((stateO_ok (hw _ (List.getElem_mem hk)).1).1 (hf k hk (by omega)).1).smol ht
  refine ⟨h.isMap.put _ _, fun t hts => ?_, fun t hts hb => ?_⟩
  · rw [look_take hf hk]
    by_cases e : l[k].st = t
    · subst e; rw [has_put_same h.isMap (okey_lit _), if_pos (cmpO_eq.2 rfl)]
    · rw [has_put_other (fun e2 => e (okey_inj hs hts e2.symm)), if_neg (fun h => e (cmpO_eq.1 h))]; exact h.has t hts
  · rw [look_take hf hk] at hb ⊢
    by_cases e : l[k].st = t
    · subst e; rw [atKey_put_same h.isMap (okey_lit _), if_pos (cmpO_eq.2 rfl)]
    · have e9 : ¬ cmpO l[k].st t = 0 := fun h => e (cmpO_eq.1 h)
      rw [atKey_put_other (fun e2 => e (okey_inj hs hts e2.symm)), if_neg e9]
      rw [if_neg e9] at hb
      exact h.val t hts hb
theorem openO_smol {c : Chs} (ht : OkT c) {a b : Nat} (ha : a < c.ord.length) (hb : b < c.ord.length) : SmolO (openO c a b) := by
  have hp := ht.np
  have hn := ht.ok.need
  unfold openO
  refine ⟨by dsimp only; omega, by dsimp only; omega, by dsimp only; omega, by dsimp only; omega, ?_⟩
  dsimp only
  rw [lessW_nat _ _ _ (by omega) (by omega) (by omega)]
  have h1 := Nat.and_le_left (n := 2 ^ c.ord.length - 1) (m := 65535 - (2 ^ a ||| 2 ^ b))
  have h2 : 2 ^ c.ord.length ≤ 2 ^ 6 := Nat.pow_le_pow_right (by decide) (by omega)
  omega
end Go.Proofs.YtdlmmbfnmnglaaaGreatDoor

namespace Go.Proofs.YtdlmmbfnmnglaaaGreatDoor
open Go.RowKit

/-- A task and a table boxed. -/
structure AcB (w W : World) (c : Chs) (bv wv pv ov v : Value) : Prop where
  bel : Below w.heap.size w W
  box : Blk W w.heap.size 42 #[bv, wv, pv, .int .i64 c.over, .int .i64 c.done, .int .i64 c.need, ov]
  tb : Blk W (w.heap.size + 1) 49 #[v]
section
variable {w W W' : World} {c : Chs} {bv wv pv ov v : Value}
theorem AcB.below (h : AcB w W c bv wv pv ov v) (hb : Below W.heap.size W W') : AcB w W' c bv wv pv ov v := ⟨h.bel.trans (hb.mono h.bel.size), h.box.below hb h.box.lt, h.tb.below hb h.tb.lt⟩
theorem AcB.drew (h : AcB w W c bv wv pv ov v) : AcB w W.drew c bv wv pv ov v := ⟨Below.drew h.bel, h.box.drew, h.tb.drew⟩
theorem AcB.alloc (h : AcB w W c bv wv pv ov v) (o : Obj) : AcB w (W.alloc o) c bv wv pv ov v := h.below (Below.alloc (Below.refl _ _) (Nat.le_refl _) o)
theorem AcB.cells (h : AcB w W c bv wv pv ov v) : W.cell? ⟨w.heap.size, 0, none⟩ = some bv ∧ W.cell? ⟨w.heap.size, 1, none⟩ = some wv ∧ W.cell? ⟨w.heap.size, 2, none⟩ = some pv ∧ W.cell? ⟨w.heap.size, 3, none⟩ = some (.int .i64 c.over) ∧ W.cell? ⟨w.heap.size, 4, none⟩ = some (.int .i64 c.done) ∧ W.cell? ⟨w.heap.size, 5, none⟩ = some (.int .i64 c.need) ∧ W.cell? ⟨w.heap.size, 6, none⟩ = some ov ∧ W.cell? ⟨w.heap.size + 1, 0, none⟩ = some v :=
  ⟨h.box.cell 0, h.box.cell 1, h.box.cell 2, h.box.cell 3, h.box.cell 4, h.box.cell 5, h.box.cell 6, h.tb.cell 0⟩
theorem AcB.new (w : World) (c : Chs) (bv wv pv ov v : Value) : AcB w ((w.alloc (.cells #[bv, wv, pv, .int .i64 c.over, .int .i64 c.done, .int .i64 c.need, ov] 42)).alloc (.cells #[v] 49)) c bv wv pv ov v :=
  ⟨below_two w _ _, (Blk.new w 42 #[bv, wv, pv, .int .i64 c.over, .int .i64 c.done, .int .i64 c.need, ov]).alloc _, blk_two w _ _ _⟩
end
theorem load_tskZ {w : World} {g : Nat} {x0 x1 x2 x3 x4 x5 x6 : Value} (h : Blk w g 42 #[x0, x1, x2, x3, x4, x5, x6]) : (Instr.loadAt 42 (.pointer (some ⟨g, 0, none⟩))).run Tryz.prog w = .ok (.agg #[x0, x1, x2, x3, x4, x5, x6]) w := by
  have c0 := h.cell 0
  have c1 := h.cell 1
  have c2 := h.cell 2
  have c3 := h.cell 3
  have c4 := h.cell 4
  have c5 := h.cell 5
  have c6 := h.cell 6
  simp only [List.getElem?_toArray, List.getElem?_cons_zero, List.getElem?_cons_succ] at c0 c1 c2 c3 c4 c5 c6
  simp [go_sem, c0, c1, c2, c3, c4, c5, c6]
theorem load_ostZ {w : World} {b o : Nat} {p0 p1 p2 p3 p4 : Int} (h0 : w.cell? ⟨b, o, none⟩ = some (.int .i64 p0)) (h1 : w.cell? ⟨b, o + 1, none⟩ = some (.int .i64 p1)) (h2 : w.cell? ⟨b, o + 2, none⟩ = some (.int .i64 p2)) (h3 : w.cell? ⟨b, o + 3, none⟩ = some (.int .i64 p3)) (h4 : w.cell? ⟨b, o + 4, none⟩ = some (.int .u16 p4)) :
    (Instr.loadAt 45 (.pointer (some ⟨b, o, none⟩))).run Tryz.prog w = .ok (.agg #[.int .i64 p0, .int .i64 p1, .int .i64 p2, .int .i64 p3, .int .u16 p4]) w := by
  simp [go_sem, h0, h1, h2, h3, h4]
theorem six_ost {w : World} {b o : Nat} {p0 p1 p2 p3 p4 pv : Int} (h : w.cell? ⟨b, o, none⟩ = some (.int .i64 p0) ∧ w.cell? ⟨b, o + 1, none⟩ = some (.int .i64 p1) ∧ w.cell? ⟨b, o + 2, none⟩ = some (.int .i64 p2) ∧ w.cell? ⟨b, o + 3, none⟩ = some (.int .i64 p3) ∧ w.cell? ⟨b, o + 4, none⟩ = some (.int .u16 p4) ∧ w.cell? ⟨b, o + 5, none⟩ = some (.int .i64 pv)) :
    (Instr.loadAt 45 (.pointer (some ⟨b, o, none⟩))).run Tryz.prog w = .ok (.agg #[.int .i64 p0, .int .i64 p1, .int .i64 p2, .int .i64 p3, .int .u16 p4]) w := load_ostZ h.1 h.2.1 h.2.2.1 h.2.2.2.1 h.2.2.2.2.1
theorem blk_ost {w : World} {g : Nat} {p0 p1 p2 p3 p4 pv : Int} (h : Blk w g 47 #[.int .i64 p0, .int .i64 p1, .int .i64 p2, .int .i64 p3, .int .u16 p4, .int .i64 pv]) : (Instr.loadAt 45 (.pointer (some ⟨g, 0, none⟩))).run Tryz.prog w = .ok (.agg #[.int .i64 p0, .int .i64 p1, .int .i64 p2, .int .i64 p3, .int .u16 p4]) w := load_ostZ (h.cell 0) (h.cell 1) (h.cell 2) (h.cell 3) (h.cell 4)
noncomputable def acOps : Array Oper := ((Tryz.f15.body).bind (findR6 7)).getD #[]
def acNeeds : List (List Nat) := [[2], [7], [29], [28, 30], [31], [32], [6, 33], [33, 34], [33, 35], [3, 36], [6, 36], [36, 38], [36, 37, 39], [36, 40], [36, 41], [7, 36], [36, 43], [36, 42, 44], [36, 45], [33, 36, 46], [33, 47]]
theorem ac_size : acOps.size = 21 := by kernel_rfl
def acTabA (c : Chs) (bv wv pv ov v : Value) (p0 p1 p2 p3 p4 vv z : Int) (g gv k : Nat) : List (Nat × Value) := [(2, .pointer (some ⟨g, 0, none⟩)), (3, .pointer (some ⟨g + 1, 0, none⟩)), (6, .int .i64 (k : Int)), (7, .pointer (some ⟨gv, 0, none⟩)), (28, .agg #[bv, wv, pv, .int .i64 c.over, .int .i64 c.done, .int .i64 c.need, ov]), (29, .pointer (some ⟨gv, 0, none⟩)), (30, .agg #[.int .i64 p0, .int .i64 p1, .int .i64 p2, .int .i64 p3, .int .u16 p4]), (31, .int .i64 z), (32, .bool true), (33, .bool true), (34, undef), (35, undef), (36, undef), (37, undef), (38, undef), (39, undef), (40, undef), (41, undef), (42, undef), (43, undef), (44, undef), (45, undef), (46, undef), (47, undef), (48, .bool true)]
def acMaskA (c : Chs) (bv wv pv ov v : Value) (p0 p1 p2 p3 p4 vv z : Int) (g gv k : Nat) : List (Option Value) := none :: none :: none :: none :: none :: none :: none :: none :: none :: none :: none :: none :: none :: none :: none :: none :: none :: none :: none :: none :: none :: none :: none :: none :: none :: none :: none :: none :: some (.agg #[bv, wv, pv, .int .i64 c.over, .int .i64 c.done, .int .i64 c.need, ov]) :: some (.pointer (some ⟨gv, 0, none⟩)) :: some (.agg #[.int .i64 p0, .int .i64 p1, .int .i64 p2, .int .i64 p3, .int .u16 p4]) :: some (.int .i64 z) :: some (.bool true) :: some (.bool true) :: some (undef) :: some (undef) :: some (undef) :: some (undef) :: some (undef) :: some (undef) :: some (undef) :: some (undef) :: some (undef) :: some (undef) :: some (undef) :: some (undef) :: some (undef) :: some (undef) :: some (.bool true) :: none :: none :: none :: none :: none :: none :: none :: none :: none :: none :: none :: none :: none :: none :: none :: none :: none :: none :: none :: none :: none :: none :: none :: none :: none :: none :: none :: none :: none :: none :: none :: none :: none :: none :: none :: none :: none :: none :: none :: none :: none :: none :: none :: none :: none :: none :: none :: none :: none :: none :: none :: none :: none :: none :: []
set_option maxRecDepth 100000 in
set_option maxHeartbeats 4000000 in
theorem ac_freeA (c : Chs) (bv wv pv ov v : Value) (p0 p1 p2 p3 p4 vv z : Int) (gv k : Nat) (w : World) (kc : ∀ W, Below w.heap.size w W → Calls Tryz.prog 40 #[.agg #[bv, wv, pv, .int .i64 c.over, .int .i64 c.done, .int .i64 c.need, ov], .agg #[.int .i64 p0, .int .i64 p1, .int .i64 p2, .int .i64 p3, .int .u16 p4]] W fun e W' => e = .returned (.int .i64 z) ∧ Below W.heap.size W W') (hz : z ≠ 0) :
    FreeG Tryz.prog acOps (tabV (acTabA c bv wv pv ov v p0 p1 p2 p3 p4 vv z w.heap.size gv k)) (fun W => AcB w W c bv wv pv ov v ∧ Blk W gv 47 #[.int .i64 p0, .int .i64 p1, .int .i64 p2, .int .i64 p3, .int .u16 p4, .int .i64 vv]) (fun i => acNeeds.getD i []) [2, 3, 6, 7] 103 := by
  refine ⟨backG_of (by kernel_rfl), dstG_of (by kernel_rfl), needG_of (by kernel_rfl), fun d w1 w2 v h _ => h, fun W W' h hb => ⟨h.1.below hb, h.2.below hb h.2.lt⟩, ?_⟩
  intro i o ho a W hG hn
  have hlt : i < 21 := by rw [← ac_size]; exact (Array.getElem?_eq_some_iff.1 ho).1
  have hcase : i = 0 ∨ i = 1 ∨ i = 2 ∨ i = 3 ∨ i = 4 ∨ i = 5 ∨ i = 6 ∨ i = 7 ∨ i = 8 ∨ i = 9 ∨ i = 10 ∨ i = 11 ∨ i = 12 ∨ i = 13 ∨ i = 14 ∨ i = 15 ∨ i = 16 ∨ i = 17 ∨ i = 18 ∨ i = 19 ∨ i = 20 := by omega
  rcases hcase with rfl | rfl | rfl | rfl | rfl | rfl | rfl | rfl | rfl | rfl | rfl | rfl | rfl | rfl | rfl | rfl | rfl | rfl | rfl | rfl | rfl
  · have hop := opG_of (x := .load 42 (.tmp 2)) (d := some 28) (by kernel_rfl) ho
    obtain ⟨h1, h2⟩ := hop
    refine .inl ⟨free_not (guardG_of (by kernel_rfl) ho), ?_⟩
    exact meets_load h1 (fg_val 2 (.pointer (some ⟨w.heap.size, 0, none⟩)) hn (by kernel_rfl) rfl) (load_tskZ hG.1.box) (fg_put h2 rfl)
  · have hop := opG_of (x := .fieldAddr 47 (.tmp 7) 0) (d := some 29) (by kernel_rfl) ho
    obtain ⟨h1, h2⟩ := hop
    refine .inl ⟨free_not (guardG_of (by kernel_rfl) ho), ?_⟩
    exact meets_field h1 (fg_val 7 (.pointer (some ⟨gv, 0, none⟩)) hn (by kernel_rfl) rfl) (by kernel_rfl : (Instr.fieldAt 47 (.pointer (some ⟨gv, 0, none⟩)) 0).run Tryz.prog W = .ok (.pointer (some ⟨gv, 0, none⟩)) W) (fg_put h2 rfl)
  · have hop := opG_of (x := .load 45 (.tmp 29)) (d := some 30) (by kernel_rfl) ho
    obtain ⟨h1, h2⟩ := hop
    refine .inl ⟨free_not (guardG_of (by kernel_rfl) ho), ?_⟩
    exact meets_load h1 (fg_val 29 (.pointer (some ⟨gv, 0, none⟩)) hn (by kernel_rfl) rfl) (blk_ost hG.2) (fg_put h2 rfl)
  · have hop := opG_of (x := .call { callee := .value (.func 40), args := #[.tmp 28, .tmp 30], argTypes := #[42, 45] }) (d := some 31) (by kernel_rfl) ho
    obtain ⟨h1, h2⟩ := hop
    refine .inl ⟨free_not (guardG_of (by kernel_rfl) ho), ?_⟩
    refine meets_call (args := #[.agg #[bv, wv, pv, .int .i64 c.over, .int .i64 c.done, .int .i64 c.need, ov], .agg #[.int .i64 p0, .int .i64 p1, .int .i64 p2, .int .i64 p3, .int .u16 p4]]) h1 rfl rfl (by have e28 := (fg_val 28 (.agg #[bv, wv, pv, .int .i64 c.over, .int .i64 c.done, .int .i64 c.need, ov]) hn (by kernel_rfl) rfl); have e30 := (fg_val 30 (.agg #[.int .i64 p0, .int .i64 p1, .int .i64 p2, .int .i64 p3, .int .u16 p4]) hn (by kernel_rfl) rfl); simp [e28, e30]) Tryz.func40 (by kernel_rfl) (by kernel_rfl) fun d hd => ?_
    refine (kc W hG.1.bel).mono ?_
    rintro e W' ⟨rfl, hb⟩
    exact ⟨_, rfl, hb, (fg_put h2 rfl d hd)⟩
  · have hop := opG_of (x := .binOp .neq 36 (.tmp 31) (.const (.int .i64 0)) 36) (d := some 32) (by kernel_rfl) ho
    obtain ⟨h1, h2⟩ := hop
    refine .inl ⟨free_not (guardG_of (by kernel_rfl) ho), ?_⟩
    exact meets_value (v := .bool true) (by have e31 := (fg_val 31 (.int .i64 z) hn (by kernel_rfl) rfl); unfold execOp; simp only [h1, e31]; simp [go_sem, BigFrame.eval_const, hz]) (fg_put h2 rfl)
  · have hop := opG_of (x := .move (.tmp 32)) (d := some 33) (by kernel_rfl) ho
    obtain ⟨h1, h2⟩ := hop
    refine .inl ⟨free_not (guardG_of (by kernel_rfl) ho), ?_⟩
    exact meets_move (.inl h1) fun d hd => by rw [h2] at hd; obtain rfl := Option.some.inj hd; exact (fg_val 32 (.bool true) hn (by kernel_rfl) rfl)
  · have hop := opG_of (x := .move (.tmp 6)) (d := some 34) (by kernel_rfl) ho
    obtain ⟨h1, h2⟩ := hop
    exact .inr ⟨(guard_at (j := 5) (d := 33) (b := false) (b' := true) (by kernel_rfl : (acOps[6]?).map (·.guard) = some (some (5, false))) (by kernel_rfl) ho (fg_tmp 33 (.bool true) hn (by kernel_rfl) rfl)), fg_put h2 rfl⟩
  · have hop := opG_of (x := .binOp .gtr 3 (.tmp 34) (.const (.int .i64 0)) 3) (d := some 35) (by kernel_rfl) ho
    obtain ⟨h1, h2⟩ := hop
    exact .inr ⟨(guard_at (j := 5) (d := 33) (b := false) (b' := true) (by kernel_rfl : (acOps[7]?).map (·.guard) = some (some (5, false))) (by kernel_rfl) ho (fg_tmp 33 (.bool true) hn (by kernel_rfl) rfl)), fg_put h2 rfl⟩
  · have hop := opG_of (x := .move (.tmp 35)) (d := some 36) (by kernel_rfl) ho
    obtain ⟨h1, h2⟩ := hop
    exact .inr ⟨(guard_at (j := 5) (d := 33) (b := false) (b' := true) (by kernel_rfl : (acOps[8]?).map (·.guard) = some (some (5, false))) (by kernel_rfl) ho (fg_tmp 33 (.bool true) hn (by kernel_rfl) rfl)), fg_put h2 rfl⟩
  · have hop := opG_of (x := .load 49 (.tmp 3)) (d := some 37) (by kernel_rfl) ho
    obtain ⟨h1, h2⟩ := hop
    refine .inr ⟨guard_un (j := 8) (d := 36) (by kernel_rfl : (acOps[9]?).map (·.guard) = some (some (8, true))) (by kernel_rfl) ho (fg_tmp 36 undef hn (by kernel_rfl) rfl), fg_put h2 rfl⟩
  · have hop := opG_of (x := .move (.tmp 6)) (d := some 38) (by kernel_rfl) ho
    obtain ⟨h1, h2⟩ := hop
    refine .inr ⟨guard_un (j := 8) (d := 36) (by kernel_rfl : (acOps[10]?).map (·.guard) = some (some (8, true))) (by kernel_rfl) ho (fg_tmp 36 undef hn (by kernel_rfl) rfl), fg_put h2 rfl⟩
  · have hop := opG_of (x := .binOp .sub 3 (.tmp 38) (.const (.int .i64 1)) 3) (d := some 39) (by kernel_rfl) ho
    obtain ⟨h1, h2⟩ := hop
    refine .inr ⟨guard_un (j := 8) (d := 36) (by kernel_rfl : (acOps[11]?).map (·.guard) = some (some (8, true))) (by kernel_rfl) ho (fg_tmp 36 undef hn (by kernel_rfl) rfl), fg_put h2 rfl⟩
  · have hop := opG_of (x := .indexAddr 49 (.tmp 37) (.tmp 39)) (d := some 40) (by kernel_rfl) ho
    obtain ⟨h1, h2⟩ := hop
    refine .inr ⟨guard_un (j := 8) (d := 36) (by kernel_rfl : (acOps[12]?).map (·.guard) = some (some (8, true))) (by kernel_rfl) ho (fg_tmp 36 undef hn (by kernel_rfl) rfl), fg_put h2 rfl⟩
  · have hop := opG_of (x := .fieldAddr 47 (.tmp 40) 0) (d := some 41) (by kernel_rfl) ho
    obtain ⟨h1, h2⟩ := hop
    refine .inr ⟨guard_un (j := 8) (d := 36) (by kernel_rfl : (acOps[13]?).map (·.guard) = some (some (8, true))) (by kernel_rfl) ho (fg_tmp 36 undef hn (by kernel_rfl) rfl), fg_put h2 rfl⟩
  · have hop := opG_of (x := .load 45 (.tmp 41)) (d := some 42) (by kernel_rfl) ho
    obtain ⟨h1, h2⟩ := hop
    refine .inr ⟨guard_un (j := 8) (d := 36) (by kernel_rfl : (acOps[14]?).map (·.guard) = some (some (8, true))) (by kernel_rfl) ho (fg_tmp 36 undef hn (by kernel_rfl) rfl), fg_put h2 rfl⟩
  · have hop := opG_of (x := .fieldAddr 47 (.tmp 7) 0) (d := some 43) (by kernel_rfl) ho
    obtain ⟨h1, h2⟩ := hop
    refine .inr ⟨guard_un (j := 8) (d := 36) (by kernel_rfl : (acOps[15]?).map (·.guard) = some (some (8, true))) (by kernel_rfl) ho (fg_tmp 36 undef hn (by kernel_rfl) rfl), fg_put h2 rfl⟩
  · have hop := opG_of (x := .load 45 (.tmp 43)) (d := some 44) (by kernel_rfl) ho
    obtain ⟨h1, h2⟩ := hop
    refine .inr ⟨guard_un (j := 8) (d := 36) (by kernel_rfl : (acOps[16]?).map (·.guard) = some (some (8, true))) (by kernel_rfl) ho (fg_tmp 36 undef hn (by kernel_rfl) rfl), fg_put h2 rfl⟩
  · have hop := opG_of (x := .call { callee := .value (.func 41), args := #[.tmp 42, .tmp 44], argTypes := #[45, 45] }) (d := some 45) (by kernel_rfl) ho
    obtain ⟨h1, h2⟩ := hop
    refine .inr ⟨guard_un (j := 8) (d := 36) (by kernel_rfl : (acOps[17]?).map (·.guard) = some (some (8, true))) (by kernel_rfl) ho (fg_tmp 36 undef hn (by kernel_rfl) rfl), fg_put h2 rfl⟩
  · have hop := opG_of (x := .binOp .geq 3 (.tmp 45) (.const (.int .i64 0)) 3) (d := some 46) (by kernel_rfl) ho
    obtain ⟨h1, h2⟩ := hop
    refine .inr ⟨guard_un (j := 8) (d := 36) (by kernel_rfl : (acOps[18]?).map (·.guard) = some (some (8, true))) (by kernel_rfl) ho (fg_tmp 36 undef hn (by kernel_rfl) rfl), fg_put h2 rfl⟩
  · have hop := opG_of (x := .pick (.tmp 36) (.tmp 46) (.const (.bool false))) (d := some 47) (by kernel_rfl) ho
    obtain ⟨h1, h2⟩ := hop
    exact .inr ⟨(guard_at (j := 5) (d := 33) (b := false) (b' := true) (by kernel_rfl : (acOps[19]?).map (·.guard) = some (some (5, false))) (by kernel_rfl) ho (fg_tmp 33 (.bool true) hn (by kernel_rfl) rfl)), fg_put h2 rfl⟩
  · have hop := opG_of (x := .pick (.tmp 33) (.const (.bool true)) (.tmp 47)) (d := some 48) (by kernel_rfl) ho
    obtain ⟨h1, h2⟩ := hop
    refine .inl ⟨free_not (guardG_of (by kernel_rfl) ho), ?_⟩
    exact meets_value (v := .bool true) (by have e33 := (fg_val 33 (.bool true) hn (by kernel_rfl) rfl); have e47 := (fg_val 47 (undef) hn (by kernel_rfl) rfl); unfold execOp; simp only [h1, e33, e47]; simp [go_sem, BigFrame.eval_const]) (fg_put h2 rfl)
def acTabB (c : Chs) (bv wv pv ov v : Value) (p0 p1 p2 p3 p4 vv z : Int) (g gv k : Nat) : List (Nat × Value) := [(2, .pointer (some ⟨g, 0, none⟩)), (3, .pointer (some ⟨g + 1, 0, none⟩)), (6, .int .i64 (k : Int)), (7, .pointer (some ⟨gv, 0, none⟩)), (28, .agg #[bv, wv, pv, .int .i64 c.over, .int .i64 c.done, .int .i64 c.need, ov]), (29, .pointer (some ⟨gv, 0, none⟩)), (30, .agg #[.int .i64 p0, .int .i64 p1, .int .i64 p2, .int .i64 p3, .int .u16 p4]), (31, .int .i64 z), (32, .bool false), (33, .bool false), (34, .int .i64 (k : Int)), (35, .bool false), (36, .bool false), (37, undef), (38, undef), (39, undef), (40, undef), (41, undef), (42, undef), (43, undef), (44, undef), (45, undef), (46, undef), (47, .bool false), (48, .bool false)]
def acMaskB (c : Chs) (bv wv pv ov v : Value) (p0 p1 p2 p3 p4 vv z : Int) (g gv k : Nat) : List (Option Value) := none :: none :: none :: none :: none :: none :: none :: none :: none :: none :: none :: none :: none :: none :: none :: none :: none :: none :: none :: none :: none :: none :: none :: none :: none :: none :: none :: none :: some (.agg #[bv, wv, pv, .int .i64 c.over, .int .i64 c.done, .int .i64 c.need, ov]) :: some (.pointer (some ⟨gv, 0, none⟩)) :: some (.agg #[.int .i64 p0, .int .i64 p1, .int .i64 p2, .int .i64 p3, .int .u16 p4]) :: some (.int .i64 z) :: some (.bool false) :: some (.bool false) :: some (.int .i64 (k : Int)) :: some (.bool false) :: some (.bool false) :: some (undef) :: some (undef) :: some (undef) :: some (undef) :: some (undef) :: some (undef) :: some (undef) :: some (undef) :: some (undef) :: some (undef) :: some (.bool false) :: some (.bool false) :: none :: none :: none :: none :: none :: none :: none :: none :: none :: none :: none :: none :: none :: none :: none :: none :: none :: none :: none :: none :: none :: none :: none :: none :: none :: none :: none :: none :: none :: none :: none :: none :: none :: none :: none :: none :: none :: none :: none :: none :: none :: none :: none :: none :: none :: none :: none :: none :: none :: none :: none :: none :: none :: none :: []
set_option maxRecDepth 100000 in
set_option maxHeartbeats 4000000 in
theorem ac_freeB (c : Chs) (bv wv pv ov v : Value) (p0 p1 p2 p3 p4 vv z : Int) (gv k : Nat) (w : World) (kc : ∀ W, Below w.heap.size w W → Calls Tryz.prog 40 #[.agg #[bv, wv, pv, .int .i64 c.over, .int .i64 c.done, .int .i64 c.need, ov], .agg #[.int .i64 p0, .int .i64 p1, .int .i64 p2, .int .i64 p3, .int .u16 p4]] W fun e W' => e = .returned (.int .i64 z) ∧ Below W.heap.size W W') (hz : z = 0) (hk : k = 0) :
    FreeG Tryz.prog acOps (tabV (acTabB c bv wv pv ov v p0 p1 p2 p3 p4 vv z w.heap.size gv k)) (fun W => AcB w W c bv wv pv ov v ∧ Blk W gv 47 #[.int .i64 p0, .int .i64 p1, .int .i64 p2, .int .i64 p3, .int .u16 p4, .int .i64 vv]) (fun i => acNeeds.getD i []) [2, 3, 6, 7] 103 := by
  refine ⟨backG_of (by kernel_rfl), dstG_of (by kernel_rfl), needG_of (by kernel_rfl), fun d w1 w2 v h _ => h, fun W W' h hb => ⟨h.1.below hb, h.2.below hb h.2.lt⟩, ?_⟩
  intro i o ho a W hG hn
  have hlt : i < 21 := by rw [← ac_size]; exact (Array.getElem?_eq_some_iff.1 ho).1
  have hcase : i = 0 ∨ i = 1 ∨ i = 2 ∨ i = 3 ∨ i = 4 ∨ i = 5 ∨ i = 6 ∨ i = 7 ∨ i = 8 ∨ i = 9 ∨ i = 10 ∨ i = 11 ∨ i = 12 ∨ i = 13 ∨ i = 14 ∨ i = 15 ∨ i = 16 ∨ i = 17 ∨ i = 18 ∨ i = 19 ∨ i = 20 := by omega
  rcases hcase with rfl | rfl | rfl | rfl | rfl | rfl | rfl | rfl | rfl | rfl | rfl | rfl | rfl | rfl | rfl | rfl | rfl | rfl | rfl | rfl | rfl
  · have hop := opG_of (x := .load 42 (.tmp 2)) (d := some 28) (by kernel_rfl) ho
    obtain ⟨h1, h2⟩ := hop
    refine .inl ⟨free_not (guardG_of (by kernel_rfl) ho), ?_⟩
    exact meets_load h1 (fg_val 2 (.pointer (some ⟨w.heap.size, 0, none⟩)) hn (by kernel_rfl) rfl) (load_tskZ hG.1.box) (fg_put h2 rfl)
  · have hop := opG_of (x := .fieldAddr 47 (.tmp 7) 0) (d := some 29) (by kernel_rfl) ho
    obtain ⟨h1, h2⟩ := hop
    refine .inl ⟨free_not (guardG_of (by kernel_rfl) ho), ?_⟩
    exact meets_field h1 (fg_val 7 (.pointer (some ⟨gv, 0, none⟩)) hn (by kernel_rfl) rfl) (by kernel_rfl : (Instr.fieldAt 47 (.pointer (some ⟨gv, 0, none⟩)) 0).run Tryz.prog W = .ok (.pointer (some ⟨gv, 0, none⟩)) W) (fg_put h2 rfl)
  · have hop := opG_of (x := .load 45 (.tmp 29)) (d := some 30) (by kernel_rfl) ho
    obtain ⟨h1, h2⟩ := hop
    refine .inl ⟨free_not (guardG_of (by kernel_rfl) ho), ?_⟩
    exact meets_load h1 (fg_val 29 (.pointer (some ⟨gv, 0, none⟩)) hn (by kernel_rfl) rfl) (blk_ost hG.2) (fg_put h2 rfl)
  · have hop := opG_of (x := .call { callee := .value (.func 40), args := #[.tmp 28, .tmp 30], argTypes := #[42, 45] }) (d := some 31) (by kernel_rfl) ho
    obtain ⟨h1, h2⟩ := hop
    refine .inl ⟨free_not (guardG_of (by kernel_rfl) ho), ?_⟩
    refine meets_call (args := #[.agg #[bv, wv, pv, .int .i64 c.over, .int .i64 c.done, .int .i64 c.need, ov], .agg #[.int .i64 p0, .int .i64 p1, .int .i64 p2, .int .i64 p3, .int .u16 p4]]) h1 rfl rfl (by have e28 := (fg_val 28 (.agg #[bv, wv, pv, .int .i64 c.over, .int .i64 c.done, .int .i64 c.need, ov]) hn (by kernel_rfl) rfl); have e30 := (fg_val 30 (.agg #[.int .i64 p0, .int .i64 p1, .int .i64 p2, .int .i64 p3, .int .u16 p4]) hn (by kernel_rfl) rfl); simp [e28, e30]) Tryz.func40 (by kernel_rfl) (by kernel_rfl) fun d hd => ?_
    refine (kc W hG.1.bel).mono ?_
    rintro e W' ⟨rfl, hb⟩
    exact ⟨_, rfl, hb, (fg_put h2 rfl d hd)⟩
  · have hop := opG_of (x := .binOp .neq 36 (.tmp 31) (.const (.int .i64 0)) 36) (d := some 32) (by kernel_rfl) ho
    obtain ⟨h1, h2⟩ := hop
    refine .inl ⟨free_not (guardG_of (by kernel_rfl) ho), ?_⟩
    exact meets_value (v := .bool false) (by have e31 := (fg_val 31 (.int .i64 z) hn (by kernel_rfl) rfl); unfold execOp; simp only [h1, e31]; simp [go_sem, BigFrame.eval_const, hz]) (fg_put h2 rfl)
  · have hop := opG_of (x := .move (.tmp 32)) (d := some 33) (by kernel_rfl) ho
    obtain ⟨h1, h2⟩ := hop
    refine .inl ⟨free_not (guardG_of (by kernel_rfl) ho), ?_⟩
    exact meets_move (.inl h1) fun d hd => by rw [h2] at hd; obtain rfl := Option.some.inj hd; exact (fg_val 32 (.bool false) hn (by kernel_rfl) rfl)
  · have hop := opG_of (x := .move (.tmp 6)) (d := some 34) (by kernel_rfl) ho
    obtain ⟨h1, h2⟩ := hop
    refine .inl ⟨(guard_at (j := 5) (d := 33) (b := false) (b' := false) (by kernel_rfl : (acOps[6]?).map (·.guard) = some (some (5, false))) (by kernel_rfl) ho (fg_tmp 33 (.bool false) hn (by kernel_rfl) rfl)), ?_⟩
    exact meets_move (.inl h1) fun d hd => by rw [h2] at hd; obtain rfl := Option.some.inj hd; exact (fg_val 6 (.int .i64 (k : Int)) hn (by kernel_rfl) rfl)
  · have hop := opG_of (x := .binOp .gtr 3 (.tmp 34) (.const (.int .i64 0)) 3) (d := some 35) (by kernel_rfl) ho
    obtain ⟨h1, h2⟩ := hop
    refine .inl ⟨(guard_at (j := 5) (d := 33) (b := false) (b' := false) (by kernel_rfl : (acOps[7]?).map (·.guard) = some (some (5, false))) (by kernel_rfl) ho (fg_tmp 33 (.bool false) hn (by kernel_rfl) rfl)), ?_⟩
    exact meets_value (v := .bool false) (by have e34 := (fg_val 34 (.int .i64 (k : Int)) hn (by kernel_rfl) rfl); unfold execOp; simp only [h1, e34]; simp [go_sem, BigFrame.eval_const, hk]) (fg_put h2 rfl)
  · have hop := opG_of (x := .move (.tmp 35)) (d := some 36) (by kernel_rfl) ho
    obtain ⟨h1, h2⟩ := hop
    refine .inl ⟨(guard_at (j := 5) (d := 33) (b := false) (b' := false) (by kernel_rfl : (acOps[8]?).map (·.guard) = some (some (5, false))) (by kernel_rfl) ho (fg_tmp 33 (.bool false) hn (by kernel_rfl) rfl)), ?_⟩
    exact meets_move (.inl h1) fun d hd => by rw [h2] at hd; obtain rfl := Option.some.inj hd; exact (fg_val 35 (.bool false) hn (by kernel_rfl) rfl)
  · have hop := opG_of (x := .load 49 (.tmp 3)) (d := some 37) (by kernel_rfl) ho
    obtain ⟨h1, h2⟩ := hop
    exact .inr ⟨(guard_at (j := 8) (d := 36) (b := true) (b' := false) (by kernel_rfl : (acOps[9]?).map (·.guard) = some (some (8, true))) (by kernel_rfl) ho (fg_tmp 36 (.bool false) hn (by kernel_rfl) rfl)), fg_put h2 rfl⟩
  · have hop := opG_of (x := .move (.tmp 6)) (d := some 38) (by kernel_rfl) ho
    obtain ⟨h1, h2⟩ := hop
    exact .inr ⟨(guard_at (j := 8) (d := 36) (b := true) (b' := false) (by kernel_rfl : (acOps[10]?).map (·.guard) = some (some (8, true))) (by kernel_rfl) ho (fg_tmp 36 (.bool false) hn (by kernel_rfl) rfl)), fg_put h2 rfl⟩
  · have hop := opG_of (x := .binOp .sub 3 (.tmp 38) (.const (.int .i64 1)) 3) (d := some 39) (by kernel_rfl) ho
    obtain ⟨h1, h2⟩ := hop
    exact .inr ⟨(guard_at (j := 8) (d := 36) (b := true) (b' := false) (by kernel_rfl : (acOps[11]?).map (·.guard) = some (some (8, true))) (by kernel_rfl) ho (fg_tmp 36 (.bool false) hn (by kernel_rfl) rfl)), fg_put h2 rfl⟩
  · have hop := opG_of (x := .indexAddr 49 (.tmp 37) (.tmp 39)) (d := some 40) (by kernel_rfl) ho
    obtain ⟨h1, h2⟩ := hop
    exact .inr ⟨(guard_at (j := 8) (d := 36) (b := true) (b' := false) (by kernel_rfl : (acOps[12]?).map (·.guard) = some (some (8, true))) (by kernel_rfl) ho (fg_tmp 36 (.bool false) hn (by kernel_rfl) rfl)), fg_put h2 rfl⟩
  · have hop := opG_of (x := .fieldAddr 47 (.tmp 40) 0) (d := some 41) (by kernel_rfl) ho
    obtain ⟨h1, h2⟩ := hop
    exact .inr ⟨(guard_at (j := 8) (d := 36) (b := true) (b' := false) (by kernel_rfl : (acOps[13]?).map (·.guard) = some (some (8, true))) (by kernel_rfl) ho (fg_tmp 36 (.bool false) hn (by kernel_rfl) rfl)), fg_put h2 rfl⟩
  · have hop := opG_of (x := .load 45 (.tmp 41)) (d := some 42) (by kernel_rfl) ho
    obtain ⟨h1, h2⟩ := hop
    exact .inr ⟨(guard_at (j := 8) (d := 36) (b := true) (b' := false) (by kernel_rfl : (acOps[14]?).map (·.guard) = some (some (8, true))) (by kernel_rfl) ho (fg_tmp 36 (.bool false) hn (by kernel_rfl) rfl)), fg_put h2 rfl⟩
  · have hop := opG_of (x := .fieldAddr 47 (.tmp 7) 0) (d := some 43) (by kernel_rfl) ho
    obtain ⟨h1, h2⟩ := hop
    exact .inr ⟨(guard_at (j := 8) (d := 36) (b := true) (b' := false) (by kernel_rfl : (acOps[15]?).map (·.guard) = some (some (8, true))) (by kernel_rfl) ho (fg_tmp 36 (.bool false) hn (by kernel_rfl) rfl)), fg_put h2 rfl⟩
  · have hop := opG_of (x := .load 45 (.tmp 43)) (d := some 44) (by kernel_rfl) ho
    obtain ⟨h1, h2⟩ := hop
    exact .inr ⟨(guard_at (j := 8) (d := 36) (b := true) (b' := false) (by kernel_rfl : (acOps[16]?).map (·.guard) = some (some (8, true))) (by kernel_rfl) ho (fg_tmp 36 (.bool false) hn (by kernel_rfl) rfl)), fg_put h2 rfl⟩
  · have hop := opG_of (x := .call { callee := .value (.func 41), args := #[.tmp 42, .tmp 44], argTypes := #[45, 45] }) (d := some 45) (by kernel_rfl) ho
    obtain ⟨h1, h2⟩ := hop
    exact .inr ⟨(guard_at (j := 8) (d := 36) (b := true) (b' := false) (by kernel_rfl : (acOps[17]?).map (·.guard) = some (some (8, true))) (by kernel_rfl) ho (fg_tmp 36 (.bool false) hn (by kernel_rfl) rfl)), fg_put h2 rfl⟩
  · have hop := opG_of (x := .binOp .geq 3 (.tmp 45) (.const (.int .i64 0)) 3) (d := some 46) (by kernel_rfl) ho
    obtain ⟨h1, h2⟩ := hop
    exact .inr ⟨(guard_at (j := 8) (d := 36) (b := true) (b' := false) (by kernel_rfl : (acOps[18]?).map (·.guard) = some (some (8, true))) (by kernel_rfl) ho (fg_tmp 36 (.bool false) hn (by kernel_rfl) rfl)), fg_put h2 rfl⟩
  · have hop := opG_of (x := .pick (.tmp 36) (.tmp 46) (.const (.bool false))) (d := some 47) (by kernel_rfl) ho
    obtain ⟨h1, h2⟩ := hop
    refine .inl ⟨(guard_at (j := 5) (d := 33) (b := false) (b' := false) (by kernel_rfl : (acOps[19]?).map (·.guard) = some (some (5, false))) (by kernel_rfl) ho (fg_tmp 33 (.bool false) hn (by kernel_rfl) rfl)), ?_⟩
    exact meets_value (v := .bool false) (by have e36 := (fg_val 36 (.bool false) hn (by kernel_rfl) rfl); have e46 := (fg_val 46 (undef) hn (by kernel_rfl) rfl); unfold execOp; simp only [h1, e36, e46]; simp [go_sem, BigFrame.eval_const]) (fg_put h2 rfl)
  · have hop := opG_of (x := .pick (.tmp 33) (.const (.bool true)) (.tmp 47)) (d := some 48) (by kernel_rfl) ho
    obtain ⟨h1, h2⟩ := hop
    refine .inl ⟨free_not (guardG_of (by kernel_rfl) ho), ?_⟩
    exact meets_value (v := .bool false) (by have e33 := (fg_val 33 (.bool false) hn (by kernel_rfl) rfl); have e47 := (fg_val 47 (.bool false) hn (by kernel_rfl) rfl); unfold execOp; simp only [h1, e33, e47]; simp [go_sem, BigFrame.eval_const]) (fg_put h2 rfl)
def acTabC (c : Chs) (bv wv pv ov : Value) (p0 p1 p2 p3 p4 vv z : Int) (g gv k : Nat) (r0 r1 r2 r3 r4 rv q : Int) (b0 o0 n0 c0 : Nat) : List (Nat × Value) := [(2, .pointer (some ⟨g, 0, none⟩)), (3, .pointer (some ⟨g + 1, 0, none⟩)), (6, .int .i64 (k : Int)), (7, .pointer (some ⟨gv, 0, none⟩)), (28, .agg #[bv, wv, pv, .int .i64 c.over, .int .i64 c.done, .int .i64 c.need, ov]), (29, .pointer (some ⟨gv, 0, none⟩)), (30, .agg #[.int .i64 p0, .int .i64 p1, .int .i64 p2, .int .i64 p3, .int .u16 p4]), (31, .int .i64 z), (32, .bool false), (33, .bool false), (34, .int .i64 (k : Int)), (35, .bool true), (36, .bool true), (37, .slice (some ⟨b0, o0, none⟩) n0 c0), (38, .int .i64 (k : Int)), (39, .int .i64 ((k - 1 : Nat) : Int)), (40, .pointer (some ⟨b0, o0 + (k - 1) * 6, none⟩)), (41, .pointer (some ⟨b0, o0 + (k - 1) * 6, none⟩)), (42, .agg #[.int .i64 r0, .int .i64 r1, .int .i64 r2, .int .i64 r3, .int .u16 r4]), (43, .pointer (some ⟨gv, 0, none⟩)), (44, .agg #[.int .i64 p0, .int .i64 p1, .int .i64 p2, .int .i64 p3, .int .u16 p4]), (45, .int .i64 q), (46, .bool true), (47, .bool true), (48, .bool true)]
def acMaskC (c : Chs) (bv wv pv ov : Value) (p0 p1 p2 p3 p4 vv z : Int) (g gv k : Nat) (r0 r1 r2 r3 r4 rv q : Int) (b0 o0 n0 c0 : Nat) : List (Option Value) := none :: none :: none :: none :: none :: none :: none :: none :: none :: none :: none :: none :: none :: none :: none :: none :: none :: none :: none :: none :: none :: none :: none :: none :: none :: none :: none :: none :: some (.agg #[bv, wv, pv, .int .i64 c.over, .int .i64 c.done, .int .i64 c.need, ov]) :: some (.pointer (some ⟨gv, 0, none⟩)) :: some (.agg #[.int .i64 p0, .int .i64 p1, .int .i64 p2, .int .i64 p3, .int .u16 p4]) :: some (.int .i64 z) :: some (.bool false) :: some (.bool false) :: some (.int .i64 (k : Int)) :: some (.bool true) :: some (.bool true) :: some (.slice (some ⟨b0, o0, none⟩) n0 c0) :: some (.int .i64 (k : Int)) :: some (.int .i64 ((k - 1 : Nat) : Int)) :: some (.pointer (some ⟨b0, o0 + (k - 1) * 6, none⟩)) :: some (.pointer (some ⟨b0, o0 + (k - 1) * 6, none⟩)) :: some (.agg #[.int .i64 r0, .int .i64 r1, .int .i64 r2, .int .i64 r3, .int .u16 r4]) :: some (.pointer (some ⟨gv, 0, none⟩)) :: some (.agg #[.int .i64 p0, .int .i64 p1, .int .i64 p2, .int .i64 p3, .int .u16 p4]) :: some (.int .i64 q) :: some (.bool true) :: some (.bool true) :: some (.bool true) :: none :: none :: none :: none :: none :: none :: none :: none :: none :: none :: none :: none :: none :: none :: none :: none :: none :: none :: none :: none :: none :: none :: none :: none :: none :: none :: none :: none :: none :: none :: none :: none :: none :: none :: none :: none :: none :: none :: none :: none :: none :: none :: none :: none :: none :: none :: none :: none :: none :: none :: none :: none :: none :: none :: []
set_option maxRecDepth 100000 in
set_option maxHeartbeats 4000000 in
theorem ac_freeC (c : Chs) (bv wv pv ov : Value) (p0 p1 p2 p3 p4 vv z : Int) (gv k : Nat) (r0 r1 r2 r3 r4 rv q : Int) (b0 o0 n0 c0 : Nat) (w : World) (kc : ∀ W, Below w.heap.size w W → Calls Tryz.prog 40 #[.agg #[bv, wv, pv, .int .i64 c.over, .int .i64 c.done, .int .i64 c.need, ov], .agg #[.int .i64 p0, .int .i64 p1, .int .i64 p2, .int .i64 p3, .int .u16 p4]] W fun e W' => e = .returned (.int .i64 z) ∧ Below W.heap.size W W') (kq : ∀ W, Calls Tryz.prog 41 #[.agg #[.int .i64 r0, .int .i64 r1, .int .i64 r2, .int .i64 r3, .int .u16 r4], .agg #[.int .i64 p0, .int .i64 p1, .int .i64 p2, .int .i64 p3, .int .u16 p4]] W fun e W' => e = .returned (.int .i64 q) ∧ Below W.heap.size W W') (hz : z = 0) (hk : 0 < k) (hkn : k ≤ n0) (hn0 : n0 ≤ 1000000000000) (hb0 : b0 < w.heap.size) (hprev : w.cell? ⟨b0, o0 + (k - 1) * 6, none⟩ = some (.int .i64 r0) ∧ w.cell? ⟨b0, o0 + (k - 1) * 6 + 1, none⟩ = some (.int .i64 r1) ∧ w.cell? ⟨b0, o0 + (k - 1) * 6 + 2, none⟩ = some (.int .i64 r2) ∧ w.cell? ⟨b0, o0 + (k - 1) * 6 + 3, none⟩ = some (.int .i64 r3) ∧ w.cell? ⟨b0, o0 + (k - 1) * 6 + 4, none⟩ = some (.int .u16 r4) ∧ w.cell? ⟨b0, o0 + (k - 1) * 6 + 5, none⟩ = some (.int .i64 rv)) (hq : 0 ≤ q) :
    FreeG Tryz.prog acOps (tabV (acTabC c bv wv pv ov p0 p1 p2 p3 p4 vv z w.heap.size gv k r0 r1 r2 r3 r4 rv q b0 o0 n0 c0)) (fun W => AcB w W c bv wv pv ov (.slice (some ⟨b0, o0, none⟩) n0 c0) ∧ Blk W gv 47 #[.int .i64 p0, .int .i64 p1, .int .i64 p2, .int .i64 p3, .int .u16 p4, .int .i64 vv]) (fun i => acNeeds.getD i []) [2, 3, 6, 7] 103 := by
  refine ⟨backG_of (by kernel_rfl), dstG_of (by kernel_rfl), needG_of (by kernel_rfl), fun d w1 w2 v h _ => h, fun W W' h hb => ⟨h.1.below hb, h.2.below hb h.2.lt⟩, ?_⟩
  intro i o ho a W hG hn
  have hlt : i < 21 := by rw [← ac_size]; exact (Array.getElem?_eq_some_iff.1 ho).1
  have hs1 : IntKind.i64.wrap ((k : Int) - 1) = ((k - 1 : Nat) : Int) := by rw [IntWalk.i64_in _ (by omega)]; omega
  have hs2 : k - 1 < n0 := by omega
  have hs3 : (0 : Int) < (k : Int) := by omega
  have hcase : i = 0 ∨ i = 1 ∨ i = 2 ∨ i = 3 ∨ i = 4 ∨ i = 5 ∨ i = 6 ∨ i = 7 ∨ i = 8 ∨ i = 9 ∨ i = 10 ∨ i = 11 ∨ i = 12 ∨ i = 13 ∨ i = 14 ∨ i = 15 ∨ i = 16 ∨ i = 17 ∨ i = 18 ∨ i = 19 ∨ i = 20 := by omega
  rcases hcase with rfl | rfl | rfl | rfl | rfl | rfl | rfl | rfl | rfl | rfl | rfl | rfl | rfl | rfl | rfl | rfl | rfl | rfl | rfl | rfl | rfl
  · have hop := opG_of (x := .load 42 (.tmp 2)) (d := some 28) (by kernel_rfl) ho
    obtain ⟨h1, h2⟩ := hop
    refine .inl ⟨free_not (guardG_of (by kernel_rfl) ho), ?_⟩
    exact meets_load h1 (fg_val 2 (.pointer (some ⟨w.heap.size, 0, none⟩)) hn (by kernel_rfl) rfl) (load_tskZ hG.1.box) (fg_put h2 rfl)
  · have hop := opG_of (x := .fieldAddr 47 (.tmp 7) 0) (d := some 29) (by kernel_rfl) ho
    obtain ⟨h1, h2⟩ := hop
    refine .inl ⟨free_not (guardG_of (by kernel_rfl) ho), ?_⟩
    exact meets_field h1 (fg_val 7 (.pointer (some ⟨gv, 0, none⟩)) hn (by kernel_rfl) rfl) (by kernel_rfl : (Instr.fieldAt 47 (.pointer (some ⟨gv, 0, none⟩)) 0).run Tryz.prog W = .ok (.pointer (some ⟨gv, 0, none⟩)) W) (fg_put h2 rfl)
  · have hop := opG_of (x := .load 45 (.tmp 29)) (d := some 30) (by kernel_rfl) ho
    obtain ⟨h1, h2⟩ := hop
    refine .inl ⟨free_not (guardG_of (by kernel_rfl) ho), ?_⟩
    exact meets_load h1 (fg_val 29 (.pointer (some ⟨gv, 0, none⟩)) hn (by kernel_rfl) rfl) (blk_ost hG.2) (fg_put h2 rfl)
  · have hop := opG_of (x := .call { callee := .value (.func 40), args := #[.tmp 28, .tmp 30], argTypes := #[42, 45] }) (d := some 31) (by kernel_rfl) ho
    obtain ⟨h1, h2⟩ := hop
    refine .inl ⟨free_not (guardG_of (by kernel_rfl) ho), ?_⟩
    refine meets_call (args := #[.agg #[bv, wv, pv, .int .i64 c.over, .int .i64 c.done, .int .i64 c.need, ov], .agg #[.int .i64 p0, .int .i64 p1, .int .i64 p2, .int .i64 p3, .int .u16 p4]]) h1 rfl rfl (by have e28 := (fg_val 28 (.agg #[bv, wv, pv, .int .i64 c.over, .int .i64 c.done, .int .i64 c.need, ov]) hn (by kernel_rfl) rfl); have e30 := (fg_val 30 (.agg #[.int .i64 p0, .int .i64 p1, .int .i64 p2, .int .i64 p3, .int .u16 p4]) hn (by kernel_rfl) rfl); simp [e28, e30]) Tryz.func40 (by kernel_rfl) (by kernel_rfl) fun d hd => ?_
    refine (kc W hG.1.bel).mono ?_
    rintro e W' ⟨rfl, hb⟩
    exact ⟨_, rfl, hb, (fg_put h2 rfl d hd)⟩
  · have hop := opG_of (x := .binOp .neq 36 (.tmp 31) (.const (.int .i64 0)) 36) (d := some 32) (by kernel_rfl) ho
    obtain ⟨h1, h2⟩ := hop
    refine .inl ⟨free_not (guardG_of (by kernel_rfl) ho), ?_⟩
    exact meets_value (v := .bool false) (by have e31 := (fg_val 31 (.int .i64 z) hn (by kernel_rfl) rfl); unfold execOp; simp only [h1, e31]; simp [go_sem, BigFrame.eval_const, hz]) (fg_put h2 rfl)
  · have hop := opG_of (x := .move (.tmp 32)) (d := some 33) (by kernel_rfl) ho
    obtain ⟨h1, h2⟩ := hop
    refine .inl ⟨free_not (guardG_of (by kernel_rfl) ho), ?_⟩
    exact meets_move (.inl h1) fun d hd => by rw [h2] at hd; obtain rfl := Option.some.inj hd; exact (fg_val 32 (.bool false) hn (by kernel_rfl) rfl)
  · have hop := opG_of (x := .move (.tmp 6)) (d := some 34) (by kernel_rfl) ho
    obtain ⟨h1, h2⟩ := hop
    refine .inl ⟨(guard_at (j := 5) (d := 33) (b := false) (b' := false) (by kernel_rfl : (acOps[6]?).map (·.guard) = some (some (5, false))) (by kernel_rfl) ho (fg_tmp 33 (.bool false) hn (by kernel_rfl) rfl)), ?_⟩
    exact meets_move (.inl h1) fun d hd => by rw [h2] at hd; obtain rfl := Option.some.inj hd; exact (fg_val 6 (.int .i64 (k : Int)) hn (by kernel_rfl) rfl)
  · have hop := opG_of (x := .binOp .gtr 3 (.tmp 34) (.const (.int .i64 0)) 3) (d := some 35) (by kernel_rfl) ho
    obtain ⟨h1, h2⟩ := hop
    refine .inl ⟨(guard_at (j := 5) (d := 33) (b := false) (b' := false) (by kernel_rfl : (acOps[7]?).map (·.guard) = some (some (5, false))) (by kernel_rfl) ho (fg_tmp 33 (.bool false) hn (by kernel_rfl) rfl)), ?_⟩
    exact meets_value (v := .bool true) (by have e34 := (fg_val 34 (.int .i64 (k : Int)) hn (by kernel_rfl) rfl); unfold execOp; simp only [h1, e34]; simp [go_sem, BigFrame.eval_const, hs3, hk]) (fg_put h2 rfl)
  · have hop := opG_of (x := .move (.tmp 35)) (d := some 36) (by kernel_rfl) ho
    obtain ⟨h1, h2⟩ := hop
    refine .inl ⟨(guard_at (j := 5) (d := 33) (b := false) (b' := false) (by kernel_rfl : (acOps[8]?).map (·.guard) = some (some (5, false))) (by kernel_rfl) ho (fg_tmp 33 (.bool false) hn (by kernel_rfl) rfl)), ?_⟩
    exact meets_move (.inl h1) fun d hd => by rw [h2] at hd; obtain rfl := Option.some.inj hd; exact (fg_val 35 (.bool true) hn (by kernel_rfl) rfl)
  · have hop := opG_of (x := .load 49 (.tmp 3)) (d := some 37) (by kernel_rfl) ho
    obtain ⟨h1, h2⟩ := hop
    refine .inl ⟨(guard_at (j := 8) (d := 36) (b := true) (b' := true) (by kernel_rfl : (acOps[9]?).map (·.guard) = some (some (8, true))) (by kernel_rfl) ho (fg_tmp 36 (.bool true) hn (by kernel_rfl) rfl)), ?_⟩
    exact meets_load h1 (fg_val 3 (.pointer (some ⟨w.heap.size + 1, 0, none⟩)) hn (by kernel_rfl) rfl) (loadAt_cell (by kernel_rfl) (hG.1.tb.cell 0)) (fg_put h2 rfl)
  · have hop := opG_of (x := .move (.tmp 6)) (d := some 38) (by kernel_rfl) ho
    obtain ⟨h1, h2⟩ := hop
    refine .inl ⟨(guard_at (j := 8) (d := 36) (b := true) (b' := true) (by kernel_rfl : (acOps[10]?).map (·.guard) = some (some (8, true))) (by kernel_rfl) ho (fg_tmp 36 (.bool true) hn (by kernel_rfl) rfl)), ?_⟩
    exact meets_move (.inl h1) fun d hd => by rw [h2] at hd; obtain rfl := Option.some.inj hd; exact (fg_val 6 (.int .i64 (k : Int)) hn (by kernel_rfl) rfl)
  · have hop := opG_of (x := .binOp .sub 3 (.tmp 38) (.const (.int .i64 1)) 3) (d := some 39) (by kernel_rfl) ho
    obtain ⟨h1, h2⟩ := hop
    refine .inl ⟨(guard_at (j := 8) (d := 36) (b := true) (b' := true) (by kernel_rfl : (acOps[11]?).map (·.guard) = some (some (8, true))) (by kernel_rfl) ho (fg_tmp 36 (.bool true) hn (by kernel_rfl) rfl)), ?_⟩
    exact meets_value (v := .int .i64 ((k - 1 : Nat) : Int)) (by have e38 := (fg_val 38 (.int .i64 (k : Int)) hn (by kernel_rfl) rfl); unfold execOp; simp only [h1, e38]; simp [go_sem, BigFrame.eval_const, hs1]) (fg_put h2 rfl)
  · have hop := opG_of (x := .indexAddr 49 (.tmp 37) (.tmp 39)) (d := some 40) (by kernel_rfl) ho
    obtain ⟨h1, h2⟩ := hop
    refine .inl ⟨(guard_at (j := 8) (d := 36) (b := true) (b' := true) (by kernel_rfl : (acOps[12]?).map (·.guard) = some (some (8, true))) (by kernel_rfl) ho (fg_tmp 36 (.bool true) hn (by kernel_rfl) rfl)), ?_⟩
    exact meets_value (v := .pointer (some ⟨b0, o0 + (k - 1) * 6, none⟩)) (by have e37 := (fg_val 37 (.slice (some ⟨b0, o0, none⟩) n0 c0) hn (by kernel_rfl) rfl); have e39 := (fg_val 39 (.int .i64 ((k - 1 : Nat) : Int)) hn (by kernel_rfl) rfl); unfold execOp; simp only [h1, e37, e39]; simp [go_sem, BigFrame.eval_const, hs2]) (fg_put h2 rfl)
  · have hop := opG_of (x := .fieldAddr 47 (.tmp 40) 0) (d := some 41) (by kernel_rfl) ho
    obtain ⟨h1, h2⟩ := hop
    refine .inl ⟨(guard_at (j := 8) (d := 36) (b := true) (b' := true) (by kernel_rfl : (acOps[13]?).map (·.guard) = some (some (8, true))) (by kernel_rfl) ho (fg_tmp 36 (.bool true) hn (by kernel_rfl) rfl)), ?_⟩
    exact meets_field h1 (fg_val 40 (.pointer (some ⟨b0, o0 + (k - 1) * 6, none⟩)) hn (by kernel_rfl) rfl) (by kernel_rfl : (Instr.fieldAt 47 (.pointer (some ⟨b0, o0 + (k - 1) * 6, none⟩)) 0).run Tryz.prog W = .ok (.pointer (some ⟨b0, o0 + (k - 1) * 6, none⟩)) W) (fg_put h2 rfl)
  · have hop := opG_of (x := .load 45 (.tmp 41)) (d := some 42) (by kernel_rfl) ho
    obtain ⟨h1, h2⟩ := hop
    refine .inl ⟨(guard_at (j := 8) (d := 36) (b := true) (b' := true) (by kernel_rfl : (acOps[14]?).map (·.guard) = some (some (8, true))) (by kernel_rfl) ho (fg_tmp 36 (.bool true) hn (by kernel_rfl) rfl)), ?_⟩
    exact meets_load h1 (fg_val 41 (.pointer (some ⟨b0, o0 + (k - 1) * 6, none⟩)) hn (by kernel_rfl) rfl) (six_ost (six_below hG.1.bel hb0 hprev)) (fg_put h2 rfl)
  · have hop := opG_of (x := .fieldAddr 47 (.tmp 7) 0) (d := some 43) (by kernel_rfl) ho
    obtain ⟨h1, h2⟩ := hop
    refine .inl ⟨(guard_at (j := 8) (d := 36) (b := true) (b' := true) (by kernel_rfl : (acOps[15]?).map (·.guard) = some (some (8, true))) (by kernel_rfl) ho (fg_tmp 36 (.bool true) hn (by kernel_rfl) rfl)), ?_⟩
    exact meets_field h1 (fg_val 7 (.pointer (some ⟨gv, 0, none⟩)) hn (by kernel_rfl) rfl) (by kernel_rfl : (Instr.fieldAt 47 (.pointer (some ⟨gv, 0, none⟩)) 0).run Tryz.prog W = .ok (.pointer (some ⟨gv, 0, none⟩)) W) (fg_put h2 rfl)
  · have hop := opG_of (x := .load 45 (.tmp 43)) (d := some 44) (by kernel_rfl) ho
    obtain ⟨h1, h2⟩ := hop
    refine .inl ⟨(guard_at (j := 8) (d := 36) (b := true) (b' := true) (by kernel_rfl : (acOps[16]?).map (·.guard) = some (some (8, true))) (by kernel_rfl) ho (fg_tmp 36 (.bool true) hn (by kernel_rfl) rfl)), ?_⟩
    exact meets_load h1 (fg_val 43 (.pointer (some ⟨gv, 0, none⟩)) hn (by kernel_rfl) rfl) (blk_ost hG.2) (fg_put h2 rfl)
  · have hop := opG_of (x := .call { callee := .value (.func 41), args := #[.tmp 42, .tmp 44], argTypes := #[45, 45] }) (d := some 45) (by kernel_rfl) ho
    obtain ⟨h1, h2⟩ := hop
    refine .inl ⟨(guard_at (j := 8) (d := 36) (b := true) (b' := true) (by kernel_rfl : (acOps[17]?).map (·.guard) = some (some (8, true))) (by kernel_rfl) ho (fg_tmp 36 (.bool true) hn (by kernel_rfl) rfl)), ?_⟩
    refine meets_call (args := #[.agg #[.int .i64 r0, .int .i64 r1, .int .i64 r2, .int .i64 r3, .int .u16 r4], .agg #[.int .i64 p0, .int .i64 p1, .int .i64 p2, .int .i64 p3, .int .u16 p4]]) h1 rfl rfl (by have e42 := (fg_val 42 (.agg #[.int .i64 r0, .int .i64 r1, .int .i64 r2, .int .i64 r3, .int .u16 r4]) hn (by kernel_rfl) rfl); have e44 := (fg_val 44 (.agg #[.int .i64 p0, .int .i64 p1, .int .i64 p2, .int .i64 p3, .int .u16 p4]) hn (by kernel_rfl) rfl); simp [e42, e44]) Tryz.func41 (by kernel_rfl) (by kernel_rfl) fun d hd => ?_
    refine (kq W).mono ?_
    rintro e W' ⟨rfl, hb⟩
    exact ⟨_, rfl, hb, (fg_put h2 rfl d hd)⟩
  · have hop := opG_of (x := .binOp .geq 3 (.tmp 45) (.const (.int .i64 0)) 3) (d := some 46) (by kernel_rfl) ho
    obtain ⟨h1, h2⟩ := hop
    refine .inl ⟨(guard_at (j := 8) (d := 36) (b := true) (b' := true) (by kernel_rfl : (acOps[18]?).map (·.guard) = some (some (8, true))) (by kernel_rfl) ho (fg_tmp 36 (.bool true) hn (by kernel_rfl) rfl)), ?_⟩
    exact meets_value (v := .bool true) (by have e45 := (fg_val 45 (.int .i64 q) hn (by kernel_rfl) rfl); unfold execOp; simp only [h1, e45]; simp [go_sem, BigFrame.eval_const, hq]) (fg_put h2 rfl)
  · have hop := opG_of (x := .pick (.tmp 36) (.tmp 46) (.const (.bool false))) (d := some 47) (by kernel_rfl) ho
    obtain ⟨h1, h2⟩ := hop
    refine .inl ⟨(guard_at (j := 5) (d := 33) (b := false) (b' := false) (by kernel_rfl : (acOps[19]?).map (·.guard) = some (some (5, false))) (by kernel_rfl) ho (fg_tmp 33 (.bool false) hn (by kernel_rfl) rfl)), ?_⟩
    exact meets_value (v := .bool true) (by have e36 := (fg_val 36 (.bool true) hn (by kernel_rfl) rfl); have e46 := (fg_val 46 (.bool true) hn (by kernel_rfl) rfl); unfold execOp; simp only [h1, e36, e46]; simp [go_sem, BigFrame.eval_const]) (fg_put h2 rfl)
  · have hop := opG_of (x := .pick (.tmp 33) (.const (.bool true)) (.tmp 47)) (d := some 48) (by kernel_rfl) ho
    obtain ⟨h1, h2⟩ := hop
    refine .inl ⟨free_not (guardG_of (by kernel_rfl) ho), ?_⟩
    exact meets_value (v := .bool true) (by have e33 := (fg_val 33 (.bool false) hn (by kernel_rfl) rfl); have e47 := (fg_val 47 (.bool true) hn (by kernel_rfl) rfl); unfold execOp; simp only [h1, e33, e47]; simp [go_sem, BigFrame.eval_const]) (fg_put h2 rfl)
def acTabD (c : Chs) (bv wv pv ov : Value) (p0 p1 p2 p3 p4 vv z : Int) (g gv k : Nat) (r0 r1 r2 r3 r4 rv q : Int) (b0 o0 n0 c0 : Nat) : List (Nat × Value) := [(2, .pointer (some ⟨g, 0, none⟩)), (3, .pointer (some ⟨g + 1, 0, none⟩)), (6, .int .i64 (k : Int)), (7, .pointer (some ⟨gv, 0, none⟩)), (28, .agg #[bv, wv, pv, .int .i64 c.over, .int .i64 c.done, .int .i64 c.need, ov]), (29, .pointer (some ⟨gv, 0, none⟩)), (30, .agg #[.int .i64 p0, .int .i64 p1, .int .i64 p2, .int .i64 p3, .int .u16 p4]), (31, .int .i64 z), (32, .bool false), (33, .bool false), (34, .int .i64 (k : Int)), (35, .bool true), (36, .bool true), (37, .slice (some ⟨b0, o0, none⟩) n0 c0), (38, .int .i64 (k : Int)), (39, .int .i64 ((k - 1 : Nat) : Int)), (40, .pointer (some ⟨b0, o0 + (k - 1) * 6, none⟩)), (41, .pointer (some ⟨b0, o0 + (k - 1) * 6, none⟩)), (42, .agg #[.int .i64 r0, .int .i64 r1, .int .i64 r2, .int .i64 r3, .int .u16 r4]), (43, .pointer (some ⟨gv, 0, none⟩)), (44, .agg #[.int .i64 p0, .int .i64 p1, .int .i64 p2, .int .i64 p3, .int .u16 p4]), (45, .int .i64 q), (46, .bool false), (47, .bool false), (48, .bool false)]
def acMaskD (c : Chs) (bv wv pv ov : Value) (p0 p1 p2 p3 p4 vv z : Int) (g gv k : Nat) (r0 r1 r2 r3 r4 rv q : Int) (b0 o0 n0 c0 : Nat) : List (Option Value) := none :: none :: none :: none :: none :: none :: none :: none :: none :: none :: none :: none :: none :: none :: none :: none :: none :: none :: none :: none :: none :: none :: none :: none :: none :: none :: none :: none :: some (.agg #[bv, wv, pv, .int .i64 c.over, .int .i64 c.done, .int .i64 c.need, ov]) :: some (.pointer (some ⟨gv, 0, none⟩)) :: some (.agg #[.int .i64 p0, .int .i64 p1, .int .i64 p2, .int .i64 p3, .int .u16 p4]) :: some (.int .i64 z) :: some (.bool false) :: some (.bool false) :: some (.int .i64 (k : Int)) :: some (.bool true) :: some (.bool true) :: some (.slice (some ⟨b0, o0, none⟩) n0 c0) :: some (.int .i64 (k : Int)) :: some (.int .i64 ((k - 1 : Nat) : Int)) :: some (.pointer (some ⟨b0, o0 + (k - 1) * 6, none⟩)) :: some (.pointer (some ⟨b0, o0 + (k - 1) * 6, none⟩)) :: some (.agg #[.int .i64 r0, .int .i64 r1, .int .i64 r2, .int .i64 r3, .int .u16 r4]) :: some (.pointer (some ⟨gv, 0, none⟩)) :: some (.agg #[.int .i64 p0, .int .i64 p1, .int .i64 p2, .int .i64 p3, .int .u16 p4]) :: some (.int .i64 q) :: some (.bool false) :: some (.bool false) :: some (.bool false) :: none :: none :: none :: none :: none :: none :: none :: none :: none :: none :: none :: none :: none :: none :: none :: none :: none :: none :: none :: none :: none :: none :: none :: none :: none :: none :: none :: none :: none :: none :: none :: none :: none :: none :: none :: none :: none :: none :: none :: none :: none :: none :: none :: none :: none :: none :: none :: none :: none :: none :: none :: none :: none :: none :: []
set_option maxRecDepth 100000 in
set_option maxHeartbeats 4000000 in
theorem ac_freeD (c : Chs) (bv wv pv ov : Value) (p0 p1 p2 p3 p4 vv z : Int) (gv k : Nat) (r0 r1 r2 r3 r4 rv q : Int) (b0 o0 n0 c0 : Nat) (w : World) (kc : ∀ W, Below w.heap.size w W → Calls Tryz.prog 40 #[.agg #[bv, wv, pv, .int .i64 c.over, .int .i64 c.done, .int .i64 c.need, ov], .agg #[.int .i64 p0, .int .i64 p1, .int .i64 p2, .int .i64 p3, .int .u16 p4]] W fun e W' => e = .returned (.int .i64 z) ∧ Below W.heap.size W W') (kq : ∀ W, Calls Tryz.prog 41 #[.agg #[.int .i64 r0, .int .i64 r1, .int .i64 r2, .int .i64 r3, .int .u16 r4], .agg #[.int .i64 p0, .int .i64 p1, .int .i64 p2, .int .i64 p3, .int .u16 p4]] W fun e W' => e = .returned (.int .i64 q) ∧ Below W.heap.size W W') (hz : z = 0) (hk : 0 < k) (hkn : k ≤ n0) (hn0 : n0 ≤ 1000000000000) (hb0 : b0 < w.heap.size) (hprev : w.cell? ⟨b0, o0 + (k - 1) * 6, none⟩ = some (.int .i64 r0) ∧ w.cell? ⟨b0, o0 + (k - 1) * 6 + 1, none⟩ = some (.int .i64 r1) ∧ w.cell? ⟨b0, o0 + (k - 1) * 6 + 2, none⟩ = some (.int .i64 r2) ∧ w.cell? ⟨b0, o0 + (k - 1) * 6 + 3, none⟩ = some (.int .i64 r3) ∧ w.cell? ⟨b0, o0 + (k - 1) * 6 + 4, none⟩ = some (.int .u16 r4) ∧ w.cell? ⟨b0, o0 + (k - 1) * 6 + 5, none⟩ = some (.int .i64 rv)) (hq : q < 0) :
    FreeG Tryz.prog acOps (tabV (acTabD c bv wv pv ov p0 p1 p2 p3 p4 vv z w.heap.size gv k r0 r1 r2 r3 r4 rv q b0 o0 n0 c0)) (fun W => AcB w W c bv wv pv ov (.slice (some ⟨b0, o0, none⟩) n0 c0) ∧ Blk W gv 47 #[.int .i64 p0, .int .i64 p1, .int .i64 p2, .int .i64 p3, .int .u16 p4, .int .i64 vv]) (fun i => acNeeds.getD i []) [2, 3, 6, 7] 103 := by
  refine ⟨backG_of (by kernel_rfl), dstG_of (by kernel_rfl), needG_of (by kernel_rfl), fun d w1 w2 v h _ => h, fun W W' h hb => ⟨h.1.below hb, h.2.below hb h.2.lt⟩, ?_⟩
  intro i o ho a W hG hn
  have hlt : i < 21 := by rw [← ac_size]; exact (Array.getElem?_eq_some_iff.1 ho).1
  have hs1 : IntKind.i64.wrap ((k : Int) - 1) = ((k - 1 : Nat) : Int) := by rw [IntWalk.i64_in _ (by omega)]; omega
  have hs2 : k - 1 < n0 := by omega
  have hs3 : (0 : Int) < (k : Int) := by omega
  have hcase : i = 0 ∨ i = 1 ∨ i = 2 ∨ i = 3 ∨ i = 4 ∨ i = 5 ∨ i = 6 ∨ i = 7 ∨ i = 8 ∨ i = 9 ∨ i = 10 ∨ i = 11 ∨ i = 12 ∨ i = 13 ∨ i = 14 ∨ i = 15 ∨ i = 16 ∨ i = 17 ∨ i = 18 ∨ i = 19 ∨ i = 20 := by omega
  rcases hcase with rfl | rfl | rfl | rfl | rfl | rfl | rfl | rfl | rfl | rfl | rfl | rfl | rfl | rfl | rfl | rfl | rfl | rfl | rfl | rfl | rfl
  · have hop := opG_of (x := .load 42 (.tmp 2)) (d := some 28) (by kernel_rfl) ho
    obtain ⟨h1, h2⟩ := hop
    refine .inl ⟨free_not (guardG_of (by kernel_rfl) ho), ?_⟩
    exact meets_load h1 (fg_val 2 (.pointer (some ⟨w.heap.size, 0, none⟩)) hn (by kernel_rfl) rfl) (load_tskZ hG.1.box) (fg_put h2 rfl)
  · have hop := opG_of (x := .fieldAddr 47 (.tmp 7) 0) (d := some 29) (by kernel_rfl) ho
    obtain ⟨h1, h2⟩ := hop
    refine .inl ⟨free_not (guardG_of (by kernel_rfl) ho), ?_⟩
    exact meets_field h1 (fg_val 7 (.pointer (some ⟨gv, 0, none⟩)) hn (by kernel_rfl) rfl) (by kernel_rfl : (Instr.fieldAt 47 (.pointer (some ⟨gv, 0, none⟩)) 0).run Tryz.prog W = .ok (.pointer (some ⟨gv, 0, none⟩)) W) (fg_put h2 rfl)
  · have hop := opG_of (x := .load 45 (.tmp 29)) (d := some 30) (by kernel_rfl) ho
    obtain ⟨h1, h2⟩ := hop
    refine .inl ⟨free_not (guardG_of (by kernel_rfl) ho), ?_⟩
    exact meets_load h1 (fg_val 29 (.pointer (some ⟨gv, 0, none⟩)) hn (by kernel_rfl) rfl) (blk_ost hG.2) (fg_put h2 rfl)
  · have hop := opG_of (x := .call { callee := .value (.func 40), args := #[.tmp 28, .tmp 30], argTypes := #[42, 45] }) (d := some 31) (by kernel_rfl) ho
    obtain ⟨h1, h2⟩ := hop
    refine .inl ⟨free_not (guardG_of (by kernel_rfl) ho), ?_⟩
    refine meets_call (args := #[.agg #[bv, wv, pv, .int .i64 c.over, .int .i64 c.done, .int .i64 c.need, ov], .agg #[.int .i64 p0, .int .i64 p1, .int .i64 p2, .int .i64 p3, .int .u16 p4]]) h1 rfl rfl (by have e28 := (fg_val 28 (.agg #[bv, wv, pv, .int .i64 c.over, .int .i64 c.done, .int .i64 c.need, ov]) hn (by kernel_rfl) rfl); have e30 := (fg_val 30 (.agg #[.int .i64 p0, .int .i64 p1, .int .i64 p2, .int .i64 p3, .int .u16 p4]) hn (by kernel_rfl) rfl); simp [e28, e30]) Tryz.func40 (by kernel_rfl) (by kernel_rfl) fun d hd => ?_
    refine (kc W hG.1.bel).mono ?_
    rintro e W' ⟨rfl, hb⟩
    exact ⟨_, rfl, hb, (fg_put h2 rfl d hd)⟩
  · have hop := opG_of (x := .binOp .neq 36 (.tmp 31) (.const (.int .i64 0)) 36) (d := some 32) (by kernel_rfl) ho
    obtain ⟨h1, h2⟩ := hop
    refine .inl ⟨free_not (guardG_of (by kernel_rfl) ho), ?_⟩
    exact meets_value (v := .bool false) (by have e31 := (fg_val 31 (.int .i64 z) hn (by kernel_rfl) rfl); unfold execOp; simp only [h1, e31]; simp [go_sem, BigFrame.eval_const, hz]) (fg_put h2 rfl)
  · have hop := opG_of (x := .move (.tmp 32)) (d := some 33) (by kernel_rfl) ho
    obtain ⟨h1, h2⟩ := hop
    refine .inl ⟨free_not (guardG_of (by kernel_rfl) ho), ?_⟩
    exact meets_move (.inl h1) fun d hd => by rw [h2] at hd; obtain rfl := Option.some.inj hd; exact (fg_val 32 (.bool false) hn (by kernel_rfl) rfl)
  · have hop := opG_of (x := .move (.tmp 6)) (d := some 34) (by kernel_rfl) ho
    obtain ⟨h1, h2⟩ := hop
    refine .inl ⟨(guard_at (j := 5) (d := 33) (b := false) (b' := false) (by kernel_rfl : (acOps[6]?).map (·.guard) = some (some (5, false))) (by kernel_rfl) ho (fg_tmp 33 (.bool false) hn (by kernel_rfl) rfl)), ?_⟩
    exact meets_move (.inl h1) fun d hd => by rw [h2] at hd; obtain rfl := Option.some.inj hd; exact (fg_val 6 (.int .i64 (k : Int)) hn (by kernel_rfl) rfl)
  · have hop := opG_of (x := .binOp .gtr 3 (.tmp 34) (.const (.int .i64 0)) 3) (d := some 35) (by kernel_rfl) ho
    obtain ⟨h1, h2⟩ := hop
    refine .inl ⟨(guard_at (j := 5) (d := 33) (b := false) (b' := false) (by kernel_rfl : (acOps[7]?).map (·.guard) = some (some (5, false))) (by kernel_rfl) ho (fg_tmp 33 (.bool false) hn (by kernel_rfl) rfl)), ?_⟩
    exact meets_value (v := .bool true) (by have e34 := (fg_val 34 (.int .i64 (k : Int)) hn (by kernel_rfl) rfl); unfold execOp; simp only [h1, e34]; simp [go_sem, BigFrame.eval_const, hs3, hk]) (fg_put h2 rfl)
  · have hop := opG_of (x := .move (.tmp 35)) (d := some 36) (by kernel_rfl) ho
    obtain ⟨h1, h2⟩ := hop
    refine .inl ⟨(guard_at (j := 5) (d := 33) (b := false) (b' := false) (by kernel_rfl : (acOps[8]?).map (·.guard) = some (some (5, false))) (by kernel_rfl) ho (fg_tmp 33 (.bool false) hn (by kernel_rfl) rfl)), ?_⟩
    exact meets_move (.inl h1) fun d hd => by rw [h2] at hd; obtain rfl := Option.some.inj hd; exact (fg_val 35 (.bool true) hn (by kernel_rfl) rfl)
  · have hop := opG_of (x := .load 49 (.tmp 3)) (d := some 37) (by kernel_rfl) ho
    obtain ⟨h1, h2⟩ := hop
    refine .inl ⟨(guard_at (j := 8) (d := 36) (b := true) (b' := true) (by kernel_rfl : (acOps[9]?).map (·.guard) = some (some (8, true))) (by kernel_rfl) ho (fg_tmp 36 (.bool true) hn (by kernel_rfl) rfl)), ?_⟩
    exact meets_load h1 (fg_val 3 (.pointer (some ⟨w.heap.size + 1, 0, none⟩)) hn (by kernel_rfl) rfl) (loadAt_cell (by kernel_rfl) (hG.1.tb.cell 0)) (fg_put h2 rfl)
  · have hop := opG_of (x := .move (.tmp 6)) (d := some 38) (by kernel_rfl) ho
    obtain ⟨h1, h2⟩ := hop
    refine .inl ⟨(guard_at (j := 8) (d := 36) (b := true) (b' := true) (by kernel_rfl : (acOps[10]?).map (·.guard) = some (some (8, true))) (by kernel_rfl) ho (fg_tmp 36 (.bool true) hn (by kernel_rfl) rfl)), ?_⟩
    exact meets_move (.inl h1) fun d hd => by rw [h2] at hd; obtain rfl := Option.some.inj hd; exact (fg_val 6 (.int .i64 (k : Int)) hn (by kernel_rfl) rfl)
  · have hop := opG_of (x := .binOp .sub 3 (.tmp 38) (.const (.int .i64 1)) 3) (d := some 39) (by kernel_rfl) ho
    obtain ⟨h1, h2⟩ := hop
    refine .inl ⟨(guard_at (j := 8) (d := 36) (b := true) (b' := true) (by kernel_rfl : (acOps[11]?).map (·.guard) = some (some (8, true))) (by kernel_rfl) ho (fg_tmp 36 (.bool true) hn (by kernel_rfl) rfl)), ?_⟩
    exact meets_value (v := .int .i64 ((k - 1 : Nat) : Int)) (by have e38 := (fg_val 38 (.int .i64 (k : Int)) hn (by kernel_rfl) rfl); unfold execOp; simp only [h1, e38]; simp [go_sem, BigFrame.eval_const, hs1]) (fg_put h2 rfl)
  · have hop := opG_of (x := .indexAddr 49 (.tmp 37) (.tmp 39)) (d := some 40) (by kernel_rfl) ho
    obtain ⟨h1, h2⟩ := hop
    refine .inl ⟨(guard_at (j := 8) (d := 36) (b := true) (b' := true) (by kernel_rfl : (acOps[12]?).map (·.guard) = some (some (8, true))) (by kernel_rfl) ho (fg_tmp 36 (.bool true) hn (by kernel_rfl) rfl)), ?_⟩
    exact meets_value (v := .pointer (some ⟨b0, o0 + (k - 1) * 6, none⟩)) (by have e37 := (fg_val 37 (.slice (some ⟨b0, o0, none⟩) n0 c0) hn (by kernel_rfl) rfl); have e39 := (fg_val 39 (.int .i64 ((k - 1 : Nat) : Int)) hn (by kernel_rfl) rfl); unfold execOp; simp only [h1, e37, e39]; simp [go_sem, BigFrame.eval_const, hs2]) (fg_put h2 rfl)
  · have hop := opG_of (x := .fieldAddr 47 (.tmp 40) 0) (d := some 41) (by kernel_rfl) ho
    obtain ⟨h1, h2⟩ := hop
    refine .inl ⟨(guard_at (j := 8) (d := 36) (b := true) (b' := true) (by kernel_rfl : (acOps[13]?).map (·.guard) = some (some (8, true))) (by kernel_rfl) ho (fg_tmp 36 (.bool true) hn (by kernel_rfl) rfl)), ?_⟩
    exact meets_field h1 (fg_val 40 (.pointer (some ⟨b0, o0 + (k - 1) * 6, none⟩)) hn (by kernel_rfl) rfl) (by kernel_rfl : (Instr.fieldAt 47 (.pointer (some ⟨b0, o0 + (k - 1) * 6, none⟩)) 0).run Tryz.prog W = .ok (.pointer (some ⟨b0, o0 + (k - 1) * 6, none⟩)) W) (fg_put h2 rfl)
  · have hop := opG_of (x := .load 45 (.tmp 41)) (d := some 42) (by kernel_rfl) ho
    obtain ⟨h1, h2⟩ := hop
    refine .inl ⟨(guard_at (j := 8) (d := 36) (b := true) (b' := true) (by kernel_rfl : (acOps[14]?).map (·.guard) = some (some (8, true))) (by kernel_rfl) ho (fg_tmp 36 (.bool true) hn (by kernel_rfl) rfl)), ?_⟩
    exact meets_load h1 (fg_val 41 (.pointer (some ⟨b0, o0 + (k - 1) * 6, none⟩)) hn (by kernel_rfl) rfl) (six_ost (six_below hG.1.bel hb0 hprev)) (fg_put h2 rfl)
  · have hop := opG_of (x := .fieldAddr 47 (.tmp 7) 0) (d := some 43) (by kernel_rfl) ho
    obtain ⟨h1, h2⟩ := hop
    refine .inl ⟨(guard_at (j := 8) (d := 36) (b := true) (b' := true) (by kernel_rfl : (acOps[15]?).map (·.guard) = some (some (8, true))) (by kernel_rfl) ho (fg_tmp 36 (.bool true) hn (by kernel_rfl) rfl)), ?_⟩
    exact meets_field h1 (fg_val 7 (.pointer (some ⟨gv, 0, none⟩)) hn (by kernel_rfl) rfl) (by kernel_rfl : (Instr.fieldAt 47 (.pointer (some ⟨gv, 0, none⟩)) 0).run Tryz.prog W = .ok (.pointer (some ⟨gv, 0, none⟩)) W) (fg_put h2 rfl)
  · have hop := opG_of (x := .load 45 (.tmp 43)) (d := some 44) (by kernel_rfl) ho
    obtain ⟨h1, h2⟩ := hop
    refine .inl ⟨(guard_at (j := 8) (d := 36) (b := true) (b' := true) (by kernel_rfl : (acOps[16]?).map (·.guard) = some (some (8, true))) (by kernel_rfl) ho (fg_tmp 36 (.bool true) hn (by kernel_rfl) rfl)), ?_⟩
    exact meets_load h1 (fg_val 43 (.pointer (some ⟨gv, 0, none⟩)) hn (by kernel_rfl) rfl) (blk_ost hG.2) (fg_put h2 rfl)
  · have hop := opG_of (x := .call { callee := .value (.func 41), args := #[.tmp 42, .tmp 44], argTypes := #[45, 45] }) (d := some 45) (by kernel_rfl) ho
    obtain ⟨h1, h2⟩ := hop
    refine .inl ⟨(guard_at (j := 8) (d := 36) (b := true) (b' := true) (by kernel_rfl : (acOps[17]?).map (·.guard) = some (some (8, true))) (by kernel_rfl) ho (fg_tmp 36 (.bool true) hn (by kernel_rfl) rfl)), ?_⟩
    refine meets_call (args := #[.agg #[.int .i64 r0, .int .i64 r1, .int .i64 r2, .int .i64 r3, .int .u16 r4], .agg #[.int .i64 p0, .int .i64 p1, .int .i64 p2, .int .i64 p3, .int .u16 p4]]) h1 rfl rfl (by have e42 := (fg_val 42 (.agg #[.int .i64 r0, .int .i64 r1, .int .i64 r2, .int .i64 r3, .int .u16 r4]) hn (by kernel_rfl) rfl); have e44 := (fg_val 44 (.agg #[.int .i64 p0, .int .i64 p1, .int .i64 p2, .int .i64 p3, .int .u16 p4]) hn (by kernel_rfl) rfl); simp [e42, e44]) Tryz.func41 (by kernel_rfl) (by kernel_rfl) fun d hd => ?_
    refine (kq W).mono ?_
    rintro e W' ⟨rfl, hb⟩
    exact ⟨_, rfl, hb, (fg_put h2 rfl d hd)⟩
  · have hop := opG_of (x := .binOp .geq 3 (.tmp 45) (.const (.int .i64 0)) 3) (d := some 46) (by kernel_rfl) ho
    obtain ⟨h1, h2⟩ := hop
    refine .inl ⟨(guard_at (j := 8) (d := 36) (b := true) (b' := true) (by kernel_rfl : (acOps[18]?).map (·.guard) = some (some (8, true))) (by kernel_rfl) ho (fg_tmp 36 (.bool true) hn (by kernel_rfl) rfl)), ?_⟩
    exact meets_value (v := .bool false) (by have e45 := (fg_val 45 (.int .i64 q) hn (by kernel_rfl) rfl); unfold execOp; simp only [h1, e45]; simp [go_sem, BigFrame.eval_const, hq]) (fg_put h2 rfl)
  · have hop := opG_of (x := .pick (.tmp 36) (.tmp 46) (.const (.bool false))) (d := some 47) (by kernel_rfl) ho
    obtain ⟨h1, h2⟩ := hop
    refine .inl ⟨(guard_at (j := 5) (d := 33) (b := false) (b' := false) (by kernel_rfl : (acOps[19]?).map (·.guard) = some (some (5, false))) (by kernel_rfl) ho (fg_tmp 33 (.bool false) hn (by kernel_rfl) rfl)), ?_⟩
    exact meets_value (v := .bool false) (by have e36 := (fg_val 36 (.bool true) hn (by kernel_rfl) rfl); have e46 := (fg_val 46 (.bool false) hn (by kernel_rfl) rfl); unfold execOp; simp only [h1, e36, e46]; simp [go_sem, BigFrame.eval_const]) (fg_put h2 rfl)
  · have hop := opG_of (x := .pick (.tmp 33) (.const (.bool true)) (.tmp 47)) (d := some 48) (by kernel_rfl) ho
    obtain ⟨h1, h2⟩ := hop
    refine .inl ⟨free_not (guardG_of (by kernel_rfl) ho), ?_⟩
    exact meets_value (v := .bool false) (by have e33 := (fg_val 33 (.bool false) hn (by kernel_rfl) rfl); have e47 := (fg_val 47 (.bool false) hn (by kernel_rfl) rfl); unfold execOp; simp only [h1, e33, e47]; simp [go_sem, BigFrame.eval_const]) (fg_put h2 rfl)
set_option maxRecDepth 100000 in
set_option maxHeartbeats 8000000 in
theorem or_Accept (c : Chs) (bv wv pv ov v : Value) (l : List Ove) (w : World) (h : ChAt w (· < w.heap.size) bv wv pv ov c) (hl : Sl 6 elOv w (· < w.heap.size) v l) (hn : l.length ≤ 1000000000000) (hw : TabW l) :
    Calls Tryz.prog 15 #[chV c bv wv pv ov, v] w fun e w' => e = .returned (.int .i64 (acceptS c l)) ∧ Below w.heap.size w w' := by
  have k1 := fun W (hW : Below w.heap.size w W) => or_Check c _ _ _ _ W (h.below hW)
  have kchk0 := fun (ht : OkT c) (k : Nat) (hk : k < l.length) W (hW : Below w.heap.size w W) => or_checkState c l[k].st _ _ _ _ W (h.below hW) ht (hw _ (List.getElem_mem hk)).1
  have kop0 := fun (ht : OkT c) (a b : Nat) (ha : a < c.ord.length) (hb : b < c.ord.length) W (hW : Below w.heap.size w W) => or_opened c a b _ _ _ _ W (h.below hW) ht ha hb
  have kfi0 := fun (hs : StrictO l) (t : Ost) W (hW : Below w.heap.size w W) => or_find l v t W (hl.keep elOv_good (Same.of_below hW) fun b hb => Nat.lt_of_lt_of_le hb hW.size) hn hs
  have kva0 := fun (ht : OkT c) (hs : StrictO l) (x : Ost) (hx : OkOs c x) W (hW : AcB w W c bv wv pv ov v) => or_valueL c ht x hx bv wv pv ov (w.heap.size + 1) (lookL l) W (h.below hW.bel) (fun y W2 hW2 => or_acc1 l v y (w.heap.size + 1) W2 (hl.keep elOv_good (Same.of_below (hW.below hW2).bel) fun b hb => Nat.lt_of_lt_of_le hb (hW.below hW2).bel.size) hn hs (hW.below hW2).tb.lt ((hW.below hW2).tb.cell 0))
  unfold chV at k1 kchk0 kop0 kva0 ⊢
  obtain ⟨A, ca, rfl, hc1, hc2⟩ := h.mdl.bat.shape
  obtain ⟨A1, ca1, rfl, hc3, hc4⟩ := h.mdl.bow.shape
  obtain ⟨A2, ca2, rfl, hc5, hc6⟩ := h.bow.shape
  obtain ⟨A3, ca3, rfl, hc7, hc8⟩ := h.ord.shape
  obtain ⟨A4, ca4, rfl, hc9, hc10⟩ := hl.shape
  have HX := Lib.hid (AcB.new w c (.slice A c.mdl.bats.length ca) (.slice A1 c.mdl.bows.length ca1) (.slice A2 c.bows.length ca2) (.slice A3 c.ord.length ca3) (.slice A4 l.length ca4))
  have HL := Lib.hid hl
  obtain ⟨z, hz⟩ : ∃ z, z = acceptS c l := ⟨_, rfl⟩
  rw [← hz]
  obtain ⟨u, hu⟩ : ∃ u, u = checkO c := ⟨_, rfl⟩
  rw [← hu] at k1
  have K1 := Lib.hid k1
  have tok0 : True := trivial
  by_cases h0 : u = 0
  case neg =>
    have HZ := Lib.hid (hz.trans ((accept_bad (l := l) (by rw [← hu]; exact h0)).trans hu.symm))
    have eu : (u != 0) = true := by simp [h0]
    clear kchk0 kop0 kfi0 kva0 hz h0 k1 hu h hl hw
    go_enter Tryz.func15, Tryz.ntmps15
    go_wp2_with (clear tok0; go_at_call 39; refine (K1.out _ HX.out.bel).mono ?_; rintro e w2 ⟨rfl, hb2⟩; have HX2 := Lib.hid (HX.out.below hb2); clear hb2; have tok1 : True := trivial)
    go_ret
    exact ⟨ret_i HZ.out.symm, HX2.out.bel⟩
  have hc0 : checkO c = 0 := by omega
  have ht := okT_of hc0
  have eu : (u != 0) = false := by simp [h0]
  have hnp := ht.np
  have HF4 := Lib.hid (fun hf : ¬ FormO c l => hz.trans (accept_form hc0 hf))
  have HP6 := Lib.hid (fun (hf : FormO c l) (hp : ¬ PairsO c (lookL l)) => hz.trans (accept_pair hc0 hf hp))
  have HEN := Lib.hid (fun (hf : FormO c l) (hp : PairsO c (lookL l)) => hz.trans (accept_ent hc0 hf hp))
  have KCHK := Lib.hid (kchk0 ht)
  have KOP := Lib.hid (kop0 ht)
  have KFI0 := Lib.hid kfi0
  have KVA0 := Lib.hid (kva0 ht)
  have HFOK := Lib.hid (fun (hf : FormO c l) => (⟨form_strict hf, form_ok hf hw⟩ : StrictO l ∧ ∀ (i : Nat) (hi : i < l.length), OkOs c l[i].st))
  obtain ⟨hnp1, hnp2⟩ := hnp
  clear kchk0 kop0 kfi0 kva0 hz h0 k1 hu h hl hw ht hc0
  go_enter Tryz.func15, Tryz.ntmps15
  go_wp2_with (clear tok0; go_at_call 39; refine (K1.out _ HX.out.bel).mono ?_; rintro e w2 ⟨rfl, hb2⟩; have HX2 := Lib.hid (HX.out.below hb2); obtain ⟨x0, x1, x2, x3, x4, x5, x6, x7⟩ := HX2.out.cells; have hl1 := HX2.out.box.lt; have hl2 := HX2.out.tb.lt; clear hb2; have tok1 : True := trivial)
  go_loopw [23] (fun i wr => ∃ k : Nat, k ≤ l.length ∧ i = .int .i64 k ∧ Hid (AcB w wr c (.slice A c.mdl.bats.length ca) (.slice A1 c.mdl.bows.length ca1) (.slice A2 c.bows.length ca2) (.slice A3 c.ord.length ca3) (.slice A4 l.length ca4)) ∧ Hid (FormTo c l k)) (fun i _ => l.length - (intOf i).toNat)
  case atStart => exact ⟨0, Nat.zero_le _, rfl, HX2, Lib.hid (fun i hi hk => by omega)⟩
  case round =>
    clear x0 x1 x2 x3 x4 x5 x6 x7 hl1 hl2 HX2
    obtain ⟨k, hk, rfl, HS, HFT⟩ := hrel
    obtain ⟨x0, x1, x2, x3, x4, x5, x6, x7⟩ := HS.out.cells
    have hl1 := HS.out.box.lt
    have hl2 := HS.out.tb.lt
    by_cases hlt : k < l.length
    · obtain ⟨b0, o0, rfl, hbl, yy⟩ := ov_at HL.out (k := k) hlt
      have yy := six_below HS.out.bel hbl yy
      have kC := KCHK.out k hlt
      have hnx := fun h1 h2 => form_step HFT.out hlt h1 h2
      have hbd1 : stateO c l[k].st ≠ 0 → z = 4 := fun h1 => HF4.out fun hf => h1 (hf k hlt).1
      have hbd2 : ∀ h0 : 0 < k, ¬ cmpO (l[k - 1]'(by omega)).st l[k].st < 0 → z = 4 := fun h0 h1 => HF4.out fun hf => h1 ((hf k hlt).2 h0)
      have hpv : ∀ h0 : 0 < k, ∃ b1 o1, (some (⟨b0, o0, none⟩ : Addr)) = some ⟨b1, o1, none⟩ ∧ b1 < w.heap.size ∧ _ := fun h0 => ov_at HL.out (k := k - 1) (by omega)
      have hbl2 : b0 < wr.heap.size := Nat.lt_of_lt_of_le hbl HS.out.bel.size
      obtain ⟨y, hy⟩ : ∃ y, y = stateO c l[k].st := ⟨_, rfl⟩
      simp only [← hy] at kC hnx hbd1
      obtain ⟨⟨⟨p0, p1, p2, p3, p4⟩, vv⟩, hp⟩ : ∃ x, x = l[k]'hlt := ⟨_, rfl⟩
      simp only [← hp] at yy kC hnx hbd2
      unfold osV at kC
      dsimp only at yy kC hnx hbd2
      have HSE := Lib.hid (HS.out.alloc (.cells #[.int .i64 p0, .int .i64 p1, .int .i64 p2, .int .i64 p3, .int .u16 p4, .int .i64 vv] 47))
      have HBE := Lib.hid (Blk.new wr 47 #[.int .i64 p0, .int .i64 p1, .int .i64 p2, .int .i64 p3, .int .u16 p4, .int .i64 vv])
      obtain ⟨y0, y1, y2, y3, y4, y5⟩ := yy
      have KC := Lib.hid kC
      have HNX := Lib.hid hnx
      have HBD1 := Lib.hid hbd1
      have HBD2 := Lib.hid hbd2
      have HPV := Lib.hid hpv
      clear kC hnx hbd1 hbd2 hpv hp hy HFT
      by_cases hy0 : y = 0
      case neg =>
        have HZ := Lib.hid (HBD1.out hy0)
        have HY := Lib.hid hy0
        clear hy0
        go_wp2
        refine wp_region_freeF (dl := [28, 29, 30, 31, 32, 33, 34, 35, 36, 37, 38, 39, 40, 41, 42, 43, 44, 45, 46, 47, 48]) (mask := acMaskA c (.slice A c.mdl.bats.length ca) (.slice A1 c.mdl.bows.length ca1) (.slice A2 c.bows.length ca2) (.slice A3 c.ord.length ca3) (.slice (some ⟨b0, o0, none⟩) l.length ca4) p0 p1 p2 p3 p4 vv y w.heap.size wr.heap.size k) (T := _ :: _ :: _ :: _ :: _ :: _ :: _ :: _ :: _ :: _ :: _ :: _ :: _ :: _ :: _ :: _ :: _ :: _ :: _ :: _ :: _ :: _ :: _ :: _ :: _ :: _ :: _ :: _ :: _ :: _ :: _ :: _ :: _ :: _ :: _ :: _ :: _ :: _ :: _ :: _ :: _ :: _ :: _ :: _ :: _ :: _ :: _ :: _ :: _ :: _ :: _ :: _ :: _ :: _ :: _ :: _ :: _ :: _ :: _ :: _ :: _ :: _ :: _ :: _ :: _ :: _ :: _ :: _ :: _ :: _ :: _ :: _ :: _ :: _ :: _ :: _ :: _ :: _ :: _ :: _ :: _ :: _ :: _ :: _ :: _ :: _ :: _ :: _ :: _ :: _ :: _ :: _ :: _ :: _ :: _ :: _ :: _ :: _ :: _ :: _ :: _ :: _ :: _ :: []) (by kernel_rfl : _ = acOps) (by kernel_rfl) (ac_freeA c (.slice A c.mdl.bats.length ca) (.slice A1 c.mdl.bows.length ca1) (.slice A2 c.bows.length ca2) (.slice A3 c.ord.length ca3) (.slice (some ⟨b0, o0, none⟩) l.length ca4) p0 p1 p2 p3 p4 vv y wr.heap.size k w KC.out HY.out) rfl (by kernel_rfl) (by kernel_rfl) ⟨HSE.out, HBE.out⟩ (fun d hd => by simp only [List.mem_cons, List.not_mem_nil, or_false] at hd; rcases hd with rfl | rfl | rfl | rfl <;> rfl) rfl ?_
        intro wx hgx hbx
        have HGX := Lib.hid hgx
        clear hgx hbx
        go_wp2
        go_ret
        exact ⟨ret_i HZ.out.symm, HGX.out.1.bel⟩
      have HY := Lib.hid hy0
      clear hy0
      by_cases hk0 : k = 0
      · have HK0 := Lib.hid hk0
        have HFT2 := Lib.hid (HNX.out HY.out (fun h => by omega))
        clear hk0
        go_wp2
        refine wp_region_freeF (dl := [28, 29, 30, 31, 32, 33, 34, 35, 36, 37, 38, 39, 40, 41, 42, 43, 44, 45, 46, 47, 48]) (mask := acMaskB c (.slice A c.mdl.bats.length ca) (.slice A1 c.mdl.bows.length ca1) (.slice A2 c.bows.length ca2) (.slice A3 c.ord.length ca3) (.slice (some ⟨b0, o0, none⟩) l.length ca4) p0 p1 p2 p3 p4 vv y w.heap.size wr.heap.size k) (T := _ :: _ :: _ :: _ :: _ :: _ :: _ :: _ :: _ :: _ :: _ :: _ :: _ :: _ :: _ :: _ :: _ :: _ :: _ :: _ :: _ :: _ :: _ :: _ :: _ :: _ :: _ :: _ :: _ :: _ :: _ :: _ :: _ :: _ :: _ :: _ :: _ :: _ :: _ :: _ :: _ :: _ :: _ :: _ :: _ :: _ :: _ :: _ :: _ :: _ :: _ :: _ :: _ :: _ :: _ :: _ :: _ :: _ :: _ :: _ :: _ :: _ :: _ :: _ :: _ :: _ :: _ :: _ :: _ :: _ :: _ :: _ :: _ :: _ :: _ :: _ :: _ :: _ :: _ :: _ :: _ :: _ :: _ :: _ :: _ :: _ :: _ :: _ :: _ :: _ :: _ :: _ :: _ :: _ :: _ :: _ :: _ :: _ :: _ :: _ :: _ :: _ :: _ :: []) (by kernel_rfl : _ = acOps) (by kernel_rfl) (ac_freeB c (.slice A c.mdl.bats.length ca) (.slice A1 c.mdl.bows.length ca1) (.slice A2 c.bows.length ca2) (.slice A3 c.ord.length ca3) (.slice (some ⟨b0, o0, none⟩) l.length ca4) p0 p1 p2 p3 p4 vv y wr.heap.size k w KC.out HY.out HK0.out) rfl (by kernel_rfl) (by kernel_rfl) ⟨HSE.out, HBE.out⟩ (fun d hd => by simp only [List.mem_cons, List.not_mem_nil, or_false] at hd; rcases hd with rfl | rfl | rfl | rfl <;> rfl) rfl ?_
        intro wx hgx hbx
        have HGX := Lib.hid hgx
        clear hgx hbx
        go_wp2
        go_roundw
        case rel => exact ⟨k + 1, by omega, by go_num, Lib.hid HGX.out.1, HFT2⟩
        case measure => simp [intOf]; omega
      · have hkp : 0 < k := by omega
        obtain ⟨b1, o1, he1, hbl1, rr⟩ := HPV.out hkp
        obtain ⟨rfl, rfl⟩ : b0 = b1 ∧ o0 = o1 := by injection he1 with h9; injection h9 with h8 h7; exact ⟨h8, h7⟩
        have hb2 := HBD2.out hkp
        have hn2 := fun (h1 : cmpO (l[k - 1]'(by omega)).st ⟨p0, p1, p2, p3, p4⟩ < 0) => HNX.out HY.out (fun _ => h1)
        have kq := fun W => or_compare (l[k - 1]'(by omega)).st ⟨p0, p1, p2, p3, p4⟩ W
        obtain ⟨q, hq⟩ : ∃ q, q = cmpO (l[k - 1]'(by omega)).st ⟨p0, p1, p2, p3, p4⟩ := ⟨_, rfl⟩
        simp only [← hq] at hb2 hn2 kq
        obtain ⟨⟨⟨r0, r1, r2, r3, r4⟩, rv⟩, hr⟩ : ∃ x, x = l[k - 1]'(by omega) := ⟨_, rfl⟩
        simp only [← hr] at rr kq
        unfold osV at kq
        dsimp only at rr kq
        have HRR := Lib.hid rr
        have KQ := Lib.hid kq
        have HB2 := Lib.hid hb2
        have HN2 := Lib.hid hn2
        have HKP := Lib.hid hkp
        clear he1 rr hb2 hn2 kq hq hr hk0
        by_cases hq0 : q < 0
        · have HFT2 := Lib.hid (HN2.out hq0)
          have HQ := Lib.hid hq0
          clear hq0
          go_wp2
          refine wp_region_freeF (dl := [28, 29, 30, 31, 32, 33, 34, 35, 36, 37, 38, 39, 40, 41, 42, 43, 44, 45, 46, 47, 48]) (mask := acMaskD c (.slice A c.mdl.bats.length ca) (.slice A1 c.mdl.bows.length ca1) (.slice A2 c.bows.length ca2) (.slice A3 c.ord.length ca3) p0 p1 p2 p3 p4 vv y w.heap.size wr.heap.size k r0 r1 r2 r3 r4 rv q b0 o0 l.length ca4) (T := _ :: _ :: _ :: _ :: _ :: _ :: _ :: _ :: _ :: _ :: _ :: _ :: _ :: _ :: _ :: _ :: _ :: _ :: _ :: _ :: _ :: _ :: _ :: _ :: _ :: _ :: _ :: _ :: _ :: _ :: _ :: _ :: _ :: _ :: _ :: _ :: _ :: _ :: _ :: _ :: _ :: _ :: _ :: _ :: _ :: _ :: _ :: _ :: _ :: _ :: _ :: _ :: _ :: _ :: _ :: _ :: _ :: _ :: _ :: _ :: _ :: _ :: _ :: _ :: _ :: _ :: _ :: _ :: _ :: _ :: _ :: _ :: _ :: _ :: _ :: _ :: _ :: _ :: _ :: _ :: _ :: _ :: _ :: _ :: _ :: _ :: _ :: _ :: _ :: _ :: _ :: _ :: _ :: _ :: _ :: _ :: _ :: _ :: _ :: _ :: _ :: _ :: _ :: []) (by kernel_rfl : _ = acOps) (by kernel_rfl) (ac_freeD c (.slice A c.mdl.bats.length ca) (.slice A1 c.mdl.bows.length ca1) (.slice A2 c.bows.length ca2) (.slice A3 c.ord.length ca3) p0 p1 p2 p3 p4 vv y wr.heap.size k r0 r1 r2 r3 r4 rv q b0 o0 l.length ca4 w KC.out KQ.out HY.out HKP.out (by omega) hn hbl HRR.out HQ.out) rfl (by kernel_rfl) (by kernel_rfl) ⟨HSE.out, HBE.out⟩ (fun d hd => by simp only [List.mem_cons, List.not_mem_nil, or_false] at hd; rcases hd with rfl | rfl | rfl | rfl <;> rfl) rfl ?_
          intro wx hgx hbx
          have HGX := Lib.hid hgx
          clear hgx hbx
          go_wp2
          go_roundw
          case rel => exact ⟨k + 1, by omega, by go_num, Lib.hid HGX.out.1, HFT2⟩
          case measure => simp [intOf]; omega
        · have HZ := Lib.hid (HB2.out hq0)
          have HQ := Lib.hid (Int.not_lt.1 hq0)
          clear hq0
          go_wp2
          refine wp_region_freeF (dl := [28, 29, 30, 31, 32, 33, 34, 35, 36, 37, 38, 39, 40, 41, 42, 43, 44, 45, 46, 47, 48]) (mask := acMaskC c (.slice A c.mdl.bats.length ca) (.slice A1 c.mdl.bows.length ca1) (.slice A2 c.bows.length ca2) (.slice A3 c.ord.length ca3) p0 p1 p2 p3 p4 vv y w.heap.size wr.heap.size k r0 r1 r2 r3 r4 rv q b0 o0 l.length ca4) (T := _ :: _ :: _ :: _ :: _ :: _ :: _ :: _ :: _ :: _ :: _ :: _ :: _ :: _ :: _ :: _ :: _ :: _ :: _ :: _ :: _ :: _ :: _ :: _ :: _ :: _ :: _ :: _ :: _ :: _ :: _ :: _ :: _ :: _ :: _ :: _ :: _ :: _ :: _ :: _ :: _ :: _ :: _ :: _ :: _ :: _ :: _ :: _ :: _ :: _ :: _ :: _ :: _ :: _ :: _ :: _ :: _ :: _ :: _ :: _ :: _ :: _ :: _ :: _ :: _ :: _ :: _ :: _ :: _ :: _ :: _ :: _ :: _ :: _ :: _ :: _ :: _ :: _ :: _ :: _ :: _ :: _ :: _ :: _ :: _ :: _ :: _ :: _ :: _ :: _ :: _ :: _ :: _ :: _ :: _ :: _ :: _ :: _ :: _ :: _ :: _ :: _ :: _ :: []) (by kernel_rfl : _ = acOps) (by kernel_rfl) (ac_freeC c (.slice A c.mdl.bats.length ca) (.slice A1 c.mdl.bows.length ca1) (.slice A2 c.bows.length ca2) (.slice A3 c.ord.length ca3) p0 p1 p2 p3 p4 vv y wr.heap.size k r0 r1 r2 r3 r4 rv q b0 o0 l.length ca4 w KC.out KQ.out HY.out HKP.out (by omega) hn hbl HRR.out HQ.out) rfl (by kernel_rfl) (by kernel_rfl) ⟨HSE.out, HBE.out⟩ (fun d hd => by simp only [List.mem_cons, List.not_mem_nil, or_false] at hd; rcases hd with rfl | rfl | rfl | rfl <;> rfl) rfl ?_
          intro wx hgx hbx
          have HGX := Lib.hid hgx
          clear hgx hbx
          go_wp2
          go_ret
          exact ⟨ret_i HZ.out.symm, HGX.out.1.bel⟩
    · obtain rfl : k = l.length := by omega
      have hf := form_all HFT.out
      obtain ⟨hs, hok⟩ := HFOK.out hf
      have kfi := KFI0.out hs
      have kva := fun (k : Nat) (hk : k < l.length) => KVA0.out hs l[k].st (hok k hk)
      have hp6 := HP6.out hf
      have hen := HEN.out hf
      obtain ⟨lk, hlk⟩ : ∃ lk, lk = lookL l := ⟨_, rfl⟩
      rw [← hlk] at hp6 hen
      simp only [← hlk] at kfi kva
      have KFI := Lib.hid kfi
      have KVA := Lib.hid kva
      have HP := Lib.hid hp6
      have HE := Lib.hid hen
      clear hf hs hok kfi kva hp6 hen hlk HFT KFI0 KVA0 HP6 HEN HF4 HFOK KCHK
      obtain ⟨wo, hwo⟩ : ∃ wo : World, wo = wr := ⟨_, rfl⟩
      subst hwo
      have hsl : (HL.out.shape = HL.out.shape) := rfl
      clear hsl
      go_wp2
      go_loopw [53] (fun i wr => ∃ a : Nat, a ≤ c.ord.length ∧ i = .int .i64 a ∧ Hid (AcB w wr c (.slice A c.mdl.bats.length ca) (.slice A1 c.mdl.bows.length ca1) (.slice A2 c.bows.length ca2) (.slice A3 c.ord.length ca3) (.slice A4 l.length ca4)) ∧ Hid (PairsTo c lk a)) (fun i _ => c.ord.length - (intOf i).toNat)
      case atStart => exact ⟨0, Nat.zero_le _, rfl, HS, Lib.hid (fun i j hi => by omega)⟩
      case round =>
        clear x0 x1 x2 x3 x4 x5 x6 x7 hl1 hl2 HS
        obtain ⟨a, ha, rfl, HS, HPT⟩ := hrel
        obtain ⟨x0, x1, x2, x3, x4, x5, x6, x7⟩ := HS.out.cells
        obtain ⟨wp, hwp⟩ : ∃ wp : World, wp = wr := ⟨_, rfl⟩
        subst hwp
        by_cases hat : a < c.ord.length
        · go_wp2
          go_loopw [59] (fun i wr => ∃ b : Nat, b ≤ c.ord.length ∧ i = .int .i64 b ∧ Hid (AcB w wr c (.slice A c.mdl.bats.length ca) (.slice A1 c.mdl.bows.length ca1) (.slice A2 c.bows.length ca2) (.slice A3 c.ord.length ca3) (.slice A4 l.length ca4)) ∧ Hid (RowTo c lk a b)) (fun i _ => c.ord.length - (intOf i).toNat)
          case atStart => exact ⟨0, Nat.zero_le _, rfl, HS, Lib.hid (fun j hj => by omega)⟩
          case round =>
            clear x0 x1 x2 x3 x4 x5 x6 x7 HS
            obtain ⟨b, hb, rfl, HS, HRT⟩ := hrel
            obtain ⟨x0, x1, x2, x3, x4, x5, x6, x7⟩ := HS.out.cells
            by_cases hbt : b < c.ord.length
            · have kO := KOP.out a b hat hbt
              have kF := KFI.out (openO c a b)
              have hstep := fun h1 => row_step HRT.out h1
              have hbad : a ≠ b → (lk (openO c a b)).2 = false → z = 6 := fun hne hf => HP.out fun hp => by rw [hp a b hat hbt hne] at hf; cases hf
              obtain ⟨⟨rv, ok⟩, hrv⟩ : ∃ r, r = lk (openO c a b) := ⟨_, rfl⟩
              simp only [← hrv] at kF hstep hbad
              obtain ⟨⟨t0, t1, t2, t3, t4⟩, hs'⟩ : ∃ x, x = openO c a b := ⟨_, rfl⟩
              simp only [← hs'] at kO kF
              unfold osV at kO kF
              dsimp only at kO kF
              have KO := Lib.hid kO
              have KF := Lib.hid kF
              have HSTEP := Lib.hid hstep
              have HBAD := Lib.hid hbad
              clear kO kF hrv hs' hstep hbad HRT
              have HSD := Lib.hid HS.out.drew
              by_cases hab : a = b
              · have e1 : ((a : Int) != (b : Int)) = false := by rw [hab]; simp
                have HRT2 := Lib.hid (HSTEP.out (fun h => absurd hab h))
                clear hab
                go_wp2
                clear x0 x1 x2 x3 x4 x5 x6 x7
                obtain ⟨x0, x1, x2, x3, x4, x5, x6, x7⟩ := HSD.out.cells
                have tok9 : True := trivial
                go_region_held3 (fun w' => w'.cell? ⟨w.heap.size, 0, none⟩ = some (.slice A c.mdl.bats.length ca) ∧ w'.cell? ⟨w.heap.size, 1, none⟩ = some (.slice A1 c.mdl.bows.length ca1) ∧ w'.cell? ⟨w.heap.size, 2, none⟩ = some (.slice A2 c.bows.length ca2) ∧ w'.cell? ⟨w.heap.size, 3, none⟩ = some (.int .i64 c.over) ∧ w'.cell? ⟨w.heap.size, 4, none⟩ = some (.int .i64 c.done) ∧ w'.cell? ⟨w.heap.size, 5, none⟩ = some (.int .i64 c.need) ∧ w'.cell? ⟨w.heap.size, 6, none⟩ = some (.slice A3 c.ord.length ca3) ∧ w'.cell? ⟨w.heap.size + 1, 0, none⟩ = some (.slice A4 l.length ca4)) (first | exact ⟨x0, x1, x2, x3, x4, x5, x6, x7⟩ | go_keep) (first
                  | (clear tok9; go_at_call 43; refine (KO.out _ HSD.out.bel).mono ?_; rintro e w6 ⟨rfl, hb6⟩; have HS6 := Lib.hid (HSD.out.below hb6); clear x0 x1 x2 x3 x4 x5 x6 x7; obtain ⟨x0, x1, x2, x3, x4, x5, x6, x7⟩ := HS6.out.cells; clear hb6; have tok10 : True := trivial)
                  | (clear tok10; go_at_call 42; refine (KF.out _ HS6.out.bel).mono ?_; rintro e w7 ⟨rfl, hb7⟩; have HS7 := Lib.hid (HS6.out.below hb7); clear x0 x1 x2 x3 x4 x5 x6 x7; obtain ⟨x0, x1, x2, x3, x4, x5, x6, x7⟩ := HS7.out.cells; clear hb7; have tok11 : True := trivial))
                all_goals go_wp2
                all_goals go_roundw
                case rel => exact ⟨b + 1, by omega, by go_num, HS7, HRT2⟩
                case measure => simp [intOf]; omega
              · have e1 : ((a : Int) != (b : Int)) = true := by simp; omega
                cases ok
                · have HZ := Lib.hid (HBAD.out hab rfl)
                  clear hab
                  go_wp2
                  clear x0 x1 x2 x3 x4 x5 x6 x7
                  obtain ⟨x0, x1, x2, x3, x4, x5, x6, x7⟩ := HSD.out.cells
                  have tok9 : True := trivial
                  go_region_held3 (fun w' => w'.cell? ⟨w.heap.size, 0, none⟩ = some (.slice A c.mdl.bats.length ca) ∧ w'.cell? ⟨w.heap.size, 1, none⟩ = some (.slice A1 c.mdl.bows.length ca1) ∧ w'.cell? ⟨w.heap.size, 2, none⟩ = some (.slice A2 c.bows.length ca2) ∧ w'.cell? ⟨w.heap.size, 3, none⟩ = some (.int .i64 c.over) ∧ w'.cell? ⟨w.heap.size, 4, none⟩ = some (.int .i64 c.done) ∧ w'.cell? ⟨w.heap.size, 5, none⟩ = some (.int .i64 c.need) ∧ w'.cell? ⟨w.heap.size, 6, none⟩ = some (.slice A3 c.ord.length ca3) ∧ w'.cell? ⟨w.heap.size + 1, 0, none⟩ = some (.slice A4 l.length ca4)) (first | exact ⟨x0, x1, x2, x3, x4, x5, x6, x7⟩ | go_keep) (first
                    | (clear tok9; go_at_call 43; refine (KO.out _ HSD.out.bel).mono ?_; rintro e w6 ⟨rfl, hb6⟩; have HS6 := Lib.hid (HSD.out.below hb6); clear x0 x1 x2 x3 x4 x5 x6 x7; obtain ⟨x0, x1, x2, x3, x4, x5, x6, x7⟩ := HS6.out.cells; clear hb6; have tok10 : True := trivial)
                    | (clear tok10; go_at_call 42; refine (KF.out _ HS6.out.bel).mono ?_; rintro e w7 ⟨rfl, hb7⟩; have HS7 := Lib.hid (HS6.out.below hb7); clear x0 x1 x2 x3 x4 x5 x6 x7; obtain ⟨x0, x1, x2, x3, x4, x5, x6, x7⟩ := HS7.out.cells; clear hb7; have tok11 : True := trivial))
                  all_goals go_wp2
                  all_goals go_ret
                  all_goals exact ⟨ret_i HZ.out.symm, HS7.out.bel⟩
                · have HRT2 := Lib.hid (HSTEP.out (fun _ => rfl))
                  clear hab
                  go_wp2
                  clear x0 x1 x2 x3 x4 x5 x6 x7
                  obtain ⟨x0, x1, x2, x3, x4, x5, x6, x7⟩ := HSD.out.cells
                  have tok9 : True := trivial
                  go_region_held3 (fun w' => w'.cell? ⟨w.heap.size, 0, none⟩ = some (.slice A c.mdl.bats.length ca) ∧ w'.cell? ⟨w.heap.size, 1, none⟩ = some (.slice A1 c.mdl.bows.length ca1) ∧ w'.cell? ⟨w.heap.size, 2, none⟩ = some (.slice A2 c.bows.length ca2) ∧ w'.cell? ⟨w.heap.size, 3, none⟩ = some (.int .i64 c.over) ∧ w'.cell? ⟨w.heap.size, 4, none⟩ = some (.int .i64 c.done) ∧ w'.cell? ⟨w.heap.size, 5, none⟩ = some (.int .i64 c.need) ∧ w'.cell? ⟨w.heap.size, 6, none⟩ = some (.slice A3 c.ord.length ca3) ∧ w'.cell? ⟨w.heap.size + 1, 0, none⟩ = some (.slice A4 l.length ca4)) (first | exact ⟨x0, x1, x2, x3, x4, x5, x6, x7⟩ | go_keep) (first
                    | (clear tok9; go_at_call 43; refine (KO.out _ HSD.out.bel).mono ?_; rintro e w6 ⟨rfl, hb6⟩; have HS6 := Lib.hid (HSD.out.below hb6); clear x0 x1 x2 x3 x4 x5 x6 x7; obtain ⟨x0, x1, x2, x3, x4, x5, x6, x7⟩ := HS6.out.cells; clear hb6; have tok10 : True := trivial)
                    | (clear tok10; go_at_call 42; refine (KF.out _ HS6.out.bel).mono ?_; rintro e w7 ⟨rfl, hb7⟩; have HS7 := Lib.hid (HS6.out.below hb7); clear x0 x1 x2 x3 x4 x5 x6 x7; obtain ⟨x0, x1, x2, x3, x4, x5, x6, x7⟩ := HS7.out.cells; clear hb7; have tok11 : True := trivial))
                  all_goals go_wp2
                  all_goals go_roundw
                  case rel => exact ⟨b + 1, by omega, by go_num, HS7, HRT2⟩
                  case measure => simp [intOf]; omega
            · obtain rfl : b = c.ord.length := by omega
              have HPT2 := Lib.hid (pairs_row HPT.out HRT.out)
              clear HRT HPT
              go_wp2
              go_roundw
              case rel => exact ⟨a + 1, by omega, by go_num, HS, HPT2⟩
              case measure => simp [intOf]; omega
        · obtain rfl : a = c.ord.length := by omega
          have HZ0 : Hid (z = entL c lk (l.drop 0)) := HE.out fun i j hi hj hne => HPT.out i j hi hj hne
          clear HPT HP HE KOP KFI
          have hsl4 := HL.out
          go_wp2
          go_loopw [82] (fun i wr => ∃ k : Nat, k ≤ l.length ∧ i = .int .i64 k ∧ Hid (AcB w wr c (.slice A c.mdl.bats.length ca) (.slice A1 c.mdl.bows.length ca1) (.slice A2 c.bows.length ca2) (.slice A3 c.ord.length ca3) (.slice A4 l.length ca4)) ∧ Hid (z = entL c lk (l.drop k))) (fun i _ => l.length - (intOf i).toNat)
          case atStart => exact ⟨0, Nat.zero_le _, rfl, HS, HZ0⟩
          case round =>
            clear x0 x1 x2 x3 x4 x5 x6 x7 HS HZ0
            obtain ⟨k, hk, rfl, HS, hzz⟩ := hrel
            obtain ⟨x0, x1, x2, x3, x4, x5, x6, x7⟩ := HS.out.cells
            have hl1 := HS.out.box.lt
            have hl2 := HS.out.tb.lt
            by_cases hlt : k < l.length
            · obtain ⟨b0, o0, rfl, hbl, yy⟩ := ov_at HL.out (k := k) hlt
              have yy := six_below HS.out.bel hbl yy
              have kV := KVA.out k hlt
              have hst := hzz.out
              rw [entL_at hlt] at hst
              obtain ⟨⟨rv, ok⟩, hrv⟩ : ∃ r, r = valL c lk l[k].st := ⟨_, rfl⟩
              simp only [← hrv] at kV hst
              obtain ⟨⟨⟨p0, p1, p2, p3, p4⟩, vv⟩, hp⟩ : ∃ x, x = l[k]'hlt := ⟨_, rfl⟩
              simp only [← hp] at yy kV hst
              unfold osV at kV
              dsimp only at yy kV hst
              have HSE := Lib.hid (HS.out.alloc (.cells #[.int .i64 p0, .int .i64 p1, .int .i64 p2, .int .i64 p3, .int .u16 p4, .int .i64 vv] 47))
              have HBE := Lib.hid (Blk.new wr 47 #[.int .i64 p0, .int .i64 p1, .int .i64 p2, .int .i64 p3, .int .u16 p4, .int .i64 vv])
              obtain ⟨y0, y1, y2, y3, y4, y5⟩ := yy
              have KV := Lib.hid kV
              clear kV hrv hp hzz
              have tok5 : True := trivial
              cases ok
              · rw [if_pos rfl] at hst
                have HZ := Lib.hid hst
                clear hst
                go_wp2_with (clear tok5; go_at_call 44; refine (KV.out _ HSE.out).mono ?_; rintro e w6 ⟨rfl, hb6⟩; have HS6 := Lib.hid (HSE.out.below hb6); have HB6 := Lib.hid (HBE.out.below hb6 HBE.out.lt); clear x0 x1 x2 x3 x4 x5 x6 x7 hl1 hl2; obtain ⟨x0, x1, x2, x3, x4, x5, x6, x7⟩ := HS6.out.cells; have u5 : w6.cell? ⟨wr.heap.size, 5, none⟩ = some (.int .i64 vv) := HB6.out.cell 5; clear hb6; have tok6 : True := trivial)
                go_ret
                exact ⟨ret_i HZ.out.symm, HS6.out.bel⟩
              · rw [if_neg (by decide)] at hst
                by_cases hv : rv = vv
                · rw [if_neg (by simp [hv])] at hst
                  have HZ := Lib.hid hst
                  have e5 : (rv != vv) = false := by simp [hv]
                  clear hst hv
                  go_wp2_with (clear tok5; go_at_call 44; refine (KV.out _ HSE.out).mono ?_; rintro e w6 ⟨rfl, hb6⟩; have HS6 := Lib.hid (HSE.out.below hb6); have HB6 := Lib.hid (HBE.out.below hb6 HBE.out.lt); clear x0 x1 x2 x3 x4 x5 x6 x7 hl1 hl2; obtain ⟨x0, x1, x2, x3, x4, x5, x6, x7⟩ := HS6.out.cells; have u5 : w6.cell? ⟨wr.heap.size, 5, none⟩ = some (.int .i64 vv) := HB6.out.cell 5; clear hb6; have tok6 : True := trivial)
                  go_roundw
                  case rel => exact ⟨k + 1, by omega, by go_num, HS6, HZ⟩
                  case measure => simp [intOf]; omega
                · rw [if_pos hv] at hst
                  have HZ := Lib.hid hst
                  have e5 : (rv != vv) = true := by simp [hv]
                  clear hst hv
                  go_wp2_with (clear tok5; go_at_call 44; refine (KV.out _ HSE.out).mono ?_; rintro e w6 ⟨rfl, hb6⟩; have HS6 := Lib.hid (HSE.out.below hb6); have HB6 := Lib.hid (HBE.out.below hb6 HBE.out.lt); clear x0 x1 x2 x3 x4 x5 x6 x7 hl1 hl2; obtain ⟨x0, x1, x2, x3, x4, x5, x6, x7⟩ := HS6.out.cells; have u5 : w6.cell? ⟨wr.heap.size, 5, none⟩ = some (.int .i64 vv) := HB6.out.cell 5; clear hb6; have tok6 : True := trivial)
                  go_ret
                  exact ⟨ret_i HZ.out.symm, HS6.out.bel⟩
            · obtain rfl : k = l.length := by omega
              have hz2 := hzz.out
              rw [List.drop_of_length_le (Nat.le_refl _), entL] at hz2
              have HZ := Lib.hid hz2
              clear hzz hz2
              go_wp2
              go_ret
              exact ⟨ret_i HZ.out.symm, HS.out.bel⟩
end Go.Proofs.YtdlmmbfnmnglaaaGreatDoor

namespace Go.Proofs.YtdlmmbfnmnglaaaGreatDoor
open Go.RowKit Go.Maps

set_option maxRecDepth 100000 in
set_option maxHeartbeats 8000000 in
theorem r45_sum (c : Chs) (ht : OkT c) (s : Ost) (hs : OkOs c s) (bv wv pv ov : Value) (b N : Nat) (D : DataW Unit) (w : World) (h : ChAt w (· < w.heap.size) bv wv pv ov c) (hown : ValsO w b N D) (hkn : KnownO c D) (hall : ∀ x ∈ (nextsO c s).1, Maps.has D (keyOs x) = true) :
    Calls Tryz.prog 48 #[chV c bv wv pv ov, osV s, .map (some b)] w fun e w' => e = .returned (.tuple #[.int .i64 (vO c s), .bool true]) ∧ Below w.heap.size w w' := by
  unfold chV osV
  have hnp := ht.np
  have hnb := ht.ok.nb
  have hsb := hs.ball
  obtain ⟨A, ca, rfl, hc1, hc2⟩ := h.mdl.bat.shape
  obtain ⟨A1, ca1, rfl, hc3, hc4⟩ := h.mdl.bow.shape
  obtain ⟨A2, ca2, rfl, hc5, hc6⟩ := h.bow.shape
  obtain ⟨A3, ca3, rfl, hc7, hc8⟩ := h.ord.shape
  have HX0 := Lib.hid (OSB.new w c (.slice A c.mdl.bats.length ca) (.slice A1 c.mdl.bows.length ca1) (.slice A2 c.bows.length ca2) (.slice A3 c.ord.length ca3) s)
  have HM := Lib.hid h
  obtain ⟨z, hz⟩ : ∃ z, z = vO c s := ⟨_, rfl⟩
  rw [← hz]
  have tok0 : True := trivial
  by_cases h0 : s.need = 0
  · have kun := fun W => ref_Unit ((c.bows.length : Int) - s.ball) W
    have hle := leftO_le ht hs
    have hlc : (c.bows.length : Int) - s.ball = (leftO c s : Int) := by unfold leftO; omega
    have hun : unitS ((c.bows.length : Int) - s.ball) = (z, 0) := by rw [hlc, unitS_ok hle, hz, vO_won h0, pow16_unit]
    rw [hun] at kun
    have KU := Lib.hid kun
    have e0 : (s.need == 0) = true := beq_iff_eq.2 h0
    obtain ⟨ball, need, str, par, wait⟩ := s
    dsimp only at e0 KU hsb ⊢
    obtain ⟨hsb1, hsb2⟩ := hsb
    obtain ⟨hnb1, hnb2⟩ := hnb
    clear hz h0 hs ht h kun hle hlc hun hown hkn hall
    go_enter Tryz.func48, Tryz.ntmps48
    go_wp2_with (clear tok0; go_at_call 93; refine (KU.out _).mono ?_; rintro e w2 ⟨rfl, hb⟩; have HX2 := Lib.hid HX0.out; subst hb; have tok1 : True := trivial)
    go_ret2
    exact ⟨rfl, HX2.out.bel⟩
  have e0 : (s.need == 0) = false := beq_eq_false_iff_ne.2 h0
  obtain ⟨hl12, hl16, hlaw, hfin⟩ := nexts_law ht hs
  have hf := hfin h0
  have kn := fun W (hW : Below w.heap.size w W) => r45_nexts c ht s hs _ _ _ _ W (HM.out.below hW)
  have hitem : ∀ (k : Nat) (h1 : k < (nextsO c s).1.length) (h2 : k < (nextsO c s).2.length), NextOk c s (nextsO c s).1[k] (nextsO c s).2[k] ∧ Maps.has D (keyOs (nextsO c s).1[k]) = true ∧ D.atKey (keyOs (nextsO c s).1[k]) (.lit (.int .i64 0)) = .lit (.int .i64 (vO c (nextsO c s).1[k])) ∧ keyOf Tryz.prog 45 (osV (nextsO c s).1[k]) = some (keyOs (nextsO c s).1[k]) := fun k h1 h2 =>
    have k1 := hlaw k h1 h2
    have k2 := hall _ (List.getElem_mem h1)
    ⟨k1, k2, hkn.val _ k1.ok k2, okey_of (k1.ok.smol ht)⟩
  rw [← hz] at hf
  clear hall hlaw hfin
  revert hl12 hl16 hf kn hitem
  generalize nextsO c s = r
  obtain ⟨l, ws⟩ := r
  intro hl12 hl16 hf kn hitem
  dsimp only at hitem hf hl12 hl16
  have hatk := fun (k : Nat) (h1 : k < l.length) (h2 : k < ws.length) v => accF_at (vO c) h1 h2 v
  have KN := Lib.hid kn
  have HIT := Lib.hid hitem
  have HF := Lib.hid (show z = accF (vO c) (l.drop 0) (ws.drop 0) 0 by rw [← hf]; rfl)
  have HAT := Lib.hid hatk
  have HOW := Lib.hid hown
  have hblt := hown.lt
  obtain ⟨ball, need, str, par, wait⟩ := s
  unfold chV osV at KN
  dsimp only at e0 KN ⊢
  clear hz h0 hs ht h kn hf hatk hown hkn hitem hsb
  go_enter Tryz.func48, Tryz.ntmps48
  go_wp2_with (clear tok0; go_at_call 79; refine (KN.out _ HX0.out.bel).mono ?_; rintro e w4 ⟨A4, n4, k4, A5, n5, k5, rfl, hb3, hs3, hs4⟩; obtain ⟨Az, kz, hze, hz1, hz2⟩ := hs3.shape; have hn4 : n4 = l.length := (by injection hze); subst hn4; obtain ⟨Ay, ky, hye, hy1, hy2⟩ := hs4.shape; have hn5 : n5 = ws.length := (by injection hye); subst hn5; have HX4 := Lib.hid (HX0.out.below hb3); have HL4 := Lib.hid (hs3.keep (G := fun x => x < w4.heap.size) elOst_good (Same.refl _ _) fun x hx => hx.2); have HL5 := Lib.hid (hs4.keep (G := fun x => x < w4.heap.size) elInt_good (Same.refl _ _) fun x hx => hx.2); have tok1 : True := trivial; clear hb3 hs3 hs4 hze hz1 hz2 hye hy1 hy2)
  go_loopw [12, 39] (fun v i wr => ∃ (k : Nat) (sm : Int), k ≤ l.length ∧ i = .int .i64 k ∧ v = .int .i64 sm ∧ 0 ≤ sm ∧ sm ≤ 281474976710656 * k ∧ Hid (Below w4.heap.size w4 wr) ∧ Hid (z = accF (vO c) (l.drop k) (ws.drop k) sm)) (fun _ i _ => l.length - (intOf i).toNat)
  case atStart => exact ⟨0, 0, Nat.zero_le _, rfl, rfl, by omega, by omega, Lib.hid (Below.refl _ _), HF⟩
  case round =>
    obtain ⟨k, sm, hk, rfl, rfl, hs0, hs1, HB, hzz⟩ := hrel
    have HXR := Lib.hid (HX4.out.below HB.out)
    by_cases hlt : k < l.length
    · have hlt2 : k < ws.length := by omega
      obtain ⟨b0, o, rfl, hbl, j0, j1, j2, j3, j4⟩ := ost_at HL4.out hlt
      obtain ⟨b1, o1, rfl, hbl1, i0⟩ := int_at HL5.out hlt2
      have g0 := (HB.out.cell (p := ⟨b0, o + k * 5, none⟩) hbl).trans j0
      have g1 := (HB.out.cell (p := ⟨b0, o + k * 5 + 1, none⟩) hbl).trans j1
      have g2 := (HB.out.cell (p := ⟨b0, o + k * 5 + 2, none⟩) hbl).trans j2
      have g3 := (HB.out.cell (p := ⟨b0, o + k * 5 + 3, none⟩) hbl).trans j3
      have g4 := (HB.out.cell (p := ⟨b0, o + k * 5 + 4, none⟩) hbl).trans j4
      have g5 := (HB.out.cell (p := ⟨b1, o1 + k, none⟩) hbl1).trans i0
      obtain ⟨q1, q2, q3, q4⟩ := HIT.out k hlt hlt2
      have hz2 := hzz.out
      rw [HAT.out k hlt hlt2] at hz2
      have q5 := q1.v0
      have q6 := q1.p0
      obtain ⟨vv, hvv⟩ : ∃ x, x = vO c l[k] := ⟨_, rfl⟩
      rw [← hvv] at hz2 q3 q5 q6
      obtain ⟨⟨t0, t1, t2, t3, t4⟩, hx⟩ : ∃ x, x = l[k] := ⟨_, rfl⟩
      rw [← hx] at g0 g1 g2 g3 g4 q2 q3 q4
      obtain ⟨y, hy⟩ : ∃ x, x = ws[k] := ⟨_, rfl⟩
      rw [← hy] at g5 hz2 q6
      unfold osV at q4
      dsimp only at g0 g1 g2 g3 g4 q4
      obtain ⟨q7, q8⟩ := q5
      obtain ⟨q9, q10⟩ := q6
      have HKEY := Lib.hid q4
      have HVAL := Lib.hid q3
      have HV := Lib.hid (ovals_below (ovals_below (ovals_below HOW.out (HX4.out.bel)) HB.out) (Below.alloc (Below.refl wr.heap.size wr) (Nat.le_refl _) (.cells #[.int .i64 t0, .int .i64 t1, .int .i64 t2, .int .i64 t3, .int .u16 t4] 45)))
      have hb1 : b1 < wr.heap.size := Nat.lt_of_lt_of_le hbl1 HB.out.size
      by_cases hy0 : y = 0
      · rw [if_pos hy0] at hz2
        have HZZ := Lib.hid hz2
        have e5 : (y == 0) = true := beq_iff_eq.2 hy0
        clear q1 q3 q4 hz2 hzz hvv hx hy j0 j1 j2 j3 j4 i0 hy0 q9 q10
        go_wp2_with (at_lookup; refine wpList_lookup_own_ok_int _ rfl _ _ 81 rfl 45 2 .i64 law45 Tryz.underlying81 Tryz.underlying2 (zero_i64 _) b N D rfl HV.out _ _ rfl HKEY.out ?_; intro cc hat hwc; have hc : cc = vv := (by have := hat.symm.trans HVAL.out; injection this with this; injection this); subst hc; clear hat hwc)
        go_roundw
        case rel => exact ⟨k + 1, max sm cc, by omega, by go_num, by first | rfl | rw [Int.max_comm], by omega, by push_cast; omega, Lib.hid (HB.out.trans ((Below.alloc (Below.refl wr.heap.size wr) (Nat.le_refl _) _).mono HB.out.size)), HZZ⟩
        case measure => simp [intOf]; omega
      · rw [if_neg hy0] at hz2
        have HZZ := Lib.hid hz2
        have e5 : (y == 0) = false := beq_eq_false_iff_ne.2 hy0
        clear q1 q3 q4 hz2 hzz hvv hx hy j0 j1 j2 j3 j4 i0 hy0
        go_wp2_with (at_lookup; refine wpList_lookup_own_ok_int _ rfl _ _ 81 rfl 45 2 .i64 law45 Tryz.underlying81 Tryz.underlying2 (zero_i64 _) b N D rfl HV.out _ _ rfl HKEY.out ?_; intro cc hat hwc; have hc : cc = vv := (by have := hat.symm.trans HVAL.out; injection this with this; injection this); subst hc; clear hat hwc)
        go_roundw
        case rel => exact ⟨k + 1, sm + y * cc, by omega, by go_num, by first | rfl | rw [IntWalk.i64_in (y * cc) (by omega), IntWalk.i64_in (sm + y * cc) (by omega)], by omega, by push_cast; omega, Lib.hid (HB.out.trans ((Below.alloc (Below.refl wr.heap.size wr) (Nat.le_refl _) _).mono HB.out.size)), HZZ⟩
        case measure => simp [intOf]; omega
    · obtain rfl : k = l.length := by omega
      have hz2 := hzz.out
      rw [List.drop_of_length_le (Nat.le_refl _), List.drop_of_length_le (by omega)] at hz2
      have hz3 : z = sm := hz2
      subst hz3
      clear hzz hz2
      go_wp2
      go_ret2
      exact ⟨rfl, HXR.out.bel⟩
end Go.Proofs.YtdlmmbfnmnglaaaGreatDoor
