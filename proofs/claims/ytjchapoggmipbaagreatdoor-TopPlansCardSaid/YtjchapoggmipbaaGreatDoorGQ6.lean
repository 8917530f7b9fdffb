/- Several texts of this family in one: Z5 Z6 Z9 Z10 Z11 P94 P95 Y8 Y10 J10 Y11 Z12 Z13 Z15. -/
import Derived.Test.YtjchapoggmipbaaGreatDoorGQ5
import Derived.Laws.EntriesVeiled
import Derived.Test.YtjchapoggmipbaaGreatDoorGP2
import Derived.Test.YtjchapoggmipbaaGreatDoorGP1
set_option linter.unusedSimpArgs false
set_option linter.unusedVariables false
namespace Go.Proofs.YtjchapoggmipbaaGreatDoor
open Go.RowKit Go.Maps

/-- A task and a state boxed in value's frame, the maker's boxes and the map beside them. -/
structure SolV (w W : World) (F : Nat → Prop) (b g0 g2 N : Nat) (D0 : DataW Unit) (c : Chs) (bv wv pv ov : Value) (s : Ost) : Prop where
  only : Only b w W
  box : Blk W w.heap.size 28 #[bv, wv, pv, .int .i64 c.over, .int .i64 c.done, .int .i64 c.need, ov]
  st : Blk W (w.heap.size + 1) 47 #[.int .i64 s.ball, .int .i64 s.need, .int .i64 s.str, .int .i64 s.par, .int .u16 s.wait]
  blt : b < w.heap.size
  env : EnvO W F b g0 g2 c bv wv pv ov
  vals : ∃ D, ValsO W b N D ∧ KnownO c D ∧ GrewO D0 D
section
variable {w W W' : World} {F : Nat → Prop} {b g0 g2 N N' : Nat} {D0 : DataW Unit} {c : Chs} {bv wv pv ov : Value} {s : Ost}
theorem SolV.below (h : SolV w W F b g0 g2 N D0 c bv wv pv ov s) (hb : Below W.heap.size W W') : SolV w W' F b g0 g2 N D0 c bv wv pv ov s :=
  ⟨h.only.trans (Only.of_below hb), h.box.below hb h.box.lt, h.st.below hb h.st.lt, h.blt, h.env.only (Only.of_below hb), let ⟨D, h1, h2, h3⟩ := h.vals; ⟨D, ovals_below h1 hb, h2, h3⟩⟩
theorem SolV.alloc (h : SolV w W F b g0 g2 N D0 c bv wv pv ov s) (o : Obj) : SolV w (W.alloc o) F b g0 g2 N D0 c bv wv pv ov s := h.below (Below.alloc (Below.refl _ _) (Nat.le_refl _) o)
theorem SolV.into (h : SolV w W F b g0 g2 N D0 c bv wv pv ov s) (ho : Only b W W') (hv : ∃ D, ValsO W' b N' D ∧ KnownO c D ∧ GrewO D0 D) : SolV w W' F b g0 g2 N' D0 c bv wv pv ov s :=
  ⟨h.only.trans ho, h.box.grown ho (by intro e; injection e with e; have := h.blt; omega), h.st.grown ho (by intro e; injection e with e; have := h.blt; omega), h.blt, h.env.only ho, hv⟩
theorem SolV.cells (h : SolV w W F b g0 g2 N D0 c bv wv pv ov s) : W.cell? ⟨w.heap.size, 0, none⟩ = some bv ∧ W.cell? ⟨w.heap.size, 1, none⟩ = some wv ∧ W.cell? ⟨w.heap.size, 2, none⟩ = some pv ∧ W.cell? ⟨w.heap.size, 3, none⟩ = some (.int .i64 c.over) ∧ W.cell? ⟨w.heap.size, 4, none⟩ = some (.int .i64 c.done) ∧ W.cell? ⟨w.heap.size, 5, none⟩ = some (.int .i64 c.need) ∧ W.cell? ⟨w.heap.size, 6, none⟩ = some ov ∧
    W.cell? ⟨w.heap.size + 1, 0, none⟩ = some (.int .i64 s.ball) ∧ W.cell? ⟨w.heap.size + 1, 1, none⟩ = some (.int .i64 s.need) ∧ W.cell? ⟨w.heap.size + 1, 2, none⟩ = some (.int .i64 s.str) ∧ W.cell? ⟨w.heap.size + 1, 3, none⟩ = some (.int .i64 s.par) ∧ W.cell? ⟨w.heap.size + 1, 4, none⟩ = some (.int .u16 s.wait) :=
  ⟨h.box.cell 0, h.box.cell 1, h.box.cell 2, h.box.cell 3, h.box.cell 4, h.box.cell 5, h.box.cell 6, h.st.cell 0, h.st.cell 1, h.st.cell 2, h.st.cell 3, h.st.cell 4⟩
theorem SolV.new {D : DataW Unit} (he : EnvO w F b g0 g2 c bv wv pv ov) (h1 : ValsO w b N D) (h2 : KnownO c D) : SolV w ((w.alloc (.cells #[bv, wv, pv, .int .i64 c.over, .int .i64 c.done, .int .i64 c.need, ov] 28)).alloc (.cells #[.int .i64 s.ball, .int .i64 s.need, .int .i64 s.str, .int .i64 s.par, .int .u16 s.wait] 47)) F b g0 g2 N D c bv wv pv ov s :=
  let hx := OSB.new w c bv wv pv ov s
  ⟨Only.of_below hx.bel, hx.box, hx.st, h1.lt, he.only (Only.of_below hx.bel), D, ovals_below h1 hx.bel, h2, GrewO.refl _⟩
/-- The chase lies still. -/
theorem SolV.chb (h : SolV w W F b g0 g2 N D0 c bv wv pv ov s) : ChAt W (· < W.heap.size) bv wv pv ov c := h.env.ch.keep (Same.refl _ _) fun x hx => (h.env.hF x hx).1
end
/-- What the function handed to value does. -/
def LookO (f : FuncId) (F : Nat → Prop) (b g0 g2 K m : Nat) (c : Chs) (bv wv pv ov : Value) : Prop := ∀ (x : Ost), OkOs c x → rankO c x < m → ∀ (N : Nat) (D : DataW Unit) (W : World), EnvO W F b g0 g2 c bv wv pv ov → ValsO W b N D → KnownO c D → N + K ≤ 2000000000000000000 →
  Calls Tryz.prog f #[osV x, .pointer (some ⟨g0, 0, none⟩), .pointer (some ⟨g2, 0, none⟩)] W fun e W' => e = .returned (.tuple #[.int .i64 (vO c x), .bool true]) ∧ Only b W W' ∧ ∃ D', ValsO W' b (N + K) D' ∧ KnownO c D' ∧ GrewO D D'
theorem bestF_at {f : Int → Int} {w : Int} {k : Nat} (h : bitW w k = true) : bestF f w (k + 1) = max (bestF f w k) (f k) := by rw [bestF, if_pos h]
theorem bestF_not {f : Int → Int} {w : Int} {k : Nat} (h : bitW w k = false) : bestF f w (k + 1) = bestF f w k := by rw [bestF, if_neg (by simp [h])]
set_option maxRecDepth 100000 in
set_option maxHeartbeats 8000000 in
theorem or_value (c : Chs) (ht : OkT c) (s : Ost) (hs : OkOs c s) (F : Nat → Prop) (b g0 g2 K N : Nat) (D : DataW Unit) (bv wv pv ov : Value) (w : World) (hlook : LookO 53 F b g0 g2 K (rankO c s) c bv wv pv ov) (henv : EnvO w F b g0 g2 c bv wv pv ov) (hown : ValsO w b N D) (hkn : KnownO c D) (hN : N + (if rankO c s % 2 = 1 then 6 else 16) * K ≤ 2000000000000000000) :
    Calls Tryz.prog 52 #[chV c bv wv pv ov, osV s, .func (.func 53) #[] #[.pointer (some ⟨g0, 0, none⟩), .pointer (some ⟨g2, 0, none⟩)]] w fun e w' => e = .returned (.tuple #[.int .i64 (vO c s), .bool true]) ∧ Only b w w' ∧ ∃ D', ValsO w' b (N + (if rankO c s % 2 = 1 then 6 else 16) * K) D' ∧ KnownO c D' ∧ GrewO D D' := by
  obtain ⟨z, hz⟩ : ∃ z, z = vO c s := ⟨_, rfl⟩
  have hbd := vO_bd ht _ s hs rfl
  have hp16 := pow16_le (leftO_le ht hs)
  have hz0 : 0 ≤ z ∧ z ≤ 281474976710656 := by rw [hz]; omega
  have hnp := ht.np
  have hch := henv.ch
  have hFF := henv.hF
  rw [← hz]
  obtain ⟨A, ca, rfl, hc1, hc2⟩ := hch.mdl.bat.shape
  obtain ⟨A1, ca1, rfl, hc3, hc4⟩ := hch.mdl.bow.shape
  obtain ⟨A2, ca2, rfl, hc5, hc6⟩ := hch.bow.shape
  obtain ⟨A3, ca3, rfl, hc7, hc8⟩ := hch.ord.shape
  have hsol := SolV.new (s := s) henv hown hkn
  have HSOL := Lib.hid hsol
  have kend := fun W (hW : ChAt W (· < W.heap.size) (.slice A c.mdl.bats.length ca) (.slice A1 c.mdl.bows.length ca1) (.slice A2 c.bows.length ca2) (.slice A3 c.ord.length ca3) c) => or_ended c s _ _ _ _ W hW
  have kvac := fun W => or_vacant s W
  have kpow := fun W (hW : ChAt W (· < W.heap.size) (.slice A c.mdl.bats.length ca) (.slice A1 c.mdl.bows.length ca1) (.slice A2 c.bows.length ca2) (.slice A3 c.ord.length ca3) c) => or_power c s _ _ _ _ W hW ht hs
  unfold chV at kend kpow ⊢
  have hwon := fun h => vO_won (c := c) (s := s) h
  have hlost := fun h h2 => vO_lost (c := c) (s := s) h h2
  obtain ⟨Q, hQ⟩ : ∃ q, q = (if rankO c s % 2 = 1 then 6 else 16) * K := ⟨_, rfl⟩
  rw [← hQ] at hN ⊢
  have tok0 : True := trivial
  by_cases h0 : s.need = 0
  · have hw0 := hwon h0
    rw [← hz] at hw0
    rw [← hw0] at kpow
    have KP := Lib.hid kpow
    have e0 : (s.need == 0) = true := beq_iff_eq.2 h0
    obtain ⟨ball, need, str, par, wait⟩ := s
    unfold osV at KP ⊢
    dsimp only at e0
    obtain ⟨y0, y1, y2, y3, y4, y5, y6, t0, t1, t2, t3, t4⟩ := HSOL.out.cells
    dsimp only at KP t0 t1 t2 t3 t4
    clear kend kvac kpow hwon hlost hw0 h0 hz hbd hp16 hlook henv hown hkn hs hch hFF hQ hsol ht y0 y1 y2 y3 y4 y5 y6 t0 t1 t2 t3 t4
    go_enter Tryz.func52, Tryz.ntmps52
    go_wp2_with (clear tok0; go_at_call 78; refine (KP.out _ HSOL.out.chb).mono ?_; rintro e w2 ⟨rfl, hb2⟩; have HS2 := Lib.hid (HSOL.out.below hb2); clear hb2; have tok1 : True := trivial)
    go_ret2
    exact ⟨rfl, HS2.out.only, by obtain ⟨D2, h1, h2, h3⟩ := HS2.out.vals; exact ⟨D2, h1.mono (by omega), h2, h3⟩⟩
  have e0 : (s.need == 0) = false := beq_eq_false_iff_ne.2 h0
  by_cases h1 : s.ball = c.bows.length
  · have hl := hlost h0 h1
    rw [← hz] at hl
    have hend : endO c s = true := by unfold endO; simp [h1]
    rw [hend] at kend
    have KE := Lib.hid kend
    obtain ⟨ball, need, str, par, wait⟩ := s
    unfold osV at KE ⊢
    dsimp only at e0 KE
    subst hl
    clear kend kvac kpow hwon hlost h0 h1 hz hbd hp16 hlook henv hown hkn hs hch hFF hQ hsol ht hend
    go_enter Tryz.func52, Tryz.ntmps52
    go_wp2_with (clear tok0; go_at_call 56; refine (KE.out _ HSOL.out.chb).mono ?_; rintro e w2 ⟨rfl, hb2⟩; have HS2 := Lib.hid (HSOL.out.below hb2); clear hb2; have tok1 : True := trivial)
    go_ret2
    exact ⟨rfl, HS2.out.only, by obtain ⟨D2, h1, h2, h3⟩ := HS2.out.vals; exact ⟨D2, h1.mono (by omega), h2, h3⟩⟩
  have hend : endO c s = false := by unfold endO; simp [h0, h1]
  rw [hend] at kend
  have KE := Lib.hid kend
  clear hwon hlost kpow
  cases hv : vacO s
  · -- a ball is bowled
    rw [hv] at kvac
    have KV := Lib.hid kvac
    have kmv := fun W (hW : ChAt W (· < W.heap.size) (.slice A c.mdl.bats.length ca) (.slice A1 c.mdl.bows.length ca1) (.slice A2 c.bows.length ca2) (.slice A3 c.ord.length ca3) c) => or_moves c s _ _ _ _ W hW ht.ok hs h1 hv
    obtain ⟨_, _, _, _, _, _, _, _, _, _, _, _, _, _, _, hd⟩ := mvO_at ht.ok hs h1 hv
    have hrun := vO_run ht.ok hs h0 h1 hv
    rw [← hz] at hrun
    obtain ⟨l, hle⟩ : ∃ l, mvO c s = l := ⟨_, rfl⟩
    rw [hle] at hd hrun kmv
    have hok := checkD_ok hd
    have hlen : l.length ≤ 16 := hok.len.2
    have hoe : ∀ (k : Nat) (hk : k < l.length), OkO l[k] := fun k hk => hok.each _ (List.getElem_mem hk)
    have kstep := fun k (hk : k < l.length) W => or_step c s l[k] A A1 A2 A3 ca ca1 ca2 ca3 W ht hs h1 hv ⟨(hoe k hk).r0, (hoe k hk).r7⟩
    have krec := fun k (hk : k < l.length) N' D' W => hlook (stepO c s l[k]) (rank_step hs h1 hv (hoe k hk).r0).1 (by have := (rank_step hs h1 hv (hoe k hk).r0).2; omega) N' D' W
    have hprod : ∀ (k : Nat) (hk : k < l.length), 0 ≤ l[k].wt * vO c (stepO c s l[k]) ∧ l[k].wt * vO c (stepO c s l[k]) ≤ 281474976710656 := fun k hk => by
      obtain ⟨k1, k2, _⟩ := stepO_ok hs h1 hv (hoe k hk).r0
      have h8 := ht.nb
      have h9 := hs.ball
      exact prod_bd (n := leftO c (stepO c s l[k])) (by unfold leftO; rw [k2]; omega) ⟨(hoe k hk).w1, (hoe k hk).w16⟩ (vO_bd ht _ _ k1 rfl)
    have hsum : ∀ (k : Nat) (hk : k < l.length) (sm : Int), sm = sumI ((l.take k).map fun o => o.wt * vO c (stepO c s o)) → sm + l[k].wt * vO c (stepO c s l[k]) = sumI ((l.take (k + 1)).map fun o => o.wt * vO c (stepO c s o)) := fun k hk sm h => by
      rw [h, sum_take (fun o : Otc => o.wt * vO c (stepO c s o)) hk]
    have hK : 16 * K ≤ Q := by
      have hpar : rankO c s % 2 = 0 := by unfold rankO; rw [hv]; simp
      rw [hQ, if_neg (by omega)]; exact Nat.le_refl _
    have KMV := Lib.hid kmv
    have KSTEP := Lib.hid kstep
    have KREC := Lib.hid krec
    have HPR := Lib.hid hprod
    have HSUM := Lib.hid hsum
    have HFIN := Lib.hid hrun.symm
    obtain ⟨ball, need, str, par, wait⟩ := s
    unfold osV at KE KV KMV KSTEP KREC ⊢
    dsimp only at e0 KE KV KMV KSTEP KREC
    clear kend kvac kmv kstep krec hprod hsum hrun hd hok hoe hle h0 h1 hz hbd hp16 hlook henv hown hkn hs hch hFF hQ hsol ht hend hv
    go_enter Tryz.func52, Tryz.ntmps52
    go_wp2_with (first
      | (clear tok0; go_at_call 56; refine (KE.out _ HSOL.out.chb).mono ?_; rintro e w2 ⟨rfl, hb2⟩; have HS2 := Lib.hid (HSOL.out.below hb2); obtain ⟨y0, y1, y2, y3, y4, y5, y6, t0, t1, t2, t3, t4⟩ := HS2.out.cells; dsimp only at t0 t1 t2 t3 t4; clear hb2; have tok1 : True := trivial)
      | (clear tok1; go_at_call 55; refine (KV.out _).mono ?_; rintro e w3 ⟨rfl, hb2⟩; have HS3 := Lib.hid (HS2.out.below hb2); clear y0 y1 y2 y3 y4 y5 y6 t0 t1 t2 t3 t4; obtain ⟨y0, y1, y2, y3, y4, y5, y6, t0, t1, t2, t3, t4⟩ := HS3.out.cells; dsimp only at t0 t1 t2 t3 t4; clear hb2; have tok2 : True := trivial)
      | (clear tok2; go_at_call 79; refine (KMV.out _ HS3.out.chb).mono ?_; rintro e w4 ⟨A4, n4, k4, rfl, hb3, hs3⟩; obtain ⟨Az, kz, hze, hz1, hz2⟩ := hs3.shape; have hn4 : n4 = l.length := (by injection hze); subst hn4; have HS4 := Lib.hid (HS3.out.below hb3); have HL4 := Lib.hid (hs3.keep (G := fun x => x < w4.heap.size ∧ x ≠ b) elOtc_good (Same.refl _ _) fun x hx => ⟨hx.2, by have := HS3.out.blt; have := HS3.out.only.size; omega⟩); clear y0 y1 y2 y3 y4 y5 y6 t0 t1 t2 t3 t4; obtain ⟨y0, y1, y2, y3, y4, y5, y6, t0, t1, t2, t3, t4⟩ := HS4.out.cells; dsimp only at t0 t1 t2 t3 t4; clear hb3 hs3 hze hz1 hz2; have tok3 : True := trivial))
    go_loopw [8, 61] (fun v i wr => ∃ (k : Nat) (sm : Int), k ≤ l.length ∧ i = .int .i64 k ∧ v = .int .i64 sm ∧ 0 ≤ sm ∧ sm ≤ 281474976710656 * k ∧ Hid (SolV w wr F b g0 g2 (N + k * K) D c (.slice A c.mdl.bats.length ca) (.slice A1 c.mdl.bows.length ca1) (.slice A2 c.bows.length ca2) (.slice A3 c.ord.length ca3) ⟨ball, need, str, par, wait⟩) ∧ Hid (Sl 3 elOtc wr (fun x => x < wr.heap.size ∧ x ≠ b) (.slice A4 l.length k4) l) ∧ Hid (sm = sumI ((l.take k).map fun o => o.wt * vO c (stepO c ⟨ball, need, str, par, wait⟩ o)))) (fun _ i _ => l.length - (intOf i).toNat)
    case atStart => exact ⟨0, 0, Nat.zero_le _, rfl, rfl, by omega, by omega, Lib.hid (by rw [Nat.zero_mul]; exact HS4.out), HL4, Lib.hid rfl⟩
    case round =>
      clear HS2 HS3 HS4 HL4 y0 y1 y2 y3 y4 y5 y6 t0 t1 t2 t3 t4
      obtain ⟨k, sm, hk, rfl, rfl, hs0, hs1, HS, HL, hss⟩ := hrel
      by_cases hlt : k < l.length
      · obtain ⟨b0, o, rfl, hbl, j0, j1, j2⟩ := otc_at HL.out hlt
        have hp := HPR.out k hlt
        have hst := HSUM.out k hlt sm hss.out
        have kS := KSTEP.out k hlt
        have kR := KREC.out k hlt
        obtain ⟨s', hs'⟩ : ∃ x, x = stepO c ⟨ball, need, str, par, wait⟩ l[k] := ⟨_, rfl⟩
        rw [← hs'] at hp hst
        simp only [← hs'] at kS kR
        obtain ⟨vv, hvv⟩ : ∃ x, x = vO c s' := ⟨_, rfl⟩
        rw [← hvv] at hp hst
        simp only [← hvv] at kR
        obtain ⟨⟨pr, pw, pt⟩, hp'⟩ : ∃ p, p = l[k] := ⟨_, rfl⟩
        rw [← hp'] at j0 j1 j2 hp hst
        simp only [← hp'] at kS
        dsimp only at j0 j1 j2 hp hst kS
        obtain ⟨hp0, hp1⟩ := hp
        have hkq : k * K + K ≤ Q := by have := Nat.mul_le_mul_right K (show k + 1 ≤ 16 by omega); rw [Nat.add_mul, Nat.one_mul] at this; omega
        have HST := Lib.hid hst
        have KS := Lib.hid kS
        have KR := Lib.hid kR
        have HKQ := Lib.hid hkq
        clear hst kS kR hs' hvv hp' hss hkq
        have HSA := Lib.hid (HS.out.alloc (.cells #[.int .i64 pr, .bool pw, .int .i64 pt] 82))
        have HLA := Lib.hid (sl_only HL.out (Only.of_below (g := b) (Below.alloc (Below.refl wr.heap.size wr) (Nat.le_refl _) (.cells #[.int .i64 pr, .bool pw, .int .i64 pt] 82))))
        have HCA := Lib.hid (Blk.new wr 82 #[.int .i64 pr, .bool pw, .int .i64 pt])
        obtain ⟨y0, y1, y2, y3, y4, y5, y6, t0, t1, t2, t3, t4⟩ := HS.out.cells; dsimp only at t0 t1 t2 t3 t4
        have hl1 := HS.out.box.lt
        have hl2 := HS.out.st.lt
        have hwb : b < wr.heap.size := by have := HS.out.blt; have := HS.out.only.size; omega
        have tok5 : True := trivial
        go_wp2_with (first
          | (clear tok5; go_at_call 80; refine (KS.out _).mono ?_; rintro e w5 ⟨rfl, hb5⟩; have HS5 := Lib.hid (HSA.out.below hb5); have HL5 := Lib.hid (sl_only HLA.out (Only.of_below hb5)); have HC5 := Lib.hid (HCA.out.below hb5 HCA.out.lt); clear y0 y1 y2 y3 y4 y5 y6 t0 t1 t2 t3 t4; obtain ⟨y0, y1, y2, y3, y4, y5, y6, t0, t1, t2, t3, t4⟩ := HS5.out.cells; dsimp only at t0 t1 t2 t3 t4; have u0 := HC5.out.cell 0; have u1 := HC5.out.cell 1; have u2 := HC5.out.cell 2; clear hb5 hl1 hl2; have tok6 : True := trivial)
          | (clear tok6; go_at_call 53; obtain ⟨D5, hv5, hk5, hg5⟩ := HS5.out.vals; refine (KR.out _ D5 _ HS5.out.env hv5 hk5 (by have := HKQ.out; omega)).mono ?_; rintro e w6 ⟨rfl, ho6, hv6⟩; have HS6 := Lib.hid (show SolV w w6 F b g0 g2 (N + (k + 1) * K) D c (.slice A c.mdl.bats.length ca) (.slice A1 c.mdl.bows.length ca1) (.slice A2 c.bows.length ca2) (.slice A3 c.ord.length ca3) ⟨ball, need, str, par, wait⟩ from HS5.out.into ho6 (by obtain ⟨D7, h1, h2, h3⟩ := hv6; exact ⟨D7, h1.mono (by rw [Nat.add_mul]; omega), h2, hg5.trans h3⟩)); have HL6 := Lib.hid (sl_only HL5.out ho6); have HC6 := Lib.hid (HC5.out.grown ho6 (by intro e; injection e with e; omega)); clear y0 y1 y2 y3 y4 y5 y6 t0 t1 t2 t3 t4; clear u0 u1 u2; obtain ⟨y0, y1, y2, y3, y4, y5, y6, t0, t1, t2, t3, t4⟩ := HS6.out.cells; dsimp only at t0 t1 t2 t3 t4; have u0 := HC6.out.cell 0; have u1 := HC6.out.cell 1; have u2 := HC6.out.cell 2; clear ho6 hv6 hv5 hk5 hg5; have tok7 : True := trivial))
        go_roundw
        case rel => exact ⟨k + 1, sm + pt * vv, by omega, by go_num, by first | rfl | rw [IntWalk.i64_in (pt * vv) (by omega), IntWalk.i64_in (sm + pt * vv) (by omega)], by omega, by push_cast; omega, HS6, HL6, HST⟩
        case measure => simp [intOf]; omega
      · obtain rfl : k = l.length := by omega
        have hs2 := hss.out
        rw [List.take_of_length_le (Nat.le_refl _), HFIN.out] at hs2
        subst hs2
        have hlq : l.length * K ≤ 16 * K := Nat.mul_le_mul_right K hlen
        clear hss
        go_wp2
        go_ret2
        exact ⟨rfl, HS.out.only, by obtain ⟨D2, h1, h2, h3⟩ := HS.out.vals; exact ⟨D2, h1.mono (by omega), h2, h3⟩⟩
  · -- somebody has to be sent
    rw [hv] at kvac
    have KV := Lib.hid kvac
    have hvc := vO_vac ht hs h0 h1 hv
    rw [← hz] at hvc
    have h16 := hs.w16
    have ksend := fun (i : Nat) (hi : i < c.ord.length) W => or_send s (i : Int) W h16 ⟨by omega, by omega⟩
    have krec := fun (i : Nat) (hi : i < c.ord.length) (hb : bitW s.wait i = true) N' D' W => hlook (sendO s i) (rank_send ht hs hv (i := i) ⟨by omega, by omega⟩ hb).1 (by have := (rank_send ht hs hv (i := i) ⟨by omega, by omega⟩ hb).2; omega) N' D' W
    have hvb : ∀ (i : Nat) (hi : i < c.ord.length) (hb : bitW s.wait i = true), 0 ≤ vO c (sendO s i) ∧ vO c (sendO s i) ≤ 281474976710656 := fun i hi hb => by
      obtain ⟨k1, _⟩ := sendO_ok ht hs hv (i := i) ⟨by omega, by omega⟩ hb
      have h5 := vO_bd ht _ _ k1 rfl
      have h6 := pow16_le (leftO_le ht k1)
      omega
    have hat := fun (i : Nat) (hb : bitW s.wait i = true) => bestF_at (f := fun i => vO c (sendO s i)) hb
    have hnt := fun (i : Nat) (hb : bitW s.wait i = false) => bestF_not (f := fun i => vO c (sendO s i)) hb
    have hK : 6 * K ≤ Q := by
      have hpar : rankO c s % 2 = 1 := by unfold rankO; rw [hv]; simp
      rw [hQ, if_pos hpar]; exact Nat.le_refl _
    obtain ⟨n, hn⟩ : ∃ n, n = c.ord.length := ⟨_, rfl⟩
    have HAT := Lib.hid hat
    have HNT := Lib.hid hnt
    have HVB := Lib.hid hvb
    have KSEND := Lib.hid ksend
    have KREC := Lib.hid krec
    have HFIN := Lib.hid hvc.symm
    obtain ⟨ball, need, str, par, wait⟩ := s
    unfold osV at KE KV KSEND KREC ⊢
    dsimp only at e0 KE KV KSEND KREC HAT HNT HVB h16
    obtain ⟨h16a, h16b⟩ := h16
    clear kend kvac ksend krec hat hnt hvb hvc h0 h1 hz hbd hp16 hlook henv hown hkn hs hch hFF hQ hsol ht hend hv
    go_enter Tryz.func52, Tryz.ntmps52
    go_wp2_with (first
      | (clear tok0; go_at_call 56; refine (KE.out _ HSOL.out.chb).mono ?_; rintro e w2 ⟨rfl, hb2⟩; have HS2 := Lib.hid (HSOL.out.below hb2); obtain ⟨y0, y1, y2, y3, y4, y5, y6, t0, t1, t2, t3, t4⟩ := HS2.out.cells; dsimp only at t0 t1 t2 t3 t4; clear hb2; have tok1 : True := trivial)
      | (clear tok1; go_at_call 55; refine (KV.out _).mono ?_; rintro e w3 ⟨rfl, hb2⟩; have HS3 := Lib.hid (HS2.out.below hb2); clear y0 y1 y2 y3 y4 y5 y6 t0 t1 t2 t3 t4; obtain ⟨y0, y1, y2, y3, y4, y5, y6, t0, t1, t2, t3, t4⟩ := HS3.out.cells; dsimp only at t0 t1 t2 t3 t4; clear hb2; have tok2 : True := trivial))
    go_loopw [8, 33] (fun v i wr => ∃ (k : Nat) (sm : Int), k ≤ c.ord.length ∧ i = .int .i64 k ∧ v = .int .i64 sm ∧ 0 ≤ sm ∧ sm ≤ 281474976710656 ∧ Hid (SolV w wr F b g0 g2 (N + k * K) D c (.slice A c.mdl.bats.length ca) (.slice A1 c.mdl.bows.length ca1) (.slice A2 c.bows.length ca2) (.slice A3 c.ord.length ca3) ⟨ball, need, str, par, wait⟩) ∧ Hid (sm = bestF (fun i => vO c (sendO ⟨ball, need, str, par, wait⟩ i)) wait k)) (fun _ i _ => c.ord.length - (intOf i).toNat)
    case atStart => exact ⟨0, 0, Nat.zero_le _, rfl, rfl, by omega, by omega, Lib.hid (by rw [Nat.zero_mul]; exact HS3.out), Lib.hid rfl⟩
    case round =>
      clear HS2 HS3 y0 y1 y2 y3 y4 y5 y6 t0 t1 t2 t3 t4
      obtain ⟨k, sm, hk, rfl, rfl, hs0, hs1, HS, hss⟩ := hrel
      obtain ⟨y0, y1, y2, y3, y4, y5, y6, t0, t1, t2, t3, t4⟩ := HS.out.cells; dsimp only at t0 t1 t2 t3 t4
      by_cases hlt : k < c.ord.length
      · have hk0 : (0 : Int) ≤ (k : Int) := by omega
        have hk16 : (k : Int) < 16 := by omega
        cases hbit : bitW wait k
        · have hst := HNT.out k hbit
          rw [← hss.out] at hst
          have HST := Lib.hid hst.symm
          have f1 : (bits .and .u16 (wait / 2 ^ k) 1 == 1) = false := hbit
          clear hst hss hbit
          go_wp2
          go_roundw
          case rel => exact ⟨k + 1, sm, by omega, by go_num, rfl, by omega, by omega, Lib.hid (HS.out.into (Only.refl _ _) (by obtain ⟨D7, h1, h2, h3⟩ := HS.out.vals; exact ⟨D7, h1.mono (by rw [Nat.add_mul]; omega), h2, h3⟩)), HST⟩
          case measure => simp [intOf]; omega
        · have hst := HAT.out k hbit
          rw [← hss.out] at hst
          have kS := KSEND.out k hlt
          have kR := KREC.out k hlt hbit
          have hp := HVB.out k hlt hbit
          obtain ⟨s', hs'⟩ : ∃ x, x = sendO ⟨ball, need, str, par, wait⟩ k := ⟨_, rfl⟩
          rw [← hs'] at hp hst
          simp only [← hs'] at kS kR
          obtain ⟨vv, hvv⟩ : ∃ x, x = vO c s' := ⟨_, rfl⟩
          rw [← hvv] at hp hst
          simp only [← hvv] at kR
          obtain ⟨hp0, hp1⟩ := hp
          have hkq : k * K + K ≤ Q := by have := Nat.mul_le_mul_right K (show k + 1 ≤ 6 by omega); rw [Nat.add_mul, Nat.one_mul] at this; omega
          have HST := Lib.hid hst.symm
          have KS := Lib.hid kS
          have KR := Lib.hid kR
          have HKQ := Lib.hid hkq
          have f1 : (bits .and .u16 (wait / 2 ^ k) 1 == 1) = true := hbit
          have hwb : b < wr.heap.size := by have := HS.out.blt; have := HS.out.only.size; omega
          clear hst kS kR hs' hvv hss hkq hbit
          have tok5 : True := trivial
          go_wp2_with (first
            | (clear tok5; go_at_call 57; refine (KS.out _).mono ?_; rintro e w5 ⟨rfl, hb5⟩; have HS5 := Lib.hid (HS.out.below hb5); clear y0 y1 y2 y3 y4 y5 y6 t0 t1 t2 t3 t4; obtain ⟨y0, y1, y2, y3, y4, y5, y6, t0, t1, t2, t3, t4⟩ := HS5.out.cells; dsimp only at t0 t1 t2 t3 t4; clear hb5; have tok6 : True := trivial)
            | (clear tok6; go_at_call 53; obtain ⟨D5, hv5, hk5, hg5⟩ := HS5.out.vals; refine (KR.out _ D5 _ HS5.out.env hv5 hk5 (by have := HKQ.out; omega)).mono ?_; rintro e w6 ⟨rfl, ho6, hv6⟩; have HS6 := Lib.hid (show SolV w w6 F b g0 g2 (N + (k + 1) * K) D c (.slice A c.mdl.bats.length ca) (.slice A1 c.mdl.bows.length ca1) (.slice A2 c.bows.length ca2) (.slice A3 c.ord.length ca3) ⟨ball, need, str, par, wait⟩ from HS5.out.into ho6 (by obtain ⟨D7, h1, h2, h3⟩ := hv6; exact ⟨D7, h1.mono (by rw [Nat.add_mul]; omega), h2, hg5.trans h3⟩)); clear y0 y1 y2 y3 y4 y5 y6 t0 t1 t2 t3 t4; obtain ⟨y0, y1, y2, y3, y4, y5, y6, t0, t1, t2, t3, t4⟩ := HS6.out.cells; dsimp only at t0 t1 t2 t3 t4; clear ho6 hv6 hv5 hk5 hg5; have tok7 : True := trivial))
          go_roundw
          case rel => exact ⟨k + 1, max sm vv, by omega, by go_num, by first | rfl | (rw [Int.max_comm]), by omega, by omega, HS6, HST⟩
          case measure => simp [intOf]; omega
      · obtain rfl : k = c.ord.length := by omega
        have hs2 := hss.out
        rw [HFIN.out] at hs2
        subst hs2
        have hlq : c.ord.length * K ≤ 6 * K := Nat.mul_le_mul_right K (by omega)
        clear hss
        go_wp2
        go_ret2
        exact ⟨rfl, HS.out.only, by obtain ⟨D2, h1, h2, h3⟩ := HS.out.vals; exact ⟨D2, h1.mono (by omega), h2, h3⟩⟩
end Go.Proofs.YtjchapoggmipbaaGreatDoor

namespace Go.Proofs.YtjchapoggmipbaaGreatDoor
open Go.RowKit Go.Maps

set_option maxRecDepth 100000 in
set_option maxHeartbeats 4000000 in
theorem or_look (c : Chs) (m K : Nat) (ih : ∀ k, k < m → SolveO 21 c k) (hK : ∀ k, k < m → cntR k ≤ K) (F : Nat → Prop) (b g0 g2 : Nat) (bv wv pv ov : Value) : LookO 53 F b g0 g2 K m c bv wv pv ov := by
  intro x hx hr N D W henv hown hkn hN
  have hch := henv.ch
  obtain ⟨A, ca, rfl, hc1, hc2⟩ := hch.mdl.bat.shape
  obtain ⟨A1, ca1, rfl, hc3, hc4⟩ := hch.mdl.bow.shape
  obtain ⟨A2, ca2, rfl, hc5, hc6⟩ := hch.bow.shape
  obtain ⟨A3, ca3, rfl, hc7, hc8⟩ := hch.ord.shape
  have hb1 : Below W.heap.size W (W.alloc (.cells #[.int .i64 x.ball, .int .i64 x.need, .int .i64 x.str, .int .i64 x.par, .int .u16 x.wait] 47)) := Below.alloc (Below.refl _ _) (Nat.le_refl _) _
  have he1 := henv.only (Only.of_below (g := b) hb1)
  have hKx := hK _ hr
  have kS := (ih (rankO c x) hr x rfl hx _ _ _ _ F b N D _ he1.ch he1.hF (ovals_below hown hb1) hkn (by omega)).mono fun e w2 ⟨h1, h2, D', h3, h4, h5, h6⟩ => (⟨h1, (Only.of_below hb1).trans h2, D', h3.mono (show N + cntR (rankO c x) ≤ N + K by omega), h4, h5⟩ : e = Ending.returned (.int .i64 (vO c x)) ∧ Only b W w2 ∧ ∃ D', ValsO w2 b (N + K) D' ∧ KnownO c D' ∧ GrewO D D')
  unfold chV osV at kS
  unfold osV
  have hl0 := henv.t0.lt
  have hl2 := henv.m2.lt
  have y0 : W.cell? ⟨g0, 0, none⟩ = some (.slice A c.mdl.bats.length ca) := henv.t0.cell 0
  have y1 : W.cell? ⟨g0, 1, none⟩ = some (.slice A1 c.mdl.bows.length ca1) := henv.t0.cell 1
  have y2 : W.cell? ⟨g0, 2, none⟩ = some (.slice A2 c.bows.length ca2) := henv.t0.cell 2
  have y3 : W.cell? ⟨g0, 3, none⟩ = some (.int .i64 c.over) := henv.t0.cell 3
  have y4 : W.cell? ⟨g0, 4, none⟩ = some (.int .i64 c.done) := henv.t0.cell 4
  have y5 : W.cell? ⟨g0, 5, none⟩ = some (.int .i64 c.need) := henv.t0.cell 5
  have y6 : W.cell? ⟨g0, 6, none⟩ = some (.slice A3 c.ord.length ca3) := henv.t0.cell 6
  have y7 : W.cell? ⟨g2, 0, none⟩ = some (.map (some b)) := henv.m2.cell 0
  obtain ⟨v, hv⟩ : ∃ v, v = vO c x := ⟨_, rfl⟩
  rw [← hv] at kS ⊢
  obtain ⟨x0, x1, x2, x3, x4⟩ := x
  dsimp only at kS ⊢
  have KS := Lib.hid kS
  clear kS hv hb1 he1 hKx hch henv hown hkn hN hr hx ih hK
  go_enter Tryz.func53, Tryz.ntmps53
  go_wp2_with (go_at_call 21; refine KS.out.mono ?_; rintro e w2 ⟨rfl, h2, h3⟩; have H2 := Lib.hid h2; have H3 := Lib.hid h3; clear h2 h3)
  go_ret2
  exact ⟨rfl, H2.out, H3.out⟩
/-- A task, a state and a map's variable boxed in solve's frame, the map beside them. -/
structure SolW (w W : World) (F : Nat → Prop) (b N : Nat) (D0 : DataW Unit) (c : Chs) (bv wv pv ov : Value) (s : Ost) : Prop where
  only : Only b w W
  st : Blk W (w.heap.size + 1) 47 #[.int .i64 s.ball, .int .i64 s.need, .int .i64 s.str, .int .i64 s.par, .int .u16 s.wait]
  blt : b < w.heap.size
  env : EnvO W F b w.heap.size (w.heap.size + 1 + 1) c bv wv pv ov
  vals : ∃ D, ValsO W b N D ∧ KnownO c D ∧ GrewO D0 D
section
variable {w W W' : World} {F : Nat → Prop} {b N N' : Nat} {D0 : DataW Unit} {c : Chs} {bv wv pv ov : Value} {s : Ost}
theorem SolW.into (h : SolW w W F b N D0 c bv wv pv ov s) (ho : Only b W W') (hv : ∃ D, ValsO W' b N' D ∧ KnownO c D ∧ GrewO D0 D) : SolW w W' F b N' D0 c bv wv pv ov s :=
  ⟨h.only.trans ho, h.st.grown ho (by intro e; injection e with e; have := h.blt; omega), h.blt, h.env.only ho, hv⟩
theorem SolW.cells (h : SolW w W F b N D0 c bv wv pv ov s) : W.cell? ⟨w.heap.size, 0, none⟩ = some bv ∧ W.cell? ⟨w.heap.size, 1, none⟩ = some wv ∧ W.cell? ⟨w.heap.size, 2, none⟩ = some pv ∧ W.cell? ⟨w.heap.size, 3, none⟩ = some (.int .i64 c.over) ∧ W.cell? ⟨w.heap.size, 4, none⟩ = some (.int .i64 c.done) ∧ W.cell? ⟨w.heap.size, 5, none⟩ = some (.int .i64 c.need) ∧ W.cell? ⟨w.heap.size, 6, none⟩ = some ov ∧
    W.cell? ⟨w.heap.size + 1, 0, none⟩ = some (.int .i64 s.ball) ∧ W.cell? ⟨w.heap.size + 1, 1, none⟩ = some (.int .i64 s.need) ∧ W.cell? ⟨w.heap.size + 1, 2, none⟩ = some (.int .i64 s.str) ∧ W.cell? ⟨w.heap.size + 1, 3, none⟩ = some (.int .i64 s.par) ∧ W.cell? ⟨w.heap.size + 1, 4, none⟩ = some (.int .u16 s.wait) ∧ W.cell? ⟨w.heap.size + 1 + 1, 0, none⟩ = some (.map (some b)) :=
  ⟨h.env.t0.cell 0, h.env.t0.cell 1, h.env.t0.cell 2, h.env.t0.cell 3, h.env.t0.cell 4, h.env.t0.cell 5, h.env.t0.cell 6, h.st.cell 0, h.st.cell 1, h.st.cell 2, h.st.cell 3, h.st.cell 4, h.env.m2.cell 0⟩
theorem SolW.new {D : DataW Unit} (hch : ChAt w F bv wv pv ov c) (hF : ∀ x, F x → x < w.heap.size ∧ x ≠ b) (h1 : ValsO w b N D) (h2 : KnownO c D) : SolW w (((w.alloc (.cells #[bv, wv, pv, .int .i64 c.over, .int .i64 c.done, .int .i64 c.need, ov] 28)).alloc (.cells #[.int .i64 s.ball, .int .i64 s.need, .int .i64 s.str, .int .i64 s.par, .int .u16 s.wait] 47)).alloc (.cells #[.map (some b)] 70)) F b N D c bv wv pv ov s ∧ ValsO (((w.alloc (.cells #[bv, wv, pv, .int .i64 c.over, .int .i64 c.done, .int .i64 c.need, ov] 28)).alloc (.cells #[.int .i64 s.ball, .int .i64 s.need, .int .i64 s.str, .int .i64 s.par, .int .u16 s.wait] 47)).alloc (.cells #[.map (some b)] 70)) b N D := by
  have hx := OSB.new w c bv wv pv ov s
  have hb := hx.bel.alloc hx.bel.size (.cells #[.map (some b)] 70)
  have hm := Blk.new ((w.alloc (.cells #[bv, wv, pv, .int .i64 c.over, .int .i64 c.done, .int .i64 c.need, ov] 28)).alloc (.cells #[.int .i64 s.ball, .int .i64 s.need, .int .i64 s.str, .int .i64 s.par, .int .u16 s.wait] 47)) 70 #[.map (some b)]
  rw [World.size_alloc, World.size_alloc] at hm
  have ho := Only.of_below (g := b) hb
  have hlt := h1.lt
  have hv := ovals_below h1 hb
  exact ⟨⟨ho, hx.st.alloc _, hlt, ⟨hch.keep (ho.same hF) fun _ h => h, fun x hx => ⟨Nat.lt_of_lt_of_le (hF x hx).1 ho.size, (hF x hx).2⟩, hx.box.alloc _, hm, by omega, by omega⟩, D, hv, h2, GrewO.refl _⟩, hv⟩
end
theorem cnt_fit {m K N : Nat} (h : (m = 0 ∧ K = 0) ∨ (∃ k, m = k + 1 ∧ K = cntR k)) : (if m % 2 = 1 then 6 else 16) * K + 1 ≤ cntR m := by
  rcases h with ⟨rfl, rfl⟩ | ⟨k, rfl, rfl⟩
  · exact Nat.le_refl _
  · rw [cntR]
    by_cases h : k % 2 = 0
    · rw [if_pos h, if_pos (by omega)]; omega
    · rw [if_neg h, if_neg (by omega)]; omega
set_option maxRecDepth 100000 in
set_option maxHeartbeats 4000000 in
theorem or_solve_at (c : Chs) (ht : OkT c) (m : Nat) (ih : ∀ k, k < m → SolveO 21 c k) : SolveO 21 c m := by
  intro s hm hs bv wv pv ov F b N D w h hF hown hkn hN
  have hkey := okey_of (hs.smol ht)
  obtain ⟨z, hz⟩ : ∃ z, z = vO c s := ⟨_, rfl⟩
  have hbd := vO_bd ht _ s hs rfl
  have hp16 := pow16_le (leftO_le ht hs)
  have hz0 : 0 ≤ z ∧ z ≤ 281474976710656 := by rw [hz]; omega
  have hit : Maps.has D (keyOs s) = true → D.atKey (keyOs s) (.lit (.int .i64 0)) = .lit (.int .i64 z) := fun hh => by rw [hz]; exact hkn s hs hh
  have hput : ∀ (D2 : DataW Unit), KnownO c D2 → IsMap D2 → GrewO D D2 → KnownO c (D2.put (keyOs s) (.lit (.int .i64 z))) ∧ GrewO D (D2.put (keyOs s) (.lit (.int .i64 z))) ∧ Maps.has (D2.put (keyOs s) (.lit (.int .i64 z))) (keyOs s) = true := fun D2 h1 h2 h3 => ⟨by rw [hz]; exact h1.put h2 ht hs, h3.trans (GrewO.put h2 s _), has_put_same h2 (okey_lit s) _⟩
  obtain ⟨K, hK1, hK2⟩ : ∃ K, ((m = 0 ∧ K = 0) ∨ (∃ k, m = k + 1 ∧ K = cntR k)) ∧ ∀ k, k < m → cntR k ≤ K := by
    cases m with
    | zero => exact ⟨0, .inl ⟨rfl, rfl⟩, fun k hk => by omega⟩
    | succ k => exact ⟨cntR k, .inr ⟨k, rfl, rfl⟩, fun j hj => cntR_mono (by omega)⟩
  have hfit := cnt_fit (N := N) hK1
  obtain ⟨A, ca, rfl, hc1, hc2⟩ := h.mdl.bat.shape
  obtain ⟨A1, ca1, rfl, hc3, hc4⟩ := h.mdl.bow.shape
  obtain ⟨A2, ca2, rfl, hc5, hc6⟩ := h.bow.shape
  obtain ⟨A3, ca3, rfl, hc7, hc8⟩ := h.ord.shape
  obtain ⟨hsw, hv0⟩ := SolW.new (s := s) h hF hown hkn
  have hval := fun W (he : EnvO W F b w.heap.size (w.heap.size + 1 + 1) c (.slice A c.mdl.bats.length ca) (.slice A1 c.mdl.bows.length ca1) (.slice A2 c.bows.length ca2) (.slice A3 c.ord.length ca3)) D2 (h1 : ValsO W b N D2) (h2 : KnownO c D2) => or_value c ht s hs F b w.heap.size (w.heap.size + 1 + 1) K N D2 _ _ _ _ W (by rw [hm]; exact or_look c m K ih hK2 F b _ _ _ _ _ _) he h1 h2 (by rw [hm]; omega)
  rw [hm, ← hz] at hval
  obtain ⟨Q, hQ⟩ : ∃ q, q = (if m % 2 = 1 then 6 else 16) * K := ⟨_, rfl⟩
  rw [← hQ] at hfit hval
  obtain ⟨CC, hCC⟩ : ∃ q, q = cntR m := ⟨_, rfl⟩
  rw [← hCC] at hfit hN ⊢
  obtain ⟨NN, hNN⟩ : ∃ q, q = N + Q := ⟨_, rfl⟩
  rw [← hNN] at hval
  have hN9 : NN + 1 ≤ N + CC := by omega
  have hN8 : NN < 2000000000000000000 := by omega
  have hN7 : N ≤ N + CC := by omega
  rw [← hz]
  unfold chV at hval ⊢
  have HW := Lib.hid hsw
  have HV0 := Lib.hid hv0
  have HPUT := Lib.hid hput
  have HKN := Lib.hid hkn
  cases hh : Maps.has D (keyOs s)
  case true =>
    have HIT := Lib.hid (hit hh)
    have HH := Lib.hid hh
    obtain ⟨ball, need, str, par, wait⟩ := s
    unfold osV at hkey ⊢
    dsimp only at hkey ⊢
    have HKEY := Lib.hid hkey
    clear hkey hit hput hkn hval ih hz hbd hp16 hs hm hK1 hK2 hfit hQ hCC hNN hsw hv0 hown h hF ht hN hN8 hN9
    go_enter Tryz.func21, Tryz.ntmps21
    go_wp2_with (at_lookup; refine wpList_lookup_own_ok_int _ rfl _ _ 70 rfl 47 2 .i64 law45 Tryz.underlying70 Tryz.underlying2 (zero_i64 _) b N D rfl HV0.out _ _ rfl HKEY.out ?_; intro cc hat hwc; have HC := Lib.hid (show cc = z from by have := hat.symm.trans HIT.out; injection this with this; injection this); clear hat hwc)
    go_ret
    exact ⟨ret_i HC.out, HW.out.only, D, HV0.out.mono hN7, HKN.out, GrewO.refl _, HH.out⟩
  case false =>
    obtain ⟨ball, need, str, par, wait⟩ := s
    unfold osV at hkey hval ⊢
    dsimp only at hkey hval ⊢
    have HKEY := Lib.hid hkey
    have HVAL := Lib.hid hval
    obtain ⟨y0, y1, y2, y3, y4, y5, y6, t0, t1, t2, t3, t4, t5⟩ := HW.out.cells
    dsimp only at t0 t1 t2 t3 t4
    have tok0 : True := trivial
    clear hkey hit hput hkn hval ih hz hbd hp16 hs hm hK1 hK2 hfit hQ hCC hNN hsw hv0 hown h hF ht hN hN7 y0 y1 y2 y3 y4 y5 y6 t0 t1 t2 t3 t4 t5
    go_enter Tryz.func21, Tryz.ntmps21
    go_wp2_with (first
      | (at_lookup; refine wpList_lookup_own_ok_int _ rfl _ _ 70 rfl 47 2 .i64 law45 Tryz.underlying70 Tryz.underlying2 (zero_i64 _) b N D rfl HV0.out _ _ rfl HKEY.out ?_; intro cc hat hwc; clear hat hwc)
      | (clear tok0; go_at_call 52; refine (HVAL.out _ HW.out.env D HV0.out HKN.out).mono ?_; rintro e w2 ⟨rfl, ho2, hv2⟩; have HW2 := Lib.hid (show SolW w w2 F b NN D c (.slice A c.mdl.bats.length ca) (.slice A1 c.mdl.bows.length ca1) (.slice A2 c.bows.length ca2) (.slice A3 c.ord.length ca3) ⟨ball, need, str, par, wait⟩ from HW.out.into ho2 hv2); obtain ⟨y0, y1, y2, y3, y4, y5, y6, t0, t1, t2, t3, t4, t5⟩ := HW2.out.cells; dsimp only at t0 t1 t2 t3 t4; obtain ⟨D2, hv9, hk9, hg9⟩ := HW2.out.vals; have HV9 := Lib.hid hv9; have HK9 := Lib.hid hk9; have HG8 := Lib.hid hg9; clear ho2 hv2 hv9 hk9 hg9; have tok1 : True := trivial)
      | (at_mapUpdate; refine wpList_mapUpdate_own _ rfl _ _ _ 70 rfl 47 2 law45 Tryz.underlying70 _ b NN D2 rfl HV9.out (by unfold maxLen; omega) _ _ _ rfl rfl HKEY.out _ [] (plainElem_int Tryz.underlying2 (WalkArith.wf_i64 (by omega))) ?_; intro w9 hown9 hgrow9; have HG9 := Lib.hid hgrow9; have HO9 := Lib.hid hown9; clear hgrow9 hown9))
    go_ret
    exact ⟨rfl, HW2.out.only.trans HG9.out, _, HO9.out.mono hN9, HPUT.out _ HK9.out HV9.out.isMap HG8.out⟩
theorem or_solve (c : Chs) (ht : OkT c) (m : Nat) : SolveO 21 c m :=
  Nat.strongRecOn m fun m ih => or_solve_at c ht m ih
end Go.Proofs.YtjchapoggmipbaaGreatDoor

namespace Go.Proofs.YtjchapoggmipbaaGreatDoor
open Go.RowKit Go.Maps

/-- A task and a state boxed, a map beside them of which P holds. -/
structure SolF (w W : World) (F : Nat → Prop) (b N : Nat) (P : DataW Unit → Prop) (c : Chs) (bv wv pv ov : Value) (s : Ost) : Prop where
  only : Only b w W
  box : Blk W w.heap.size 28 #[bv, wv, pv, .int .i64 c.over, .int .i64 c.done, .int .i64 c.need, ov]
  st : Blk W (w.heap.size + 1) 47 #[.int .i64 s.ball, .int .i64 s.need, .int .i64 s.str, .int .i64 s.par, .int .u16 s.wait]
  blt : b < w.heap.size
  ch : ChAt W F bv wv pv ov c
  hF : ∀ x, F x → x < W.heap.size ∧ x ≠ b
  vals : ∃ D, ValsO W b N D ∧ KnownO c D ∧ P D
section
variable {w W W' : World} {F : Nat → Prop} {b N N' : Nat} {P P' : DataW Unit → Prop} {c : Chs} {bv wv pv ov : Value} {s : Ost}
theorem SolF.below (h : SolF w W F b N P c bv wv pv ov s) (hb : Below W.heap.size W W') : SolF w W' F b N P c bv wv pv ov s :=
  ⟨h.only.trans (Only.of_below hb), h.box.below hb h.box.lt, h.st.below hb h.st.lt, h.blt, h.ch.keep ((Only.of_below (g := b) hb).same h.hF) fun _ h => h, fun x hx => ⟨Nat.lt_of_lt_of_le (h.hF x hx).1 hb.size, (h.hF x hx).2⟩, let ⟨D, h1, h2, h3⟩ := h.vals; ⟨D, ovals_below h1 hb, h2, h3⟩⟩
theorem SolF.alloc (h : SolF w W F b N P c bv wv pv ov s) (o : Obj) : SolF w (W.alloc o) F b N P c bv wv pv ov s := h.below (Below.alloc (Below.refl _ _) (Nat.le_refl _) o)
theorem SolF.into (h : SolF w W F b N P c bv wv pv ov s) (ho : Only b W W') (hv : ∃ D, ValsO W' b N' D ∧ KnownO c D ∧ P' D) : SolF w W' F b N' P' c bv wv pv ov s :=
  ⟨h.only.trans ho, h.box.grown ho (by intro e; injection e with e; have := h.blt; omega), h.st.grown ho (by intro e; injection e with e; have := h.blt; omega), h.blt, h.ch.keep (ho.same h.hF) fun _ h => h, fun x hx => ⟨Nat.lt_of_lt_of_le (h.hF x hx).1 ho.size, (h.hF x hx).2⟩, hv⟩
theorem SolF.cells (h : SolF w W F b N P c bv wv pv ov s) : W.cell? ⟨w.heap.size, 0, none⟩ = some bv ∧ W.cell? ⟨w.heap.size, 1, none⟩ = some wv ∧ W.cell? ⟨w.heap.size, 2, none⟩ = some pv ∧ W.cell? ⟨w.heap.size, 3, none⟩ = some (.int .i64 c.over) ∧ W.cell? ⟨w.heap.size, 4, none⟩ = some (.int .i64 c.done) ∧ W.cell? ⟨w.heap.size, 5, none⟩ = some (.int .i64 c.need) ∧ W.cell? ⟨w.heap.size, 6, none⟩ = some ov ∧
    W.cell? ⟨w.heap.size + 1, 0, none⟩ = some (.int .i64 s.ball) ∧ W.cell? ⟨w.heap.size + 1, 1, none⟩ = some (.int .i64 s.need) ∧ W.cell? ⟨w.heap.size + 1, 2, none⟩ = some (.int .i64 s.str) ∧ W.cell? ⟨w.heap.size + 1, 3, none⟩ = some (.int .i64 s.par) ∧ W.cell? ⟨w.heap.size + 1, 4, none⟩ = some (.int .u16 s.wait) :=
  ⟨h.box.cell 0, h.box.cell 1, h.box.cell 2, h.box.cell 3, h.box.cell 4, h.box.cell 5, h.box.cell 6, h.st.cell 0, h.st.cell 1, h.st.cell 2, h.st.cell 3, h.st.cell 4⟩
theorem SolF.new {D : DataW Unit} (hch : ChAt w F bv wv pv ov c) (hF : ∀ x, F x → x < w.heap.size ∧ x ≠ b) (h1 : ValsO w b N D) (h2 : KnownO c D) (h3 : P D) : SolF w ((w.alloc (.cells #[bv, wv, pv, .int .i64 c.over, .int .i64 c.done, .int .i64 c.need, ov] 28)).alloc (.cells #[.int .i64 s.ball, .int .i64 s.need, .int .i64 s.str, .int .i64 s.par, .int .u16 s.wait] 47)) F b N P c bv wv pv ov s :=
  let hx := OSB.new w c bv wv pv ov s
  let ho := Only.of_below (g := b) hx.bel
  ⟨ho, hx.box, hx.st, h1.lt, hch.keep (ho.same hF) fun _ h => h, fun x hx => ⟨Nat.lt_of_lt_of_le (hF x hx).1 ho.size, (hF x hx).2⟩, D, ovals_below h1 hx.bel, h2, h3⟩
theorem SolF.chb (h : SolF w W F b N P c bv wv pv ov s) : ChAt W (· < W.heap.size) bv wv pv ov c := h.ch.keep (Same.refl _ _) fun x hx => (h.hF x hx).1
end
end Go.Proofs.YtjchapoggmipbaaGreatDoor

namespace Go.Proofs.YtjchapoggmipbaaGreatDoor
open Go.RowKit Go.Maps

theorem cntR16 : cntR 16 ≤ 20000000000000000 := by decide
theorem rank16 {c : Chs} {s : Ost} (ht : OkT c) (h : OkOs c s) (hv : vacO s = false) : rankO c s ≤ 16 := by
  have := ht.nb; have := h.ball
  unfold rankO leftO
  rw [hv]; simp; omega
/-- A valuing function, with one bound for all states in which both ends are taken. -/
def SolveK (f : FuncId) (c : Chs) : Prop := ∀ (s : Ost), OkOs c s → vacO s = false → ∀ (bv wv pv ov : Value) (F : Nat → Prop) (b N : Nat) (D : DataW Unit) (w : World), ChAt w F bv wv pv ov c → (∀ x, F x → x < w.heap.size ∧ x ≠ b) → ValsO w b N D → KnownO c D → N + cntR 16 ≤ 2000000000000000000 →
  Calls Tryz.prog f #[chV c bv wv pv ov, osV s, .map (some b)] w fun e w' => e = .returned (.int .i64 (vO c s)) ∧ Only b w w' ∧ ∃ D', ValsO w' b (N + cntR 16) D' ∧ KnownO c D'
theorem solveK_of {f : FuncId} {c : Chs} (ht : OkT c) (h : ∀ m, SolveO f c m) : SolveK f c := fun s hs hv bv wv pv ov F b N D w h1 h2 h3 h4 h5 => by
  have hr := cntR_mono (rank16 ht hs hv)
  refine (h _ s rfl hs bv wv pv ov F b N D w h1 h2 h3 h4 (by omega)).mono ?_
  rintro e w2 ⟨a1, a2, D7, a3, a4, _, _⟩
  exact ⟨a1, a2, D7, a3.mono (by omega), a4⟩
/-- A task and a state boxed, a map of the frame's own behind them. -/
structure SndO (w W : World) (b N : Nat) (c : Chs) (bv wv pv ov : Value) (s : Ost) : Prop where
  base : OSB w W w.heap.size c bv wv pv ov s
  hb : w.heap.size + 1 < b
  vals : ∃ D, ValsO W b N D ∧ KnownO c D
section
variable {w W W' : World} {b N N' : Nat} {c : Chs} {bv wv pv ov : Value} {s : Ost}
theorem SndO.below (h : SndO w W b N c bv wv pv ov s) (hb : Below W.heap.size W W') : SndO w W' b N c bv wv pv ov s := ⟨h.base.below hb, h.hb, let ⟨D, h1, h2⟩ := h.vals; ⟨D, ovals_below h1 hb, h2⟩⟩
theorem SndO.drew (h : SndO w W b N c bv wv pv ov s) : SndO w W.drew b N c bv wv pv ov s := h.below (Below.drew (Below.refl _ _))
theorem SndO.into (h : SndO w W b N c bv wv pv ov s) (ho : Only b W W') (hv : ∃ D, ValsO W' b N' D ∧ KnownO c D) : SndO w W' b N' c bv wv pv ov s := by
  have hbb := h.hb
  exact ⟨⟨h.base.bel.trans (ho.below (by omega) h.base.bel.size), h.base.box.grown ho (by intro e; injection e with e; omega), h.base.st.grown ho (by intro e; injection e with e; omega)⟩, h.hb, hv⟩
theorem SndO.cells (h : SndO w W b N c bv wv pv ov s) : W.cell? ⟨w.heap.size, 0, none⟩ = some bv ∧ W.cell? ⟨w.heap.size, 1, none⟩ = some wv ∧ W.cell? ⟨w.heap.size, 2, none⟩ = some pv ∧ W.cell? ⟨w.heap.size, 3, none⟩ = some (.int .i64 c.over) ∧ W.cell? ⟨w.heap.size, 4, none⟩ = some (.int .i64 c.done) ∧ W.cell? ⟨w.heap.size, 5, none⟩ = some (.int .i64 c.need) ∧ W.cell? ⟨w.heap.size, 6, none⟩ = some ov ∧
    W.cell? ⟨w.heap.size + 1, 0, none⟩ = some (.int .i64 s.ball) ∧ W.cell? ⟨w.heap.size + 1, 1, none⟩ = some (.int .i64 s.need) ∧ W.cell? ⟨w.heap.size + 1, 2, none⟩ = some (.int .i64 s.str) ∧ W.cell? ⟨w.heap.size + 1, 3, none⟩ = some (.int .i64 s.par) ∧ W.cell? ⟨w.heap.size + 1, 4, none⟩ = some (.int .u16 s.wait) := h.base.cells
theorem SndO.new (h : OSB w W w.heap.size c bv wv pv ov s) : SndO w (W.alloc (.map #[] 0)) W.heap.size 0 c bv wv pv ov s :=
  ⟨h.below (Below.alloc (Below.refl _ _) (Nat.le_refl _) _), h.st.lt, _, World.ownsMap_made W _ _ _, KnownO.none c⟩
theorem SndO.le (h : SndO w W b N c bv wv pv ov s) (hN : N ≤ N') : SndO w W b N' c bv wv pv ov s := ⟨h.base, h.hb, let ⟨D, h1, h2⟩ := h.vals; ⟨D, h1.mono hN, h2⟩⟩
end
end Go.Proofs.YtjchapoggmipbaaGreatDoor

namespace Go.Proofs.YtjchapoggmipbaaGreatDoor
open Go.RowKit Go.Maps

/-- A task boxed, the result's cells behind it. -/
structure Bs0 (w W : World) (c : Chs) (bv wv pv ov : Value) : Prop where
  bel : Below w.heap.size w W
  box : Blk W w.heap.size 28 #[bv, wv, pv, .int .i64 c.over, .int .i64 c.done, .int .i64 c.need, ov]
  res : Blk W (w.heap.size + 1) 41 #[.int .i64 0, .int .i64 0]
section
variable {w W W' : World} {c : Chs} {bv wv pv ov : Value}
theorem Bs0.below (h : Bs0 w W c bv wv pv ov) (hb : Below W.heap.size W W') : Bs0 w W' c bv wv pv ov := ⟨h.bel.trans (hb.mono h.bel.size), h.box.below hb h.box.lt, h.res.below hb h.res.lt⟩
theorem Bs0.cell7 (h : Bs0 w W c bv wv pv ov) : W.cell? ⟨w.heap.size, 0, none⟩ = some bv ∧ W.cell? ⟨w.heap.size, 1, none⟩ = some wv ∧ W.cell? ⟨w.heap.size, 2, none⟩ = some pv ∧ W.cell? ⟨w.heap.size, 3, none⟩ = some (.int .i64 c.over) ∧ W.cell? ⟨w.heap.size, 4, none⟩ = some (.int .i64 c.done) ∧ W.cell? ⟨w.heap.size, 5, none⟩ = some (.int .i64 c.need) ∧ W.cell? ⟨w.heap.size, 6, none⟩ = some ov :=
  ⟨h.box.cell 0, h.box.cell 1, h.box.cell 2, h.box.cell 3, h.box.cell 4, h.box.cell 5, h.box.cell 6⟩
theorem Bs0.rcell (h : Bs0 w W c bv wv pv ov) : W.cell? ⟨w.heap.size + 1, 0, none⟩ = some (.int .i64 0) ∧ W.cell? ⟨w.heap.size + 1, 1, none⟩ = some (.int .i64 0) ∧ W.frozen? ⟨w.heap.size + 1, 0, none⟩ = false ∧ W.frozen? ⟨w.heap.size + 1, 1, none⟩ = false := ⟨h.res.cell 0, h.res.cell 1, h.res.frozen 0, h.res.frozen 1⟩
theorem Bs0.new (w : World) (c : Chs) (bv wv pv ov : Value) : Bs0 w ((w.alloc (.cells #[bv, wv, pv, .int .i64 c.over, .int .i64 c.done, .int .i64 c.need, ov] 28)).alloc (.cells #[.int .i64 0, .int .i64 0] 41)) c bv wv pv ov := by
  have h1 := Blk.new w 28 #[bv, wv, pv, .int .i64 c.over, .int .i64 c.done, .int .i64 c.need, ov]
  exact ⟨below_two w _ _, h1.alloc _, blk_two w _ _ _⟩
theorem Blk.put2 {w : World} {g : Nat} {t : TypeId} {a b : Value} (h : Blk w g t #[a, b]) (x0 x1 : Value) : Blk ((w.setCell ⟨g, 0, none⟩ x0).setCell ⟨g, 1, none⟩ x1) g t #[x0, x1] := (h.set_ 0 x0).set_ 1 x1
theorem below_put2 {B : Nat} {a w : World} (h : Below B a w) {g : Nat} (hg : B ≤ g) (x0 x1 : Value) : Below B a ((w.setCell ⟨g, 0, none⟩ x0).setCell ⟨g, 1, none⟩ x1) := Below.setCell (Below.setCell h hg x0) hg x1
end
/-- Besides: a map in block b, the pair in block b + 1. -/
structure BstO (w W : World) (b N : Nat) (c : Chs) (bv wv pv ov : Value) (p q : Int) : Prop where
  base : Bs0 w W c bv wv pv ov
  hb : w.heap.size + 1 < b
  pair : Blk W (b + 1) 41 #[.int .i64 p, .int .i64 q]
  vals : ∃ D, ValsO W b N D ∧ KnownO c D
section
variable {w W W' : World} {b N N' : Nat} {c : Chs} {bv wv pv ov : Value} {p q : Int}
theorem BstO.below (h : BstO w W b N c bv wv pv ov p q) (hb : Below W.heap.size W W') : BstO w W' b N c bv wv pv ov p q := ⟨h.base.below hb, h.hb, h.pair.below hb h.pair.lt, let ⟨D, h1, h2⟩ := h.vals; ⟨D, ovals_below h1 hb, h2⟩⟩
theorem BstO.drew (h : BstO w W b N c bv wv pv ov p q) : BstO w W.drew b N c bv wv pv ov p q := h.below (Below.drew (Below.refl _ _))
theorem BstO.into (h : BstO w W b N c bv wv pv ov p q) (ho : Only b W W') (hv : ∃ D, ValsO W' b N' D ∧ KnownO c D) : BstO w W' b N' c bv wv pv ov p q := by
  have hbb := h.hb
  exact ⟨⟨h.base.bel.trans (ho.below (by omega) h.base.bel.size), h.base.box.grown ho (by intro e; injection e with e; omega), h.base.res.grown ho (by intro e; injection e with e; omega)⟩, h.hb, h.pair.grown ho (by intro e; injection e with e; omega), hv⟩
theorem BstO.cell7 (h : BstO w W b N c bv wv pv ov p q) : W.cell? ⟨w.heap.size, 0, none⟩ = some bv ∧ W.cell? ⟨w.heap.size, 1, none⟩ = some wv ∧ W.cell? ⟨w.heap.size, 2, none⟩ = some pv ∧ W.cell? ⟨w.heap.size, 3, none⟩ = some (.int .i64 c.over) ∧ W.cell? ⟨w.heap.size, 4, none⟩ = some (.int .i64 c.done) ∧ W.cell? ⟨w.heap.size, 5, none⟩ = some (.int .i64 c.need) ∧ W.cell? ⟨w.heap.size, 6, none⟩ = some ov := h.base.cell7
theorem BstO.pcell (h : BstO w W b N c bv wv pv ov p q) : W.cell? ⟨b + 1, 0, none⟩ = some (.int .i64 p) ∧ W.cell? ⟨b + 1, 1, none⟩ = some (.int .i64 q) ∧ W.frozen? ⟨b + 1, 0, none⟩ = false ∧ W.frozen? ⟨b + 1, 1, none⟩ = false := ⟨h.pair.cell 0, h.pair.cell 1, h.pair.frozen 0, h.pair.frozen 1⟩
theorem BstO.stored (h : BstO w W b N c bv wv pv ov p q) (p' q' : Int) : BstO w ((W.setCell ⟨b + 1, 0, none⟩ (.int .i64 p')).setCell ⟨b + 1, 1, none⟩ (.int .i64 q')) b N c bv wv pv ov p' q' := by
  have hbb := h.hb
  have n1 : w.heap.size ≠ b + 1 := by omega
  have n2 : w.heap.size + 1 ≠ b + 1 := by omega
  have hle : Below (b + 1) W ((W.setCell ⟨b + 1, 0, none⟩ (.int .i64 p')).setCell ⟨b + 1, 1, none⟩ (.int .i64 q')) := below_put2 (Below.refl _ _) (Nat.le_refl _) _ _
  exact ⟨⟨below_put2 h.base.bel (by omega) _ _, (h.base.box.far (p := ⟨b + 1, 0, none⟩) n1 _).far (p := ⟨b + 1, 1, none⟩) n1 _, (h.base.res.far (p := ⟨b + 1, 0, none⟩) n2 _).far (p := ⟨b + 1, 1, none⟩) n2 _⟩, h.hb, h.pair.put2 _ _, let ⟨D, h1, h2⟩ := h.vals; ⟨D, h1.kept (Only.setCell (Only.setCell (Only.refl (b + 1) W) (.inl rfl) _) (.inl rfl) _) (by simp), h2⟩⟩
theorem BstO.le (h : BstO w W b N c bv wv pv ov p q) (hN : N ≤ N') : BstO w W b N' c bv wv pv ov p q := ⟨h.base, h.hb, h.pair, let ⟨D, h1, h2⟩ := h.vals; ⟨D, h1.mono hN, h2⟩⟩
theorem BstO.new (h : Bs0 w W c bv wv pv ov) (p q : Int) : BstO w ((W.alloc (.map #[] 0)).alloc (.cells #[.int .i64 p, .int .i64 q] 41)) W.heap.size 0 c bv wv pv ov p q := by
  have hm : ValsO (W.alloc (.map #[] 0)) W.heap.size 0 (.map []) := World.ownsMap_made W _ _ _
  exact ⟨h.below (below_two W _ _), h.res.lt, blk_two W _ _ _, _, ovals_below hm (Below.alloc (Below.refl _ _) (Nat.le_refl _) _), KnownO.none c⟩
end
theorem or_Best_ret {R' : Ending → World → Prop} {a : Act} {w : World} {x0 x1 v3 v4 : Value} {g : Nat} (h2 : a.tmps[2]? = some (.pointer (some ⟨g, 0, none⟩))) (h3 : a.tmps[3]? = some v3) (h4 : a.tmps[4]? = some v4) (hb : Blk w g 41 #[x0, x1])
    (hd : a.defers = []) (hR : R' (.returned (.tuple #[.agg #[x0, x1], v3, v4])) w) : bodyPost Tryz.prog Tryz.f8 R' .ret a w := by
  have r0 := hb.cell 0
  have r1 := hb.cell 1
  simp only [List.getElem?_toArray, List.getElem?_cons_zero, List.getElem?_cons_succ] at r0 r1
  refine bodyPost_ret (v := .tuple #[.agg #[x0, x1], v3, v4]) (by simp [results, Tryz.results8, go_sem, h2, h3, h4, r0, r1]) hd hR
set_option maxRecDepth 100000 in
set_option maxHeartbeats 6000000 in
theorem or_Best (c : Chs) (bv wv pv ov : Value) (w : World) (h : ChAt w (· < w.heap.size) bv wv pv ov c) :
    Calls Tryz.prog 8 #[chV c bv wv pv ov] w fun e w' => e = .returned (.tuple #[.agg #[.int .i64 (bestOS c).1.1, .int .i64 (bestOS c).1.2], .int .i64 (bestOS c).2.1, .int .i64 (bestOS c).2.2]) ∧ Below w.heap.size w w' := by
  unfold chV
  obtain ⟨A, ca, rfl, hc1, hc2⟩ := h.mdl.bat.shape
  obtain ⟨A1, ca1, rfl, hc3, hc4⟩ := h.mdl.bow.shape
  obtain ⟨A2, ca2, rfl, hc5, hc6⟩ := h.bow.shape
  obtain ⟨A3, ca3, rfl, hc7, hc8⟩ := h.ord.shape
  have HX := Lib.hid (Bs0.new w c (.slice A c.mdl.bats.length ca) (.slice A1 c.mdl.bows.length ca1) (.slice A2 c.bows.length ca2) (.slice A3 c.ord.length ca3))
  have HM := Lib.hid h
  obtain ⟨z, hz⟩ : ∃ z, z = bestOS c := ⟨_, rfl⟩
  rw [← hz]
  unfold bestOS at hz
  have k1 := fun W (hW : Below w.heap.size w W) => or_Check c _ _ _ _ W (HM.out.below hW)
  skip
  unfold chV at k1
  obtain ⟨u, hu⟩ : ∃ u, u = checkO c := ⟨_, rfl⟩
  rw [← hu] at k1 hz
  have K1 := Lib.hid k1
  have tok0 : True := trivial
  have hmm := @run_makeMap Tryz.prog
  by_cases h0 : u = 0
  case neg =>
    rw [if_pos h0] at hz
    have HZ := Lib.hid hz
    have eu : (u != 0) = true := by simp [h0]
    clear hz h0 k1 hu h
    go_enter Tryz.func8, Tryz.ntmps8
    go_wp2_with (clear tok0; go_at_call 20; refine (K1.out _ HX.out.bel).mono ?_; rintro e w2 ⟨rfl, hb2⟩; have HX2 := Lib.hid (HX.out.below hb2); obtain ⟨x0, x1, x2, x3, x4, x5, x6⟩ := HX2.out.cell7; obtain ⟨z0, z1, zf0, zf1⟩ := HX2.out.rcell; have hl1 := HX2.out.box.lt; have hl2 := HX2.out.res.lt; clear hb2; have tok1 : True := trivial)
    refine or_Best_ret rfl rfl rfl (HX2.out.res.put2 _ _) rfl ⟨by rw [HZ.out] <;> rfl, ?_⟩
    exact below_put2 HX2.out.bel (by omega) _ _
  rw [if_neg (by omega)] at hz
  have eu : (u != 0) = false := by simp [h0]
  have ht := okT_of (c := c) (by omega)
  rw [bestS_same ht (0, 0) (0, 0)] at hz
  have hnp := ht.np
  have kop := fun (a b : Nat) (ha : a < c.ord.length) (hb : b < c.ord.length) W (hW : Below w.heap.size w W) => or_opened c a b _ _ _ _ W (HM.out.below hW) ht ha hb
  have ksol : ∀ (i j : Nat) (hi : i < c.ord.length) (hj : j < c.ord.length) (hne : i ≠ j) (W : World) (b N : Nat) (p q : Int) (hW : BstO w W b N c (.slice A c.mdl.bats.length ca) (.slice A1 c.mdl.bows.length ca1) (.slice A2 c.bows.length ca2) (.slice A3 c.ord.length ca3) p q) (hN : N + cntR 16 ≤ 2000000000000000000), Calls Tryz.prog 21 #[chV c (.slice A c.mdl.bats.length ca) (.slice A1 c.mdl.bows.length ca1) (.slice A2 c.bows.length ca2) (.slice A3 c.ord.length ca3), osV (openO c i j), .map (some b)] W fun e W' => e = .returned (.int .i64 (vO c (openO c i j))) ∧ BstO w W' b (N + cntR 16) c (.slice A c.mdl.bats.length ca) (.slice A1 c.mdl.bows.length ca1) (.slice A2 c.bows.length ca2) (.slice A3 c.ord.length ca3) p q ∧ Only b W W' := fun i j hi hj hne W b N p q hW hN => by
    obtain ⟨q1, q2, _⟩ := openO_ok ht hi hj hne
    obtain ⟨D, d1, d2⟩ := hW.vals
    have hbb := hW.hb
    refine (solveK_of ht (or_solve c ht) (openO c i j) q1 q2 _ _ _ _ (· < w.heap.size) b N D W (HM.out.keep (Same.of_below hW.base.bel) fun _ h => h) (fun x hx => ⟨Nat.lt_of_lt_of_le hx hW.base.bel.size, by have : x < w.heap.size := hx; omega⟩) d1 d2 hN).mono ?_
    rintro e W' ⟨a1, a2, a3⟩
    exact ⟨a1, hW.into a2 a3, a2⟩
  have hvb : ∀ (i j : Nat) (hi : i < c.ord.length) (hj : j < c.ord.length) (hne : i ≠ j), 0 ≤ vO c (openO c i j) ∧ vO c (openO c i j) ≤ 281474976710656 := fun i j hi hj hne => vO_48 ht (openO_ok ht hi hj hne).1
  unfold bestS at hz
  obtain ⟨f, hf⟩ : ∃ f : Int → Int → Int, f = fun a b => vO c (openO c a b) := ⟨_, rfl⟩
  have hfe : ∀ i j : Nat, vO c (openO c i j) = f i j := fun i j => by rw [hf]
  rw [← hf] at hz
  simp only [hfe] at ksol hvb
  have hrow : ∀ (a b : Nat) (r : (Int × Int) × Int), rowB f a (b + 1) r = if a = b then rowB f a b r else if (rowB f a b r).2 < f a b then (((a : Int), (b : Int)), f a b) else rowB f a b r := fun a b r => by rw [rowB]
  have hall : ∀ (a : Nat), allB f c.ord.length (a + 1) ((0, 0), -1) = rowB f a c.ord.length (allB f c.ord.length a ((0, 0), -1)) := fun a => by rw [allB]
  have hK := cntR16
  obtain ⟨K, hKe⟩ : ∃ K, K = cntR 16 := ⟨_, rfl⟩
  rw [← hKe] at ksol hK
  unfold chV at kop
  unfold chV at ksol
  have HROW := Lib.hid hrow
  have HALL := Lib.hid hall
  have HVB := Lib.hid hvb
  have KOP := Lib.hid kop
  have KSOL := Lib.hid ksol
  have HZ := Lib.hid hz
  obtain ⟨hnp1, hnp2⟩ := hnp
  clear hz h0 k1 hu h ht kop ksol hvb hrow hall hKe hfe hf
  go_enter Tryz.func8, Tryz.ntmps8
  go_wp2_with (clear tok0; go_at_call 20; refine (K1.out _ HX.out.bel).mono ?_; rintro e w2 ⟨rfl, hb2⟩; have HX2 := Lib.hid (HX.out.below hb2); obtain ⟨x0, x1, x2, x3, x4, x5, x6⟩ := HX2.out.cell7; obtain ⟨z0, z1, zf0, zf1⟩ := HX2.out.rcell; have hl1 := HX2.out.box.lt; have hl2 := HX2.out.res.lt; clear hb2; have tok1 : True := trivial)
  go_loopw [8, 23] (fun mo i wr => ∃ (a : Nat) (p q m : Int), a ≤ c.ord.length ∧ i = .int .i64 a ∧ mo = .int .i64 m ∧ -1 ≤ m ∧ m ≤ 281474976710656 ∧ Hid (BstO w wr w2.heap.size (a * 6 * K) c (.slice A c.mdl.bats.length ca) (.slice A1 c.mdl.bows.length ca1) (.slice A2 c.bows.length ca2) (.slice A3 c.ord.length ca3) p q) ∧ Hid (((p, q), m) = allB f c.ord.length a ((0, 0), -1))) (fun _ i _ => c.ord.length - (intOf i).toNat)
  case atStart => exact ⟨0, 0, 0, -1, Nat.zero_le _, rfl, rfl, by omega, by omega, Lib.hid (by first | (rw [Nat.zero_mul]; exact BstO.new HX2.out 0 0) | (rw [Nat.zero_mul, Nat.zero_mul]; exact BstO.new HX2.out 0 0)), Lib.hid rfl⟩
  case round =>
    clear x0 x1 x2 x3 x4 x5 x6 z0 z1 zf0 zf1 hl1 hl2
    obtain ⟨a, p, q, m, ha, rfl, rfl, hm0, hm1, HS, hss⟩ := hrel
    obtain ⟨x0, x1, x2, x3, x4, x5, x6⟩ := HS.out.cell7; 
    obtain ⟨wo, hwo⟩ : ∃ wo : World, wo = wr := ⟨_, rfl⟩
    subst hwo
    by_cases hat : a < c.ord.length
    · have hA := HALL.out a
      rw [← hss.out] at hA
      obtain ⟨R, hR⟩ : ∃ R : (Int × Int) × Int, R = ((p, q), m) := ⟨_, rfl⟩
      rw [← hR] at hA
      have HA := Lib.hid hA
      have HR := Lib.hid (show ((p, q), m) = rowB f a 0 R by rw [hR]; rfl)
      clear hA hR hss
      go_wp2
      go_loopw [8, 29] (fun mo i wr => ∃ (b : Nat) (p q m : Int), b ≤ c.ord.length ∧ i = .int .i64 b ∧ mo = .int .i64 m ∧ -1 ≤ m ∧ m ≤ 281474976710656 ∧ Hid (BstO w wr w2.heap.size ((a * 6 + b) * K) c (.slice A c.mdl.bats.length ca) (.slice A1 c.mdl.bows.length ca1) (.slice A2 c.bows.length ca2) (.slice A3 c.ord.length ca3) p q) ∧ Hid (((p, q), m) = rowB f a b R)) (fun _ i _ => c.ord.length - (intOf i).toNat)
      case atStart => exact ⟨0, p, q, m, Nat.zero_le _, rfl, rfl, hm0, hm1, HS, HR⟩
      case round =>
        clear x0 x1 x2 x3 x4 x5 x6 HS HR
        obtain ⟨b, p, q, m, hb, rfl, rfl, hm0, hm1, HS, hss⟩ := hrel
        obtain ⟨x0, x1, x2, x3, x4, x5, x6⟩ := HS.out.cell7; 
        by_cases hbt : b < c.ord.length
        · have hst := HROW.out a b R
          rw [← hss.out] at hst
          by_cases hab : a = b
          · rw [if_pos hab] at hst
            have HST := Lib.hid hst.symm
            have e1 : ((a : Int) == (b : Int)) = true := by rw [hab]; simp
            clear hst hss hab
            go_wp2
            go_roundw
            case rel => exact ⟨b + 1, p, q, m, by omega, by go_num, rfl, hm0, hm1, Lib.hid (HS.out.le (Nat.mul_le_mul_right K (by omega))), HST⟩
            case measure => simp [intOf]; omega
          · rw [if_neg hab] at hst
            have e1 : ((a : Int) == (b : Int)) = false := by simp; omega
            have kO := KOP.out a b hat hbt
            have kR := KSOL.out a b hat hbt hab
            have hp := HVB.out a b hat hbt hab
            obtain ⟨⟨t0, t1, t2, t3, t4⟩, hs'⟩ : ∃ x, x = openO c a b := ⟨_, rfl⟩
            simp only [← hs'] at kO kR
            obtain ⟨vv, hvv'⟩ : ∃ x, x = f a b := ⟨_, rfl⟩
            rw [← hvv'] at hp hst
            simp only [← hvv'] at kR
            unfold osV at kO kR
            dsimp only at hst kO kR
            obtain ⟨hp0, hp1⟩ := hp
            have hkK : (a * 6 + b) * K + K ≤ 2000000000000000000 := by have := Nat.mul_le_mul_right K (show (a * 6 + b) + 1 ≤ 36 by omega); rw [Nat.add_mul, Nat.one_mul] at this; omega
            have hkk : (a * 6 + (b + 1)) * K = (a * 6 + b) * K + K := by rw [show a * 6 + (b + 1) = (a * 6 + b) + 1 by omega, Nat.add_mul (a * 6 + b), Nat.one_mul]
            have KO := Lib.hid kO
            have KR := Lib.hid kR
            have HKK := Lib.hid hkk
            have HHK := Lib.hid hkK
            clear kO kR hs' hvv' hss hkk hkK hab
            go_wp2
            have HSD := Lib.hid HS.out.drew
            clear x0 x1 x2 x3 x4 x5 x6
            obtain ⟨x0, x1, x2, x3, x4, x5, x6⟩ := HSD.out.cell7; 
            have tok9 : True := trivial
            go_region_held3 (fun w' => w'.cell? ⟨w.heap.size, 0, none⟩ = some (.slice A c.mdl.bats.length ca) ∧ w'.cell? ⟨w.heap.size, 1, none⟩ = some (.slice A1 c.mdl.bows.length ca1) ∧ w'.cell? ⟨w.heap.size, 2, none⟩ = some (.slice A2 c.bows.length ca2) ∧ w'.cell? ⟨w.heap.size, 3, none⟩ = some (.int .i64 c.over) ∧ w'.cell? ⟨w.heap.size, 4, none⟩ = some (.int .i64 c.done) ∧ w'.cell? ⟨w.heap.size, 5, none⟩ = some (.int .i64 c.need) ∧ w'.cell? ⟨w.heap.size, 6, none⟩ = some (.slice A3 c.ord.length ca3)) (first | exact ⟨x0, x1, x2, x3, x4, x5, x6⟩ | go_keep) (first
              | (clear tok9; go_at_call 22; refine (KO.out _ HSD.out.base.bel).mono ?_; rintro e w6 ⟨rfl, hb6⟩; have HS6 := Lib.hid (HSD.out.below hb6); clear x0 x1 x2 x3 x4 x5 x6; obtain ⟨x0, x1, x2, x3, x4, x5, x6⟩ := HS6.out.cell7; clear hb6; have tok10 : True := trivial)
              | (clear tok10; go_at_call 21; refine (KR.out _ _ _ _ _ HS6.out HHK.out).mono ?_; rintro e w7 ⟨rfl, hs7, ho7⟩; have HS7 := Lib.hid hs7; clear x0 x1 x2 x3 x4 x5 x6; obtain ⟨x0, x1, x2, x3, x4, x5, x6⟩ := HS7.out.cell7; obtain ⟨p0, p1, pf0, pf1⟩ := HS7.out.pcell; clear hs7 ho7; have tok11 : True := trivial))
            by_cases hgt : m < vv
            · rw [if_pos hgt] at hst
              have HST := Lib.hid hst.symm
              clear hst
              all_goals go_wp2
              go_roundw
              case rel => exact ⟨b + 1, a, b, vv, by omega, by go_num, rfl, by omega, by omega, Lib.hid (by rw [HKK.out]; exact HS7.out.stored a b), HST⟩
              case measure => simp [intOf]; omega
            · rw [if_neg hgt] at hst
              have HST := Lib.hid hst.symm
              clear hst
              all_goals go_wp2
              go_roundw
              case rel => exact ⟨b + 1, p, q, m, by omega, by go_num, rfl, by omega, by omega, Lib.hid (by rw [HKK.out]; exact HS7.out), HST⟩
              case measure => simp [intOf]; omega
        · obtain rfl : b = c.ord.length := by omega
          have HF := Lib.hid (show ((p, q), m) = allB f c.ord.length (a + 1) ((0, 0), -1) by rw [HA.out, hss.out])
          clear hss
          go_wp2
          go_roundw
          case rel => exact ⟨a + 1, p, q, m, by omega, by go_num, rfl, hm0, hm1, Lib.hid (HS.out.le (Nat.mul_le_mul_right K (by omega))), HF⟩
          case measure => simp [intOf]; omega
    · obtain rfl : a = c.ord.length := by omega
      have HF := Lib.hid (show z = ((p, q), m, 0) by rw [HZ.out, ← hss.out])
      obtain ⟨p0, p1, pf0, pf1⟩ := HS.out.pcell
      obtain ⟨z0, z1, zf0, zf1⟩ := HS.out.base.rcell
      clear hss
      go_wp2
      refine or_Best_ret rfl rfl rfl (HS.out.base.res.put2 _ _) rfl ⟨by rw [HF.out] <;> rfl, ?_⟩
      exact below_put2 HS.out.base.bel (by omega) _ _
end Go.Proofs.YtjchapoggmipbaaGreatDoor

namespace Go.Proofs.YtjchapoggmipbaaGreatDoor

/-- The bits below k but two, one by one. -/
def setW (a b : Int) : Nat → Int
  | 0 => 0
  | k + 1 => if (k : Int) ≠ a ∧ (k : Int) ≠ b then bits .or .u16 (setW a b k) (oneW k) else setW a b k
theorem setW_nat (a b : Nat) : ∀ k : Nat, k ≤ 16 → ∃ n : Nat, setW a b k = (n : Int) ∧ n < 65536 ∧ ∀ j, n.testBit j = (decide (j < k) && decide (j ≠ a) && decide (j ≠ b))
  | 0, _ => ⟨0, rfl, by decide, fun j => by simp⟩
  | k + 1, hk => by
    obtain ⟨n, h1, h2, h3⟩ := setW_nat a b k (by omega)
    have hp : 2 ^ k < 65536 := Nat.pow_lt_pow_right (by decide) (show k < 16 by omega) (n := 16)
    rw [setW]
    by_cases hx : (k : Int) ≠ (a : Int) ∧ (k : Int) ≠ (b : Int)
    · rw [if_pos hx, h1, oneW_nat k (by omega), u16_or_nat _ _ h2 hp]
      refine ⟨n ||| 2 ^ k, rfl, Nat.or_lt_two_pow (n := 16) h2 hp, fun j => ?_⟩
      rw [Nat.testBit_or, h3, Nat.testBit_two_pow]
      by_cases hj : k = j
      · subst hj
        have ha : k ≠ a := by omega
        have hb : k ≠ b := by omega
        simp [ha, hb]
      · by_cases hlt : j < k
        · have : j < k + 1 := by omega
          simp [hlt, this, hj]
        · have : ¬ j < k + 1 := by omega
          simp [hlt, this, hj]
    · rw [if_neg hx]
      refine ⟨n, h1, h2, fun j => ?_⟩
      rw [h3]
      by_cases hj : k = j
      · subst hj
        by_cases ha : k = a
        · simp [ha]
        · have hb : k = b := by omega
          simp [hb]
      · have : decide (j < k) = decide (j < k + 1) := decide_eq_decide.2 (by omega)
        rw [this]
theorem setW_less {k a b : Nat} (hk : k < 16) (ha : a < 16) (hb : b < 16) : setW a b k = lessW k a b := by
  obtain ⟨n, h1, h2, h3⟩ := setW_nat a b k (by omega)
  rw [h1, lessW_nat k a b hk ha hb]
  congr 1
  refine Nat.eq_of_testBit_eq fun j => ?_
  rw [h3, less_test k a b j hk ha hb]
theorem setW_lt {a b k : Nat} (hk : k ≤ 16) : 0 ≤ setW a b k ∧ setW a b k < 65536 := by
  obtain ⟨n, h1, h2, _⟩ := setW_nat a b k hk
  rw [h1]; omega
theorem openO_set {c : Chs} (ht : OkT c) {a b : Nat} (ha : a < c.ord.length) (hb : b < c.ord.length) : openO c a b = ⟨0, c.need, a, b, setW a b c.ord.length⟩ := by
  have := ht.np
  rw [setW_less (by omega) (by omega) (by omega)]; rfl
end Go.Proofs.YtjchapoggmipbaaGreatDoor

namespace Go.Proofs.YtjchapoggmipbaaGreatDoor

theorem bestOS_is {c : Chs} (h : (bestOS c).2.2 = 0) : checkO c = 0 ∧ ∃ a b : Nat, a < c.ord.length ∧ b < c.ord.length ∧ a ≠ b ∧ c.ord.length ≤ 6 ∧
    bestOS c = (((a : Int), (b : Int)), vO c ⟨0, c.need, a, b, setW a b c.ord.length⟩, 0) ∧ OkOs c ⟨0, c.need, a, b, setW a b c.ord.length⟩ := by
  unfold bestOS at h ⊢
  by_cases hc : checkO c ≠ 0
  · rw [if_pos hc] at h; exact absurd h hc
  have hc0 : checkO c = 0 := by omega
  have ht := okT_of hc0
  obtain ⟨a, b, h1, h2, h3, h4⟩ := bestS_is ht (0, 0)
  have hs := (openO_ok ht h1 h2 h3).1
  rw [openO_set ht h1 h2] at h4 hs
  refine ⟨hc0, a, b, h1, h2, h3, ht.np.2, ?_, hs⟩
  rw [if_neg hc, h4]
end Go.Proofs.YtjchapoggmipbaaGreatDoor

namespace Go.Proofs.YtjchapoggmipbaaGreatDoor
open Go.RowKit Go.Maps

end Go.Proofs.YtjchapoggmipbaaGreatDoor

namespace Go.Proofs.YtjchapoggmipbaaGreatDoor
open Go.RowKit Go.Maps

set_option maxRecDepth 100000 in
set_option maxHeartbeats 4000000 in
theorem ch44_Value (c : Chs) (s : Cst) (bv wv pv ov : Value) (w : World) (h : ChAt w (· < w.heap.size) bv wv pv ov c) :
    Calls Tryz.prog 29 #[chV c bv wv pv ov, stV s] w fun e w' => e = .returned (.tuple #[.int .i64 (valueC c s).1, .int .i64 (valueC c s).2]) ∧ Below w.heap.size w w' := by
  unfold chV stV
  obtain ⟨ball, need, str, par, nxt⟩ := s
  obtain ⟨A, ca, rfl, hc1, hc2⟩ := h.mdl.bat.shape
  obtain ⟨A1, ca1, rfl, hc3, hc4⟩ := h.mdl.bow.shape
  obtain ⟨A2, ca2, rfl, hc5, hc6⟩ := h.bow.shape
  obtain ⟨A3, ca3, rfl, hc7, hc8⟩ := h.ord.shape
  have hx := CSB.new w c (.slice A c.mdl.bats.length ca) (.slice A1 c.mdl.bows.length ca1) (.slice A2 c.bows.length ca2) (.slice A3 c.ord.length ca3) ⟨ball, need, str, par, nxt⟩
  have HX := Lib.hid hx
  have HM := Lib.hid h
  obtain ⟨z, hz⟩ : ∃ z, z = valueC c ⟨ball, need, str, par, nxt⟩ := ⟨_, rfl⟩
  rw [← hz]
  unfold valueC at hz
  have k1 := fun W (hW : Below w.heap.size w W) => ch44_CheckState c ⟨ball, need, str, par, nxt⟩ _ _ _ _ W (HM.out.below hW)
  have hok := fun h => (chst_ok (c := c) (s := ⟨ball, need, str, par, nxt⟩) h).2
  have k2 := fun (hc : OkC c) (hs : OkS c ⟨ball, need, str, par, nxt⟩) W (hW : Below w.heap.size w W) => (ch44_solve c hc _ ⟨ball, need, str, par, nxt⟩ rfl hs (.slice A c.mdl.bats.length ca) (.slice A1 c.mdl.bows.length ca1) (.slice A2 c.bows.length ca2) (.slice A3 c.ord.length ca3) (· < w.heap.size) W.heap.size 0 (.map []) (W.alloc (.map #[] 0)) (h.keep (Same.of_below (hW.alloc hW.size _)) fun b hb => hb) (fun x hx => ⟨by have := hW.size; simp; omega, by have := hW.size; omega⟩) (World.ownsMap_made W _ _ _) (Known.none c) (by rw [Nat.zero_add]; exact Nat.le_trans (cntV_le _ (left_le hc hs)) (by decide))).mono (R' := fun e w' => e = .returned (.int .i64 (valS c ⟨ball, need, str, par, nxt⟩)) ∧ Below w.heap.size w w') fun e w' h => ⟨h.1, (hW.alloc hW.size _).trans (h.2.1.below hW.size (by have := hW.size; simp; omega))⟩
  unfold chV stV at k1 k2
  dsimp only at k1 k2
  obtain ⟨u, hu⟩ : ∃ u, u = chstC c ⟨ball, need, str, par, nxt⟩ := ⟨_, rfl⟩
  obtain ⟨v, hv⟩ : ∃ v, v = valS c ⟨ball, need, str, par, nxt⟩ := ⟨_, rfl⟩
  rw [← hu] at k1 hz hok
  rw [← hv] at k2 hz
  have K1 := Lib.hid k1
  have tok0 : True := trivial
  have hmm := @run_makeMap Tryz.prog
  clear k1 hu hv h hx
  by_cases h0 : u = 0
  · rw [if_neg (by omega)] at hz
    have HZ := Lib.hid hz
    have K2 := Lib.hid (k2 (hok h0).1 (hok h0).2)
    have eu : (u != 0) = false := by simp [h0]
    clear hz h0 hok k2
    go_enter Tryz.func29, Tryz.ntmps29
    go_wp2_with (first
      | (clear tok0; go_at_call 58; refine (K1.out _ HX.out.bel).mono ?_; rintro e w2 ⟨rfl, hb2⟩; have HX2 := Lib.hid (HX.out.below hb2); obtain ⟨x0, x1, x2, x3, x4, x5, x6, y0, y1, y2, y3, y4⟩ := HX2.out.cells; dsimp only at y0 y1 y2 y3 y4; clear hb2; have tok1 : True := trivial)
      | (clear tok1; go_at_call 62; refine (K2.out _ HX2.out.bel).mono ?_; rintro e w3 ⟨rfl, hb3⟩; have HB3 := Lib.hid hb3; clear hb3; have tok2 : True := trivial))
    go_ret2
    exact ⟨by rw [HZ.out] <;> rfl, HB3.out⟩
  · rw [if_pos h0] at hz
    have HZ := Lib.hid hz
    have eu : (u != 0) = true := by simp [h0]
    clear hz h0 hok k2
    go_enter Tryz.func29, Tryz.ntmps29
    go_wp2_with (clear tok0; go_at_call 58; refine (K1.out _ HX.out.bel).mono ?_; rintro e w2 ⟨rfl, hb2⟩; have HX2 := Lib.hid (HX.out.below hb2); obtain ⟨x0, x1, x2, x3, x4, x5, x6, y0, y1, y2, y3, y4⟩ := HX2.out.cells; dsimp only at y0 y1 y2 y3 y4; clear hb2; have tok1 : True := trivial)
    go_ret2
    exact ⟨by rw [HZ.out] <;> rfl, HX2.out.bel⟩
theorem small44_drop {l : List Bat} {k : Nat} (hk : k < l.length) : (l.drop k).all (fun b => decide (b.dist.length ≤ 100)) = (decide (l[k].dist.length ≤ 100) && (l.drop (k + 1)).all (fun b => decide (b.dist.length ≤ 100))) := by
  rw [drop_get hk, List.all_cons]
end Go.Proofs.YtjchapoggmipbaaGreatDoor

namespace Go.Proofs.YtjchapoggmipbaaGreatDoor
open Go.RowKit

theorem itoa_dig3 (n : Nat) (h : n < 10) : Lib.itoa (n : Int) = [UInt8.ofNat (48 + n)] := by
  unfold Lib.itoa
  rw [if_neg (by omega), Int.toNat_natCast, Lib.decDigits, dif_pos h]
theorem otcW_dig3 (r t : Nat) (b : Bool) (hr : r < 10) (ht : t < 10) : otcW ⟨(r : Int), b, (t : Int)⟩ = UInt8.ofNat (48 + r) :: ((if b = true then [87] else []) ++ [58, UInt8.ofNat (48 + t)]) := by
  unfold otcW
  simp only
  rw [itoa_dig3 r hr, itoa_dig3 t ht]
  simp
def exmM1d : List Otc := [⟨0, false, 8⟩, ⟨1, false, 4⟩, ⟨4, false, 4⟩]
end Go.Proofs.YtjchapoggmipbaaGreatDoor

namespace Go.Proofs.YtjchapoggmipbaaGreatDoor
open Go.RowKit

def chM : Mdl := ⟨[⟨[65], exmM1d⟩, ⟨[66], exmM1d⟩], [⟨[67], 0⟩]⟩
def ch1 : Chs := ⟨chM, [0], 6, 0, 2, [0, 1]⟩
/-- The first chase laid, in a world that has gone on. -/
structure AwI (w1 W : World) : Prop where
  bel : Below w1.heap.size w1 W
  ch : ChAt W (· < w1.heap.size + 1 + 1 + 1 + 1 + 1) (.slice (some ⟨w1.heap.size, 0, none⟩) 2 2) (.slice (some ⟨w1.heap.size + 1, 0, none⟩) 1 1) (.slice (some ⟨w1.heap.size + 1 + 1 + 1, 0, none⟩) 1 1) (.slice (some ⟨w1.heap.size + 1 + 1 + 1 + 1, 0, none⟩) 2 2) ch1
  blk : Blk W (w1.heap.size + 1 + 1 + 1 + 1 + 1) 77 #[.slice (some ⟨w1.heap.size, 0, none⟩) 2 2, .slice (some ⟨w1.heap.size + 1, 0, none⟩) 1 1, .slice (some ⟨w1.heap.size + 1 + 1 + 1, 0, none⟩) 1 1, .int .i64 6, .int .i64 0, .int .i64 2, .slice (some ⟨w1.heap.size + 1 + 1 + 1 + 1, 0, none⟩) 2 2]
theorem AwI.below {w1 W W' : World} (h : AwI w1 W) (hb : Below W.heap.size W W') : AwI w1 W' :=
  ⟨h.bel.trans (hb.mono h.bel.size), h.ch.keep (Same.below hb fun b hb => Nat.lt_trans hb h.blk.lt) fun b hb => hb, h.blk.below hb h.blk.lt⟩
theorem AwI.in {w1 W : World} (h : AwI w1 W) : ChAt W (· < W.heap.size) (.slice (some ⟨w1.heap.size, 0, none⟩) 2 2) (.slice (some ⟨w1.heap.size + 1, 0, none⟩) 1 1) (.slice (some ⟨w1.heap.size + 1 + 1 + 1, 0, none⟩) 1 1) (.slice (some ⟨w1.heap.size + 1 + 1 + 1 + 1, 0, none⟩) 2 2) ch1 := h.ch.keep (Same.refl _ _) fun b hb => Nat.lt_trans hb h.blk.lt
theorem AwI.cells {w1 W : World} (h : AwI w1 W) (k : Nat) (u : Value) (hk : #[Value.slice (some ⟨w1.heap.size, 0, none⟩) 2 2, .slice (some ⟨w1.heap.size + 1, 0, none⟩) 1 1, .slice (some ⟨w1.heap.size + 1 + 1 + 1, 0, none⟩) 1 1, .int .i64 6, .int .i64 0, .int .i64 2, .slice (some ⟨w1.heap.size + 1 + 1 + 1 + 1, 0, none⟩) 2 2][k]? = some u) : W.cell? ⟨w1.heap.size + 1 + 1 + 1 + 1 + 1, k, none⟩ = some u := (h.blk.cell k).trans hk
theorem Sl.up {α : Type} {size : Nat} {R : World → (Nat → Prop) → List Value → α → Prop} (hR : Good R) {W W' : World} {n m : Nat} {v : Value} {l : List α} (h : Sl size R W (· < W.heap.size) v l) (hb : Below W.heap.size W W') (hn : W.heap.size ≤ m) : Sl size R W' (· < m) v l :=
  h.keep hR (Same.of_below hb) fun b hb => Nat.lt_of_lt_of_le hb hn
end Go.Proofs.YtjchapoggmipbaaGreatDoor

namespace Go.Proofs.YtjchapoggmipbaaGreatDoor
open Go.RowKit

end Go.Proofs.YtjchapoggmipbaaGreatDoor

namespace Go.Proofs.YtjchapoggmipbaaGreatDoor
open Go.RowKit

def bigT (c : Chs) : Bool := decide (30 < c.mdl.bats.length) || decide (30 < c.mdl.bows.length) || decide (4 < c.ord.length) || decide (4 < c.bows.length) || decide (16 < c.need)
def smallT (c : Chs) : Bool := !bigT c && c.mdl.bats.all (fun b => decide (b.dist.length ≤ 100))
theorem bigT_ways (c : Chs) : (bigT c = true ∧ (30 < (c.mdl.bats.length : Int) ∨ (¬ 30 < (c.mdl.bats.length : Int) ∧ 30 < (c.mdl.bows.length : Int)) ∨ (¬ 30 < (c.mdl.bats.length : Int) ∧ ¬ 30 < (c.mdl.bows.length : Int) ∧ 4 < (c.ord.length : Int)) ∨ (¬ 30 < (c.mdl.bats.length : Int) ∧ ¬ 30 < (c.mdl.bows.length : Int) ∧ ¬ 4 < (c.ord.length : Int) ∧ 4 < (c.bows.length : Int)) ∨ (¬ 30 < (c.mdl.bats.length : Int) ∧ ¬ 30 < (c.mdl.bows.length : Int) ∧ ¬ 4 < (c.ord.length : Int) ∧ ¬ 4 < (c.bows.length : Int) ∧ 16 < c.need))) ∨
    (bigT c = false ∧ ¬ 30 < (c.mdl.bats.length : Int) ∧ ¬ 30 < (c.mdl.bows.length : Int) ∧ ¬ 4 < (c.ord.length : Int) ∧ ¬ 4 < (c.bows.length : Int) ∧ ¬ 16 < c.need) := by
  cases h : bigT c
  · refine .inr ⟨rfl, ?_⟩
    unfold bigT at h
    simp only [Bool.or_eq_false_iff, decide_eq_false_iff_not] at h
    omega
  · refine .inl ⟨rfl, ?_⟩
    unfold bigT at h
    simp only [Bool.or_eq_true, decide_eq_true_eq] at h
    omega
set_option maxRecDepth 100000 in
set_option maxHeartbeats 2000000 in
theorem law45_Small (c : Chs) (bv wv pv ov : Value) (w : World) (h : ChAt w (· < w.heap.size) bv wv pv ov c) :
    Calls Tryz.prog 5 #[chV c bv wv pv ov] w fun e w' => e = .returned (.bool (smallT c)) ∧ Below w.heap.size w w' := by
  unfold chV
  obtain ⟨z, hz⟩ : ∃ z, z = smallT c := ⟨_, rfl⟩
  rw [← hz]
  unfold smallT at hz
  obtain ⟨A, ca, rfl, hc1, hc2⟩ := h.mdl.bat.shape
  obtain ⟨A1, ca1, rfl, hc3, hc4⟩ := h.mdl.bow.shape
  obtain ⟨A2, ca2, rfl, hc5, hc6⟩ := h.bow.shape
  obtain ⟨A3, ca3, rfl, hc7, hc8⟩ := h.ord.shape
  have HX := Lib.hid (OTB.new w c (.slice A c.mdl.bats.length ca) (.slice A1 c.mdl.bows.length ca1) (.slice A2 c.bows.length ca2) (.slice A3 c.ord.length ca3))
  have HL := Lib.hid h.mdl.bat
  have hw := bigT_ways c
  clear h
  rcases hw with ⟨hb, hw⟩ | ⟨hb, g1, g2, g3, g4, g5⟩
  · rw [hb, Bool.not_true, Bool.false_and] at hz
    have HZ := Lib.hid hz
    clear hz hb HL
    rcases hw with g1 | ⟨g1, g2⟩ | ⟨g1, g2, g3⟩ | ⟨g1, g2, g3, g4⟩ | ⟨g1, g2, g3, g4, g5⟩
    all_goals
      go_enter Tryz.func5, Tryz.ntmps5
      go_wp2
      go_ret
      exact ⟨ret_b HZ.out.symm, HX.out.bel⟩
  · rw [hb, Bool.not_false, Bool.true_and] at hz
    have HZ : Hid (z = (c.mdl.bats.drop 0).all (fun b => decide (b.dist.length ≤ 100))) := hz
    clear hz hb
    go_enter Tryz.func5, Tryz.ntmps5
    go_wp2
    go_loopw [38] (fun i wr => ∃ k : Nat, k ≤ c.mdl.bats.length ∧ i = .int .i64 k ∧ Hid (OTB w wr w.heap.size c (.slice A c.mdl.bats.length ca) (.slice A1 c.mdl.bows.length ca1) (.slice A2 c.bows.length ca2) (.slice A3 c.ord.length ca3)) ∧ Hid (z = (c.mdl.bats.drop k).all (fun b => decide (b.dist.length ≤ 100)))) (fun i _ => c.mdl.bats.length - (intOf i).toNat)
    case atStart => exact ⟨0, Nat.zero_le _, rfl, HX, HZ⟩
    case round =>
      clear HX HZ
      obtain ⟨k, hk, rfl, HW, hzz⟩ := hrel
      by_cases hlt : k < c.mdl.bats.length
      · obtain ⟨b0, o, v, rfl, hbl, yy0, yy1, hv, hpl⟩ := bat_at HL.out hlt
        have y0 := (HW.out.bel.cell (p := ⟨b0, o + k * 2, none⟩) hbl).trans yy0
        have y1 := (HW.out.bel.cell (p := ⟨b0, o + k * 2 + 1, none⟩) hbl).trans yy1
        have hz2 := hzz.out
        rw [small44_drop hlt] at hz2
        obtain ⟨A9, c9, hve, _, _⟩ := hv.shape
        obtain ⟨p, hp⟩ : ∃ b, b = c.mdl.bats[k] := ⟨_, rfl⟩
        rw [← hp] at y0 hz2 hve
        obtain ⟨n2, hn2⟩ : ∃ n, n = p.dist.length := ⟨_, rfl⟩
        obtain ⟨pn, hpn⟩ : ∃ n, n = p.name := ⟨_, rfl⟩
        rw [← hn2] at hve hz2
        rw [← hpn] at y0
        subst hve
        have HA := Lib.hid (HW.out.alloc (.cells #[.string (S pn), .slice A9 n2 c9] 68))
        clear hzz hp hn2 hpn yy0 yy1 hv hpl
        by_cases hs : n2 ≤ 100
        · rw [decide_eq_true hs, Bool.true_and] at hz2
          have HZZ := Lib.hid hz2
          have g9 : ¬ (100 : Int) < (n2 : Int) := by omega
          clear hz2 hs
          go_wp2
          go_roundw
          case rel => exact ⟨k + 1, by omega, by go_num, HA, HZZ⟩
          case measure => simp [intOf]; omega
        · rw [decide_eq_false hs, Bool.false_and] at hz2
          have HZZ := Lib.hid hz2
          have g9 : (100 : Int) < (n2 : Int) := by omega
          clear hz2 hs
          go_wp2
          go_ret
          exact ⟨ret_b HZZ.out.symm, HA.out.bel⟩
      · obtain rfl : k = c.mdl.bats.length := by omega
        have hz2 := hzz.out
        rw [List.drop_of_length_le (Nat.le_refl _), List.all_nil] at hz2
        have HZZ := Lib.hid hz2
        clear hz2 hzz
        go_wp2
        go_ret
        exact ⟨ret_b HZZ.out.symm, HW.out.bel⟩
end Go.Proofs.YtjchapoggmipbaaGreatDoor

namespace Go.Proofs.YtjchapoggmipbaaGreatDoor
open Go.RowKit

theorem fix_at {n : Int} {l : List Int} {k : Nat} (h : k < l.length) : fixF n (l.take k) (l.drop k) = if l[k] < 0 ∨ n ≤ l[k] then 2 else if l[k] ∈ l.take k then 7 else fixF n (l.take (k + 1)) (l.drop (k + 1)) := by
  rw [drop_get h, fixF, List.take_append_getElem h]
theorem fix_end {n : Int} {l : List Int} : fixF n (l.take l.length) (l.drop l.length) = 0 := by
  rw [List.drop_length, fixF]
theorem start_state {c : Chs} (h : checkC c = 0) : stateC c ⟨0, c.need, 0, 1, 2⟩ = 0 := by
  have hc := checkC_ok h
  have h1 := hc.need
  have h2 := hc.no
  have e1 : outC c ⟨0, c.need, 0, 1, 2⟩ = false := by
    unfold outC outC.inC
    have a1 : decide ((0 : Int) ≤ (c.bows.length : Int)) = true := decide_eq_true (by omega)
    have a2 : decide (0 ≤ c.need) = true := decide_eq_true (by omega)
    have a3 : decide (c.need ≤ c.need) = true := decide_eq_true (Int.le_refl _)
    have a4 : decide ((2 : Int) ≤ (c.ord.length : Int)) = true := decide_eq_true (by omega)
    simp only [a1, a2, a3, a4]
    rfl
  unfold stateC
  rw [e1]
  rw [if_neg (by decide), if_neg]
  rintro (h | h)
  · cases h
  · cases h.1
theorem fixed_val {c : Chs} {l : List Int} (h0 : checkO c = 0) (h1 : ¬ l.length < 2) (h2 : fixF c.ord.length [] l = 0) :
    fixedS c l = valueC (fixC c l) (startC (fixC c l)).1 ∧ ((startC (fixC c l)).2 ≠ 0 → fixedS c l = (0, (startC (fixC c l)).2)) := by
  unfold fixedS
  rw [if_neg (by omega), if_neg h1, if_neg (by omega)]
  by_cases h3 : checkC (fixC c l) ≠ 0
  · rw [if_pos h3]
    unfold startC valueC chstC
    rw [if_pos h3, if_pos h3, if_pos h3]
    exact ⟨rfl, fun _ => rfl⟩
  · have h4 : checkC (fixC c l) = 0 := by omega
    rw [if_neg h3]
    unfold startC valueC chstC
    rw [if_neg h3, if_neg h3]
    have hs := start_state h4
    have hn : (fixC c l).need = c.need := rfl
    rw [hn] at hs
    exact ⟨by show _ = if stateC (fixC c l) ⟨0, (fixC c l).need, 0, 1, 2⟩ ≠ 0 then _ else _; rw [hn, hs]; rfl, fun h => absurd rfl h⟩
theorem E_into : ElemOf Tryz.prog 26 3 1 8 := ElemOf.mk (z := .int .i64 0) Tryz.underlying26 (by kernel_rfl) rfl (by decide)
/-- The order under way; it lies behind the world wB. -/
structure FxO (w wB W : World) (c : Chs) (bv wv pv ov : Value) (v : Value) (out : List Int) (n : Nat) : Prop where
  b0 : OTB w wB w.heap.size c bv wv pv ov
  o1 : OwnSl 1 elInt 3 wB.heap.size W v out
  sb : Below wB.heap.size wB W
  n1 : out.length ≤ n
section
variable {w wB W W' : World} {c : Chs} {bv wv pv ov v v' : Value} {out : List Int} {n : Nat}
theorem FxO.base (h : FxO w wB W c bv wv pv ov v out n) : OTB w W w.heap.size c bv wv pv ov := h.b0.below h.sb
theorem FxO.below (h : FxO w wB W c bv wv pv ov v out n) (hb : Below W.heap.size W W') : FxO w wB W' c bv wv pv ov v out n := ⟨h.b0, h.o1.below elInt_good hb, h.sb.trans (hb.mono h.sb.size), h.n1⟩
theorem FxO.alloc (h : FxO w wB W c bv wv pv ov v out n) (o : Obj) : FxO w wB (W.alloc o) c bv wv pv ov v out n := h.below (Below.alloc (Below.refl _ _) (Nat.le_refl _) o)
theorem FxO.app {x : Int} (h : FxO w wB W c bv wv pv ov v out n) (ho : OwnSl 1 elInt 3 wB.heap.size W' v' (out ++ [x])) (hg : W.grownBy W' v.ownBlock) : FxO w wB W' c bv wv pv ov v' (out ++ [x]) (n + 1) :=
  ⟨h.b0, ho, below_own h.sb h.o1 hg (Nat.le_refl _) h.sb.size, by simp; exact h.n1⟩
theorem FxO.start (h : OTB w W w.heap.size c bv wv pv ov) : FxO w W W c bv wv pv ov (.slice none 0 0) [] 0 := ⟨h, OwnSl.nil _, Below.refl _ _, Nat.le_refl _⟩
theorem FxO.cha (h : FxO w wB W c bv wv pv ov v out n) (hM : ChAt w (· < w.heap.size) bv wv pv ov c) : ChAt W (· < W.heap.size) bv wv pv v (setC c out) :=
  have h2 := hM.below h.base.bel
  ⟨h2.mdl, h2.bow, (h.o1.sl elInt_good).keep elInt_good (Same.refl _ _) fun b hb => hb.2⟩
end
theorem al_back {W W' : World} {o : Obj} (h : Below (W.alloc o).heap.size (W.alloc o) W') : Below W.heap.size W W' := (Below.alloc (Below.refl _ _) (Nat.le_refl _) o).trans (h.mono (by simp))
set_option maxRecDepth 100000 in
set_option maxHeartbeats 1500000 in
theorem or_Fixed (c : Chs) (l : List Int) (bv wv pv ov lv : Value) (w : World) (h : ChAt w (· < w.heap.size) bv wv pv ov c) (hl : Sl 1 elInt w (· < w.heap.size) lv l) (h100 : l.length ≤ 100) :
    Calls Tryz.prog 10 #[chV c bv wv pv ov, lv] w fun e w' => e = .returned (.tuple #[.int .i64 (fixedS c l).1, .int .i64 (fixedS c l).2]) ∧ Below w.heap.size w w' := by
  unfold chV
  obtain ⟨A, ca, rfl, hc1, hc2⟩ := h.mdl.bat.shape
  obtain ⟨A1, ca1, rfl, hc3, hc4⟩ := h.mdl.bow.shape
  obtain ⟨A2, ca2, rfl, hc5, hc6⟩ := h.bow.shape
  obtain ⟨A3, ca3, rfl, hc7, hc8⟩ := h.ord.shape
  obtain ⟨A4, ca4, rfl, hc9, hc10⟩ := hl.shape
  obtain ⟨⟨z1, z2⟩, hz⟩ : ∃ z, z = fixedS c l := ⟨_, rfl⟩
  rw [← hz]
  dsimp only
  have HX0 := Lib.hid (OTB.new w c (.slice A c.mdl.bats.length ca) (.slice A1 c.mdl.bows.length ca1) (.slice A2 c.bows.length ca2) (.slice A3 c.ord.length ca3))
  have k1 := fun W (hW : Below w.heap.size w W) => or_Check c _ _ _ _ W (h.below hW)
  unfold chV at k1
  
  have HM := Lib.hid h
  have HL := Lib.hid hl
  have hbad : checkO c ≠ 0 → (z1, z2) = (0, checkO c) := fun h0 => by rw [hz]; unfold fixedS; rw [if_pos h0]
  have hshort : checkO c = 0 → l.length < 2 → (z1, z2) = (0, 9) := fun h0 h1 => by rw [hz]; unfold fixedS; rw [if_neg (by omega), if_pos h1]
  have hfix : checkO c = 0 → ¬ l.length < 2 → fixF c.ord.length [] l ≠ 0 → (z1, z2) = (0, fixF c.ord.length [] l) := fun h0 h1 h2 => by rw [hz]; unfold fixedS; rw [if_neg (by omega), if_neg h1, if_pos h2]
  have hval := fixed_val (c := c) (l := l)
  rw [← hz] at hval
  have k2 := fun (W0 : World) (v : Value) (hch : ChAt W0 (· < W0.heap.size) (.slice A c.mdl.bats.length ca) (.slice A1 c.mdl.bows.length ca1) (.slice A2 c.bows.length ca2) v (fixC c l)) => ch44_Start (fixC c l) _ _ _ _ W0 hch
  obtain ⟨⟨⟨a1, a2, a3, a4, a5⟩, e1⟩, hst⟩ : ∃ x, x = startC (fixC c l) := ⟨_, rfl⟩
  rw [← hst] at hval
  dsimp only at hval
  simp only [← hst] at k2
  have k3 := fun (W0 : World) (v : Value) (hch : ChAt W0 (· < W0.heap.size) (.slice A c.mdl.bats.length ca) (.slice A1 c.mdl.bows.length ca1) (.slice A2 c.bows.length ca2) v (fixC c l)) => ch44_Value (fixC c l) ⟨a1, a2, a3, a4, a5⟩ _ _ _ _ W0 hch
  obtain ⟨⟨v1, v2⟩, hvv⟩ : ∃ x, x = valueC (fixC c l) ⟨a1, a2, a3, a4, a5⟩ := ⟨_, rfl⟩
  rw [← hvv] at hval
  simp only [← hvv] at k3
  unfold chV stV at k2
  unfold chV stV at k3
  dsimp only at k2 k3
  obtain ⟨u0, hu0⟩ : ∃ x, x = checkO c := ⟨_, rfl⟩
  obtain ⟨u, hu⟩ : ∃ x, x = fixF c.ord.length [] l := ⟨_, rfl⟩
  simp only [← hu0] at k1 hbad hshort hfix hval
  rw [← hu] at hfix hval
  have K1 := Lib.hid k1
  have K2 := Lib.hid k2
  have K3 := Lib.hid k3
  have tok0 : True := trivial
  clear k1 k2 k3 h hl hz hst hvv hu0
  by_cases h0 : u0 = 0
  case neg =>
    have HZ := Lib.hid (hbad h0)
    have eu : (u0 != 0) = true := by simp [h0]
    clear hbad hshort hfix hval h0 hu h100
    go_enter Tryz.func10, Tryz.ntmps10
    go_wp2_with (clear tok0; go_at_call 20; refine (K1.out _ HX0.out.bel).mono ?_; rintro e w2 ⟨rfl, hb⟩; have HX2 := Lib.hid (HX0.out.below hb); obtain ⟨x0, x1, x2, x3, x4, x5, x6⟩ := HX2.out.cells; clear hb; have tok1 : True := trivial)
    go_ret2
    exact ⟨by have h9 := HZ.out; injection h9 with h7 h8; rw [h7, h8] <;> rfl, HX2.out.bel⟩
  subst h0
  by_cases h1 : l.length < 2
  · have HZ := Lib.hid (hshort rfl h1)
    have h1' : (l.length : Int) < 2 := by omega
    clear hbad hshort hfix hval hu h100
    go_enter Tryz.func10, Tryz.ntmps10
    go_wp2_with (clear tok0; go_at_call 20; refine (K1.out _ HX0.out.bel).mono ?_; rintro e w2 ⟨rfl, hb⟩; have HX2 := Lib.hid (HX0.out.below hb); obtain ⟨x0, x1, x2, x3, x4, x5, x6⟩ := HX2.out.cells; clear hb; have tok1 : True := trivial)
    go_ret2
    exact ⟨by have h9 := HZ.out; injection h9 with h7 h8; rw [h7, h8] <;> rfl, HX2.out.bel⟩
  have h1' : ¬ (l.length : Int) < 2 := by omega
  have HFX := Lib.hid (hfix rfl h1)
  have HVL := Lib.hid (hval rfl h1)
  have HU0 : Hid (u = fixF c.ord.length (l.take 0) (l.drop 0)) := hu
  have HFC : Hid (fixC c l = setC c ((l.take l.length).map (getI c.ord))) := by unfold Hid; rw [List.take_length]; rfl
  clear hbad hshort hfix hval hu
  go_enter Tryz.func10, Tryz.ntmps10
  go_wp2_with (clear tok0; go_at_call 20; refine (K1.out _ HX0.out.bel).mono ?_; rintro e w2 ⟨rfl, hb⟩; have HX2 := Lib.hid (HX0.out.below hb); obtain ⟨x0, x1, x2, x3, x4, x5, x6⟩ := HX2.out.cells; clear hb; have tok1 : True := trivial)
  go_loopw [7, 23] (fun v i wr => ∃ (k : Nat) (out : List Int) (A' : Option Addr) (m q : Nat), k ≤ l.length ∧ i = .int .i64 k ∧ v = .slice A' m q ∧ Hid (FxO w w2 wr c (.slice A c.mdl.bats.length ca) (.slice A1 c.mdl.bows.length ca1) (.slice A2 c.bows.length ca2) (.slice A3 c.ord.length ca3) v out k) ∧ Hid (out = (l.take k).map (getI c.ord)) ∧ Hid (u = fixF c.ord.length (l.take k) (l.drop k))) (fun _ i _ => l.length - (intOf i).toNat)
  case atStart => exact ⟨0, [], none, 0, 0, Nat.zero_le _, rfl, rfl, Lib.hid (FxO.start HX2.out), Lib.hid rfl, HU0⟩
  case round =>
    clear x0 x1 x2 x3 x4 x5 x6 HX2 HU0
    obtain ⟨k, out, A', m, q, hk, rfl, rfl, HF, HO, HU⟩ := hrel
    obtain ⟨x0, x1, x2, x3, x4, x5, x6⟩ := HF.out.base.cells
    by_cases hlt : k < l.length
    · obtain ⟨b0, o, rfl, hbl, yy0⟩ := int_at HL.out hlt
      have y0 := (HF.out.base.bel.cell (p := ⟨b0, o + k, none⟩) hbl).trans yy0
      have hu2 := HU.out
      rw [fix_at hlt] at hu2
      have htk : (l.take (k + 1)).map (getI c.ord) = out ++ [getI c.ord l[k]] := by rw [HO.out, ← List.take_append_getElem hlt, List.map_append]; rfl
      obtain ⟨p, hp⟩ : ∃ p, p = l[k] := ⟨_, rfl⟩
      rw [← hp] at hu2 y0 htk
      clear yy0 HO HU
      by_cases q1 : p < 0
      · rw [if_pos (.inl q1)] at hu2
        subst hu2
        have HZ := Lib.hid (HFX.out (by decide))
        clear htk hp
        go_wp2
        go_ret2
        exact ⟨by have h9 := HZ.out; injection h9 with h7 h8; rw [h7, h8] <;> rfl, HF.out.base.bel⟩
      by_cases q2 : (c.ord.length : Int) ≤ p
      · rw [if_pos (.inr q2)] at hu2
        subst hu2
        have HZ := Lib.hid (HFX.out (by decide))
        clear htk hp
        go_wp2
        go_ret2
        exact ⟨by have h9 := HZ.out; injection h9 with h7 h8; rw [h7, h8] <;> rfl, HF.out.base.bel⟩
      rw [if_neg (by omega)] at hu2
      obtain ⟨a, rfl⟩ : ∃ a : Nat, p = (a : Int) := ⟨p.toNat, by omega⟩
      have ha : a < c.ord.length := by omega
      have kc : ∀ W, Below w.heap.size w W → Calls Tryz.prog 26 #[.slice (some ⟨b0, o, none⟩) k ca4, .int .i64 (a : Int)] W fun e W' => e = .returned (.bool (decide ((a : Int) ∈ l.take k))) ∧ Below W.heap.size W W' := fun W hW => by
        have ht := ((HL.out.keep (G := fun x => x < W.heap.size) elInt_good (Same.of_below hW) fun b h => Nat.lt_of_lt_of_le h hW.size).take (k := k) (by omega))
        exact int_Contains _ _ _ _ W ht fun b h => h
      clear hp
      by_cases q3 : (a : Int) ∈ l.take k
      · rw [if_pos q3] at hu2
        rw [decide_eq_true q3] at kc
        subst hu2
        have KC := Lib.hid kc
        have HZ := Lib.hid (HFX.out (by decide))
        clear kc q3 htk
        go_wp2_with (go_at_call 26; refine (KC.out _ HF.out.base.bel).mono ?_; rintro e w3 ⟨rfl, hb3⟩; have HF3 := Lib.hid (HF.out.below hb3); clear hb3)
        go_ret2
        exact ⟨by have h9 := HZ.out; injection h9 with h7 h8; rw [h7, h8] <;> rfl, HF3.out.base.bel⟩
      · rw [if_neg q3] at hu2
        rw [decide_eq_false q3] at kc
        have KC := Lib.hid kc
        have HU2 := Lib.hid hu2
        clear kc q3 hu2
        obtain ⟨b1, o1, rfl, hbl1, yy1⟩ := int_at HM.out.ord ha
        have hg1 : getI c.ord (a : Int) = c.ord[a] := by unfold getI; rw [Int.toNat_natCast, List.getElem?_eq_getElem ha]; rfl
        rw [hg1] at htk
        have y1 := (HF.out.base.bel.cell (p := ⟨b1, o1 + a, none⟩) hbl1).trans yy1
        obtain ⟨g, hg⟩ : ∃ g, g = c.ord[a] := ⟨_, rfl⟩
        rw [← hg] at htk y1
        have HTK := Lib.hid htk
        have hk17 : k < 1000 := by omega
        clear yy1 hg1 hg htk
        have tok1 : True := trivial
        go_wp2_with (first
          | (clear tok1; go_at_call 26; refine (KC.out _ HF.out.base.bel).mono ?_; rintro e w3 ⟨rfl, hb3⟩; have HF3 := Lib.hid (HF.out.below hb3); have y1' := (hb3.cell (p := ⟨b1, o1 + a, none⟩) (Nat.lt_of_lt_of_le hbl1 HF.out.base.bel.size)).trans y1; clear x0 x1 x2 x3 x4 x5 x6 y1 y0; have y1 := y1'; clear y1'; obtain ⟨x0, x1, x2, x3, x4, x5, x6⟩ := HF3.out.base.cells; clear hb3; have tok2 : True := trivial)
          | (clear tok2; at_builtin; refine wpList_append_sl _ rfl (.tmp 44) (.tmp 50) _ rfl E_into elInt_good _ _ out rfl (HF3.out.o1.alloc elInt_good _) ⟨w3.heap.size, 0, none⟩ 1 [.int .i64 g] rfl g rfl (cells_new _ _ _ _) (oneCells rfl) rfl (room8 HF3.out.n1 hk17).1 (room8 HF3.out.n1 hk17).2 (base2 HF3.out.sb.size _) ?_; intro v6 w6 hown6 hg6 hat6; have h6 := (HF3.out.alloc (.cells #[.int .i64 g] 3)).app hown6 hg6; have H6 := Lib.hid h6; clear x0 x1 x2 x3 x4 x5 x6; obtain ⟨x0, x1, x2, x3, x4, x5, x6⟩ := h6.base.cells; obtain ⟨A6, c6, rfl, hc61, hc62⟩ := (hown6.sl elInt_good).shape; clear hown6 hg6 hat6 h6; have tok3 : True := trivial))
        go_roundw
        case rel => exact ⟨k + 1, _, A6, _, c6, by omega, by go_num, rfl, Lib.hid (by have h7 := H6.out; simp only [List.length_append, List.length_singleton] at h7; exact h7), Lib.hid HTK.out.symm, HU2⟩
        case measure => simp [intOf]; omega
    · obtain rfl : k = l.length := by omega
      have hu2 := HU.out
      rw [fix_end] at hu2
      have hv := HVL.out hu2
      have hcha := HF.out.cha HM.out
      rw [HO.out, ← HFC.out] at hcha
      obtain ⟨hv1, hv2⟩ := hv
      have k2 := fun W (hW : Below wr.heap.size wr W) => K2.out W _ (hcha.below hW)
      have k3 := fun W (hW : Below wr.heap.size wr W) => K3.out W _ (hcha.below hW)
      have KA := Lib.hid (fun W => or_asChase c A A1 A2 A3 A' c.mdl.bats.length c.mdl.bows.length c.bows.length c.ord.length m ca ca1 ca2 ca3 q W)
      injection hv1 with hv3 hv4
      subst hv3; subst hv4
      have KS := Lib.hid k2
      have KV := Lib.hid k3
      have HX := Lib.hid HF.out.base
      have HB0 := Lib.hid (Below.refl wr.heap.size wr)
      have hl0 := HX.out.box.lt
      clear k2 k3 hcha hu2 HO HU HF HVL HFX HFC K1 K2 K3 HM HL
      have tok1 : True := trivial
      by_cases he : e1 = 0
      case neg =>
        have HZ := Lib.hid (hv2 he)
        have eu : (e1 != 0) = true := by simp [he]
        clear hv2 he
        go_wp2_with (first
          | (clear tok1; go_at_call 27; refine (KA.out _).mono ?_; rintro e w5 ⟨rfl, hb5⟩; have HX5 := Lib.hid (HX.out.below hb5); have HB5 := Lib.hid hb5; have HC5 := Lib.hid (Blk.new w5 77 #[.slice A c.mdl.bats.length ca, .slice A1 c.mdl.bows.length ca1, .slice A2 c.bows.length ca2, .int .i64 c.over, .int .i64 c.done, .int .i64 c.need, .slice A' m q]); clear x0 x1 x2 x3 x4 x5 x6; obtain ⟨x0, x1, x2, x3, x4, x5, x6⟩ := HX5.out.cells; clear hb5; have tok2 : True := trivial)
          | (clear tok2; go_at_call 28; refine (KS.out _ (HB5.out.alloc HB5.out.size _)).mono ?_; rintro e w6 ⟨rfl, hb6⟩; have HX6 := Lib.hid (HX5.out.below (al_back hb6)); have HB6 := Lib.hid (HB5.out.trans ((al_back hb6).mono HB5.out.size)); have HC6 := Lib.hid (HC5.out.below hb6 HC5.out.lt); clear x0 x1 x2 x3 x4 x5 x6; obtain ⟨x0, x1, x2, x3, x4, x5, x6⟩ := HX6.out.cells; have u0 := HC6.out.cell 0; have u1 := HC6.out.cell 1; have u2 := HC6.out.cell 2; have u3 := HC6.out.cell 3; have u4 := HC6.out.cell 4; have u5 := HC6.out.cell 5; have u6 := HC6.out.cell 6; have hl6 := HC6.out.lt; clear hb6; have tok3 : True := trivial))
        go_ret2
        exact ⟨by have h9 := HZ.out; injection h9 with h7 h8; rw [h7, h8] <;> rfl, Below.alloc HX6.out.bel HX6.out.bel.size _⟩
      subst he
      clear hv2
      go_wp2_with (first
        | (clear tok1; go_at_call 27; refine (KA.out _).mono ?_; rintro e w5 ⟨rfl, hb5⟩; have HX5 := Lib.hid (HX.out.below hb5); have HB5 := Lib.hid hb5; have HC5 := Lib.hid (Blk.new w5 77 #[.slice A c.mdl.bats.length ca, .slice A1 c.mdl.bows.length ca1, .slice A2 c.bows.length ca2, .int .i64 c.over, .int .i64 c.done, .int .i64 c.need, .slice A' m q]); clear x0 x1 x2 x3 x4 x5 x6; obtain ⟨x0, x1, x2, x3, x4, x5, x6⟩ := HX5.out.cells; clear hb5; have tok2 : True := trivial)
        | (clear tok2; go_at_call 28; refine (KS.out _ (HB5.out.alloc HB5.out.size _)).mono ?_; rintro e w6 ⟨rfl, hb6⟩; have HX6 := Lib.hid (HX5.out.below (al_back hb6)); have HB6 := Lib.hid (HB5.out.trans ((al_back hb6).mono HB5.out.size)); have HC6 := Lib.hid (HC5.out.below hb6 HC5.out.lt); clear x0 x1 x2 x3 x4 x5 x6; obtain ⟨x0, x1, x2, x3, x4, x5, x6⟩ := HX6.out.cells; have u0 := HC6.out.cell 0; have u1 := HC6.out.cell 1; have u2 := HC6.out.cell 2; have u3 := HC6.out.cell 3; have u4 := HC6.out.cell 4; have u5 := HC6.out.cell 5; have u6 := HC6.out.cell 6; have hl6 := HC6.out.lt; clear hb6; have tok3 : True := trivial)
        | (clear tok3; go_at_call 29; refine (KV.out _ (HB6.out.alloc HB6.out.size _)).mono ?_; rintro e w7 ⟨rfl, hb7⟩; have HX7 := Lib.hid (HX6.out.below (al_back hb7)); clear hb7; have tok4 : True := trivial))
      go_ret2
      exact ⟨rfl, HX7.out.bel⟩
end Go.Proofs.YtjchapoggmipbaaGreatDoor
