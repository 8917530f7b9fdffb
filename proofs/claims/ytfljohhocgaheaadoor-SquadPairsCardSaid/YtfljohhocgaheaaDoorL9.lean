/- The walk of SquadPairs: the first error of two sides is the reference's, and both orders of the sides are accepted alike. -/
import Derived.Test.YtfljohhocgaheaaDoorL3
import Derived.Test.YtfljohhocgaheaaDoorU7
import Derived.Deep.RegionHeld3
import Derived.Deep.RegionWith
import Derived.Deep.DeepCutAuto
set_option linter.unusedSimpArgs false
set_option linter.unusedVariables false
namespace Go.Proofs.YtfljohhocgaheaaDoor
open Go.RowKit

/-- The three boxes, whatever their slices lead to. -/
structure P0 (w W : World) (r : Rul) (pr : Value) (a : Sqd) (pa : Value) (b : Sqd) (pb : Value) : Prop where
  bel : Below w.heap.size w W
  br : Blk W w.heap.size 44 (rulCells r pr)
  ba : Blk W (w.heap.size + 1) 24 #[.string (S a.name), pa, .int .i64 a.cap, .int .i64 a.kee]
  bb : Blk W (w.heap.size + 1 + 1) 24 #[.string (S b.name), pb, .int .i64 b.cap, .int .i64 b.kee]
section
variable {w W W' : World} {r : Rul} {pr : Value} {a : Sqd} {pa : Value} {b : Sqd} {pb : Value}
theorem P0.lt (h : P0 w W r pr a pa b pb) : w.heap.size + 1 + 1 < W.heap.size := h.bb.lt
theorem P0.below (h : P0 w W r pr a pa b pb) (hb : Below W.heap.size W W') : P0 w W' r pr a pa b pb := ⟨h.bel.trans (hb.mono h.bel.size), h.br.below hb h.br.lt, h.ba.below hb h.ba.lt, h.bb.below hb h.bb.lt⟩
theorem P0.drew (h : P0 w W r pr a pa b pb) : P0 w W.drew r pr a pa b pb := h.below (Below.drew (Below.refl _ _))
theorem P0.new : P0 w (((w.alloc (.cells (rulCells r pr) 44)).alloc (.cells #[.string (S a.name), pa, .int .i64 a.cap, .int .i64 a.kee] 24)).alloc (.cells #[.string (S b.name), pb, .int .i64 b.cap, .int .i64 b.kee] 24)) r pr a pa b pb := by
  have z1 : (w.alloc (.cells (rulCells r pr) 44)).heap.size = w.heap.size + 1 := by simp
  have z2 : ((w.alloc (.cells (rulCells r pr) 44)).alloc (.cells #[.string (S a.name), pa, .int .i64 a.cap, .int .i64 a.kee] 24)).heap.size = w.heap.size + 1 + 1 := by simp
  have ka := Blk.new (w.alloc (.cells (rulCells r pr) 44)) 24 #[.string (S a.name), pa, .int .i64 a.cap, .int .i64 a.kee]
  have kb := Blk.new ((w.alloc (.cells (rulCells r pr) 44)).alloc (.cells #[.string (S a.name), pa, .int .i64 a.cap, .int .i64 a.kee] 24)) 24 #[.string (S b.name), pb, .int .i64 b.cap, .int .i64 b.kee]
  rw [z1] at ka
  rw [z2] at kb
  exact ⟨Below.alloc (Below.alloc (Below.alloc (Below.refl _ _) (Nat.le_refl _) _) (by simp) _) (by rw [z2]; omega) _, ((Blk.new w _ _).alloc _).alloc _, ka.alloc _, kb⟩
theorem P0.cells (h : P0 w W r pr a pa b pb) :
    (W.cell? ⟨w.heap.size, 0, none⟩ = some (.string (S r.name)) ∧ W.cell? ⟨w.heap.size, 13, none⟩ = some pr ∧ W.frozen? ⟨w.heap.size, 0, none⟩ = false ∧ W.frozen? ⟨w.heap.size, 13, none⟩ = false) ∧
    (W.cell? ⟨w.heap.size + 1, 0, none⟩ = some (.string (S a.name)) ∧ W.cell? ⟨w.heap.size + 1, 1, none⟩ = some pa ∧ W.cell? ⟨w.heap.size + 1, 2, none⟩ = some (.int .i64 a.cap) ∧ W.cell? ⟨w.heap.size + 1, 3, none⟩ = some (.int .i64 a.kee) ∧ W.frozen? ⟨w.heap.size + 1, 0, none⟩ = false ∧ W.frozen? ⟨w.heap.size + 1, 1, none⟩ = false ∧ W.frozen? ⟨w.heap.size + 1, 2, none⟩ = false ∧ W.frozen? ⟨w.heap.size + 1, 3, none⟩ = false) ∧
    (W.cell? ⟨w.heap.size + 1 + 1, 0, none⟩ = some (.string (S b.name)) ∧ W.cell? ⟨w.heap.size + 1 + 1, 1, none⟩ = some pb ∧ W.cell? ⟨w.heap.size + 1 + 1, 2, none⟩ = some (.int .i64 b.cap) ∧ W.cell? ⟨w.heap.size + 1 + 1, 3, none⟩ = some (.int .i64 b.kee) ∧ W.frozen? ⟨w.heap.size + 1 + 1, 0, none⟩ = false ∧ W.frozen? ⟨w.heap.size + 1 + 1, 1, none⟩ = false ∧ W.frozen? ⟨w.heap.size + 1 + 1, 2, none⟩ = false ∧ W.frozen? ⟨w.heap.size + 1 + 1, 3, none⟩ = false) :=
  ⟨⟨h.br.cell 0, h.br.cell 13, h.br.frozen 0, h.br.frozen 13⟩, h.ba.four, h.bb.four⟩
end
theorem Blk.only {w W : World} {g k : Nat} {t : TypeId} {cs : Array Value} (h : Blk w g t cs) (ho : Only k w W) (hne : g ≠ k) : Blk W g t cs := (ho.block g h.lt fun e => hne (Option.some.inj e)).trans h
section
variable {w W W' : World} {r : Rul} {pr : Value} {a : Sqd} {pa : Value} {b : Sqd} {pb : Value}
theorem P0.cut (h : P0 w W r pr a pa b pb) (x : List UInt8) (ps : List Pha) (pv : Value) :
    P0 w (((W.setCell ⟨w.heap.size, 0, none⟩ (.string (S x))).setCell ⟨w.heap.size, 13, none⟩ pv).drew) { r with name := x, power := ps } pv a pa b pb :=
  ⟨Below.drew (Below.setCell (Below.setCell h.bel (p := ⟨w.heap.size, 0, none⟩) (Nat.le_refl _) _) (p := ⟨w.heap.size, 13, none⟩) (Nat.le_refl _) _), (h.br.set_ 0 _).set_ 13 _,
    (h.ba.far (p := ⟨w.heap.size, 0, none⟩) (by show w.heap.size + 1 ≠ w.heap.size; omega) _).far (p := ⟨w.heap.size, 13, none⟩) (by show w.heap.size + 1 ≠ w.heap.size; omega) _,
    (h.bb.far (p := ⟨w.heap.size, 0, none⟩) (by show w.heap.size + 1 + 1 ≠ w.heap.size; omega) _).far (p := ⟨w.heap.size, 13, none⟩) (by show w.heap.size + 1 + 1 ≠ w.heap.size; omega) _⟩
theorem P0.stored {fa fb : Sqd} {qa qb : Value} (h : P0 w W r pr a pa b pb) (hr : Sl 3 elPha w (· < w.heap.size) pr r.power)
    (sa : Sl 1 elStr W (fun x => w.heap.size + 1 + 1 < x ∧ x < W.heap.size) qa fa.players) (sb : Sl 1 elStr W (fun x => w.heap.size + 1 + 1 < x ∧ x < W.heap.size) qb fb.players) :
    Pai w (put4 (put4 W (w.heap.size + 1) (.string (S fa.name)) qa (.int .i64 fa.cap) (.int .i64 fa.kee)) (w.heap.size + 1 + 1) (.string (S fb.name)) qb (.int .i64 fb.cap) (.int .i64 fb.kee)) w.heap.size r pr fa qa fb qb := by
  have ho1 := put4_only W (w.heap.size + 1) (.string (S fa.name)) qa (.int .i64 fa.cap) (.int .i64 fa.kee)
  have ka := blk_put4 h.ba (.string (S fa.name)) qa (.int .i64 fa.cap) (.int .i64 fa.kee)
  generalize put4 W (w.heap.size + 1) (.string (S fa.name)) qa (.int .i64 fa.cap) (.int .i64 fa.kee) = W1 at ho1 ka ⊢
  have hb1 := h.bb.only ho1 (by omega)
  have ho2 := put4_only W1 (w.heap.size + 1 + 1) (.string (S fb.name)) qb (.int .i64 fb.cap) (.int .i64 fb.kee)
  have kb := blk_put4 hb1 (.string (S fb.name)) qb (.int .i64 fb.cap) (.int .i64 fb.kee)
  generalize put4 W1 (w.heap.size + 1 + 1) (.string (S fb.name)) qb (.int .i64 fb.cap) (.int .i64 fb.kee) = W2 at ho2 kb ⊢
  have hlt := h.lt
  have z1 := ho1.size
  have z2 := ho2.size
  have bel : Below w.heap.size w W2 := (h.bel.trans (ho1.below (by omega) (by omega))).trans (ho2.below (by omega) (by omega))
  have sm : Same (fun x => w.heap.size + 1 + 1 < x ∧ x < W.heap.size) W W2 := (ho1.same fun x hx => ⟨hx.2, by have := hx.1; omega⟩).trans (ho2.same fun x hx => ⟨by have := hx.2; omega, by have := hx.1; omega⟩)
  exact ⟨bel, ⟨(h.br.only ho1 (by omega)).only ho2 (by omega), hr.keep elPha_good (Same.of_below bel) fun x hx => by have := bel.size; omega⟩,
    ⟨ka.only ho2 (by omega), sa.keep elStr_good sm fun x hx => by have := hx.2; omega⟩, ⟨kb, sb.keep elStr_good sm fun x hx => by have := hx.2; omega⟩⟩
end
/-- Few rules. -/
def fewR (r : Rul) : Rul := { r with name := r.name.take 20, power := r.power.take 10 }
set_option maxRecDepth 100000 in
set_option maxHeartbeats 2000000 in
theorem law_Pairs (r : Rul) (pr : Value) (a : Sqd) (pa : Value) (b : Sqd) (pb : Value) (w : World) (hg : Glob w) (hr : Sl 3 elPha w (· < w.heap.size) pr r.power) (ha : Lies w a pa) (hb : Lies w b pb) :
    Calls Tryd.prog 9 #[rulV r pr, sqV a pa, sqV b pb] w fun e w' => e = .returned (.bool true) ∧ Below w.heap.size w w' := by
  obtain ⟨Ar, cr, rfl, hcr, hcr2⟩ := hr.shape
  obtain ⟨Aa, ca, rfl, hca, hca2⟩ := Sl.shape ha
  obtain ⟨Ab, cb, rfl, hcb, hcb2⟩ := Sl.shape hb
  have h0 : P0 w _ r (.slice Ar r.power.length cr) a (.slice Aa a.players.length ca) b (.slice Ab b.players.length cb) := P0.new
  have haw : ∀ W, P0 w W r (.slice Ar r.power.length cr) a (.slice Aa a.players.length ca) b (.slice Ab b.players.length cb) → Calls Tryd.prog 10 #[] W fun e w1 => e = .returned (.bool true) ∧ P0 w w1 r (.slice Ar r.power.length cr) a (.slice Aa a.players.length ca) b (.slice Ab b.players.length cb) := fun W h => by
    refine (law_awake W (hg.below h.bel)).mono ?_
    rintro e w1 ⟨rfl, hb⟩
    exact ⟨rfl, h.below hb⟩
  have hrt := Sl.take hr (k := (r.power.take 10).length) (by rw [List.length_take]; omega)
  rw [show r.power.take (r.power.take 10).length = r.power.take 10 by rw [List.length_take, List.take_eq_take_iff]; omega] at hrt
  obtain ⟨n, hn⟩ : ∃ n, n = (r.power.take 10).length := ⟨_, rfl⟩
  have hm : (min (r.power.length : Int) 10) = (n : Int) := by rw [hn, List.length_take]; omega
  have hS := few_str r.name
  have hcap : n ≤ cr := by rw [hn, List.length_take]; omega
  rw [← hn] at hrt
  have hlen : (fewR r).power.length = n := hn.symm
  have hnm : (fewR r).name.length ≤ 1000000000 := by show (r.name.take 20).length ≤ _; rw [List.length_take]; omega
  have hfl : ∀ q : Sqd, Modest (fewS q) := fun q => by
    have h1 := (fewS_len q).1
    have h2 := (fewS_len q).2.1
    exact ⟨by omega, fun p hp => by have := h2 p hp; omega⟩
  have hfa : ∀ W q pq, Below w.heap.size w W → Lies w q pq → w.heap.size + 1 + 1 < W.heap.size → Calls Tryd.prog 11 #[sqV q pq] W fun e W' => ∃ A c, e = .returned (.agg #[.string (S (fewS q).name), .slice A (fewS q).players.length c, .int .i64 (fewS q).cap, .int .i64 (fewS q).kee]) ∧ Below W.heap.size W W' ∧ Sl 1 elStr W' (fun x => w.heap.size + 1 + 1 < x ∧ x < W'.heap.size) (.slice A (fewS q).players.length c) (fewS q).players := fun W q pq hW hq hz => by
    refine (law_few q pq W (hq.below hW)).mono ?_
    rintro e W' ⟨pv, rfl, hs, hb⟩
    obtain ⟨A2, c2, rfl, _⟩ := hs.shape
    exact ⟨A2, c2, rfl, hb, hs.keep elStr_good (Same.refl _ _) fun x hx => ⟨by have := hx.1; omega, hx.2⟩⟩
  obtain ⟨r', hr'⟩ : ∃ q, q = fewR r := ⟨_, rfl⟩
  obtain ⟨fa, hfae⟩ : ∃ q, q = fewS a := ⟨_, rfl⟩
  obtain ⟨fb, hfbe⟩ : ∃ q, q = fewS b := ⟨_, rfl⟩
  have hma := hfl a
  have hmb := hfl b
  rw [← hfae] at hma
  rw [← hfbe] at hmb
  have kfa : ∀ W q pq, P0 w W q pq a (.slice Aa a.players.length ca) b (.slice Ab b.players.length cb) → Calls Tryd.prog 11 #[.agg #[.string (S a.name), .slice Aa a.players.length ca, .int .i64 a.cap, .int .i64 a.kee]] W fun e W' => ∃ A c, e = .returned (.agg #[.string (S fa.name), .slice A fa.players.length c, .int .i64 fa.cap, .int .i64 fa.kee]) ∧ P0 w W' q pq a (.slice Aa a.players.length ca) b (.slice Ab b.players.length cb) ∧ Sl 1 elStr W' (fun x => w.heap.size + 1 + 1 < x ∧ x < W'.heap.size) (.slice A fa.players.length c) fa.players := fun W q pq h => by
    refine (hfa W a _ h.bel ha h.lt).mono ?_
    rintro e W' ⟨A, c, rfl, hb, hs⟩
    rw [← hfae] at hs ⊢
    exact ⟨A, c, rfl, h.below hb, hs⟩
  have kfb : ∀ W q pq A c, P0 w W q pq a (.slice Aa a.players.length ca) b (.slice Ab b.players.length cb) ∧ Sl 1 elStr W (fun x => w.heap.size + 1 + 1 < x ∧ x < W.heap.size) (.slice A fa.players.length c) fa.players → Calls Tryd.prog 11 #[.agg #[.string (S b.name), .slice Ab b.players.length cb, .int .i64 b.cap, .int .i64 b.kee]] W fun e W' => ∃ A2 c2, e = .returned (.agg #[.string (S fb.name), .slice A2 fb.players.length c2, .int .i64 fb.cap, .int .i64 fb.kee]) ∧ P0 w W' q pq a (.slice Aa a.players.length ca) b (.slice Ab b.players.length cb) ∧ Sl 1 elStr W' (fun x => w.heap.size + 1 + 1 < x ∧ x < W'.heap.size) (.slice A fa.players.length c) fa.players ∧ Sl 1 elStr W' (fun x => w.heap.size + 1 + 1 < x ∧ x < W'.heap.size) (.slice A2 fb.players.length c2) fb.players := fun W q pq A c ⟨h, hsa⟩ => by
    refine (hfa W b _ h.bel hb h.lt).mono ?_
    rintro e W' ⟨A2, c2, rfl, hb, hs⟩
    rw [← hfbe] at hs ⊢
    exact ⟨A2, c2, rfl, h.below hb, hsa.keep elStr_good (Same.below hb fun x hx => hx.2) (fun x hx => ⟨hx.1, Nat.lt_of_lt_of_le hx.2 hb.size⟩), hs⟩
  obtain ⟨z1, hz1⟩ : ∃ z, z = pairS r' fa fb := ⟨_, rfl⟩
  obtain ⟨z2, hz2⟩ : ∃ z, z = pairS r' fb fa := ⟨_, rfl⟩
  have hzz := pairS_comm r' fa fb
  rw [← hz1, ← hz2] at hzz
  rw [← hr'] at hlen hnm
  have hcut : ∀ W, P0 w W r (.slice Ar r.power.length cr) a (.slice Aa a.players.length ca) b (.slice Ab b.players.length cb) → P0 w (((W.setCell ⟨w.heap.size, 0, none⟩ (.string (S (r.name.take 20)))).setCell ⟨w.heap.size, 13, none⟩ (.slice Ar n cr)).drew) r' (.slice Ar n cr) a (.slice Aa a.players.length ca) b (.slice Ab b.players.length cb) := fun W h => by
    rw [hr']; exact h.cut (r.name.take 20) (r.power.take 10) _
  have hrt' : Sl 3 elPha w (· < w.heap.size) (.slice Ar n cr) r'.power := by rw [hr']; exact hrt
  have kp1 : ∀ W qa qb, Pai w W w.heap.size r' (.slice Ar n cr) fa qa fb qb → Calls Tryd.prog 25 #[rulV r' (.slice Ar n cr), sqV fa qa, sqV fb qb] W fun e W' => e = .returned (.int .i64 z1) ∧ Pai w W' w.heap.size r' (.slice Ar n cr) fa qa fb qb := fun W qa qb h => by
    refine (sq_Pair r' _ fa _ fb _ W h.r.sl h.a.sl h.b.sl hnm hma hmb).mono ?_
    rintro e W' ⟨rfl, hb⟩
    exact ⟨by rw [hz1], h.below hb⟩
  have kp2 : ∀ W qa qb, Pai w W w.heap.size r' (.slice Ar n cr) fa qa fb qb → Calls Tryd.prog 25 #[rulV r' (.slice Ar n cr), sqV fb qb, sqV fa qa] W fun e W' => e = .returned (.int .i64 z2) ∧ Pai w W' w.heap.size r' (.slice Ar n cr) fa qa fb qb := fun W qa qb h => by
    refine (sq_Pair r' _ fb _ fa _ W h.r.sl h.b.sl h.a.sl hnm hmb hma).mono ?_
    rintro e W' ⟨rfl, hb⟩
    exact ⟨by rw [hz2], h.below hb⟩
  have kp3 : ∀ W qa qb, Pai w W w.heap.size r' (.slice Ar n cr) fa qa fb qb → Calls Tryd.prog 26 #[rulV r' (.slice Ar n cr), sqV fa qa, sqV fb qb] W fun e W' => e = .returned (.int .i64 z1) ∧ Pai w W' w.heap.size r' (.slice Ar n cr) fa qa fb qb := fun W qa qb h => by
    refine (rsq_Pair r' _ fa _ fb _ W h.r.sl h.a.sl h.b.sl hnm hma hmb).mono ?_
    rintro e W' ⟨rfl, hb⟩
    exact ⟨by rw [hz1], h.below hb⟩
  unfold rulV rulCells sqV at kp1 kp2 kp3
  have HCUT := Lib.hid hcut
  have HRT := Lib.hid hrt'
  have KFA := Lib.hid kfa
  have KFB := Lib.hid kfb
  have KP1 := Lib.hid kp1
  have KP2 := Lib.hid kp2
  have KP3 := Lib.hid kp3
  have HZ := Lib.hid hzz
  clear hcut hrt hrt' hfa kfa kfb kp1 kp2 kp3 hzz hz1 hz2 hma hmb hfl hnm hlen hr' hfae hfbe hn
  unfold rulCells at h0
  have HAW := Lib.hid haw
  have H0 := Lib.hid h0
  clear haw h0 hg hr ha hb
  unfold rulV rulCells sqV
  go_enter Tryd.func9, Tryd.ntmps9
  go_wp2_with (go_at_call 10; refine (HAW.out _ H0.out).mono ?_; rintro e w1 ⟨rfl, h1⟩; obtain ⟨⟨y0, y13, yf0, yf13⟩, ⟨u0, u1, u2, u3, _⟩, ⟨v0, v1, v2, v3, _⟩⟩ := h1.cells; have H1 := Lib.hid h1; clear h1)
  go_region
  have h2 := HCUT.out _ H1.out
  revert h2
  generalize World.drew _ = W2
  intro h2
  obtain ⟨_, ⟨u0, u1, u2, u3, uf0, uf1, uf2, uf3⟩, ⟨v0, v1, v2, v3, vf0, vf1, vf2, vf3⟩⟩ := h2.cells
  have H2 := Lib.hid h2
  clear h2 H1
  go_wp2_with fail
  go_cut [] (fun wx => ∃ A3 c3 A4 c4, Pai w wx w.heap.size r' (.slice Ar n cr) fa (.slice A3 fa.players.length c3) fb (.slice A4 fb.players.length c4))
  case first =>
    go_region_with
      (first
        | (go_at_call 11; ((with_reducible refine (KFA.out _ _ _ H2.out.drew).mono ?_); rintro e w3 ⟨A3, c3, rfl, h3, hs3⟩; obtain ⟨_, ⟨u0, u1, u2, u3, uf0, uf1, uf2, uf3⟩, ⟨v0, v1, v2, v3, vf0, vf1, vf2, vf3⟩⟩ := h3.cells; have H3 := Lib.hid (And.intro h3 hs3); clear h3 hs3))
        | (go_at_call 11; refine (KFB.out _ _ _ _ _ H3.out).mono ?_; rintro e w4 ⟨A4, c4, rfl, h4, hs3, hs4⟩; obtain ⟨_, ⟨u0, u1, u2, u3, uf0, uf1, uf2, uf3⟩, ⟨v0, v1, v2, v3, vf0, vf1, vf2, vf3⟩⟩ := h4.cells; have H4 := Lib.hid (And.intro h4 (And.intro hs3 hs4)); clear h4 hs3 hs4))
    all_goals
      have h5 := H4.out.1.stored HRT.out H4.out.2.1 H4.out.2.2
      go_wp2_with fail
      go_meet
    all_goals exact ⟨_, _, _, _, h5⟩
  case rest =>
    obtain ⟨A3, c3, A4, c4, h5⟩ := hcut
    obtain ⟨⟨y0, y1, y2, y3, y4, y5, y6, y7, y8, y9, y10, y11, y12, y13⟩, ⟨u0, u1, u2, u3⟩, ⟨v0, v1, v2, v3⟩⟩ := h5.cells
    have H5 := Lib.hid h5
    clear h5 H2
    by_cases hz : z1 = 0
    · have hz' := HZ.out.1 hz
      subst hz
      subst hz'
      go_wp2_with (first
        | (go_at_call 25; have _t := H5; ((with_reducible refine (KP1.out _ _ _ H5.out).mono ?_); rintro e w6 ⟨rfl, h6⟩; obtain ⟨⟨y0, y1, y2, y3, y4, y5, y6, y7, y8, y9, y10, y11, y12, y13⟩, ⟨u0, u1, u2, u3⟩, ⟨v0, v1, v2, v3⟩⟩ := h6.cells; have H6 := Lib.hid h6; clear h6 H5))
        | (go_at_call 26; refine (KP3.out _ _ _ H6.out).mono ?_; rintro e w7 ⟨rfl, h7⟩; obtain ⟨⟨y0, y1, y2, y3, y4, y5, y6, y7, y8, y9, y10, y11, y12, y13⟩, ⟨u0, u1, u2, u3⟩, ⟨v0, v1, v2, v3⟩⟩ := h7.cells; have H7 := Lib.hid h7; clear h7)
        | (go_at_call 25; refine (KP2.out _ _ _ H7.out).mono ?_; rintro e w8 ⟨rfl, h8⟩; have H8 := Lib.hid h8; clear h8))
      go_ret
      exact ⟨rfl, H8.out.bel⟩
    · have hz' : ¬ z2 = 0 := fun h => hz (HZ.out.2 h)
      have e1 : (z1 == 0) = false := beq_eq_false_iff_ne.2 hz
      have e2 : (z2 == 0) = false := beq_eq_false_iff_ne.2 hz'
      clear hz hz'
      go_wp2_with (first
        | (go_at_call 25; have _t := H5; ((with_reducible refine (KP1.out _ _ _ H5.out).mono ?_); rintro e w6 ⟨rfl, h6⟩; obtain ⟨⟨y0, y1, y2, y3, y4, y5, y6, y7, y8, y9, y10, y11, y12, y13⟩, ⟨u0, u1, u2, u3⟩, ⟨v0, v1, v2, v3⟩⟩ := h6.cells; have H6 := Lib.hid h6; clear h6 H5))
        | (go_at_call 26; refine (KP3.out _ _ _ H6.out).mono ?_; rintro e w7 ⟨rfl, h7⟩; obtain ⟨⟨y0, y1, y2, y3, y4, y5, y6, y7, y8, y9, y10, y11, y12, y13⟩, ⟨u0, u1, u2, u3⟩, ⟨v0, v1, v2, v3⟩⟩ := h7.cells; have H7 := Lib.hid h7; clear h7)
        | (go_at_call 25; refine (KP2.out _ _ _ H7.out).mono ?_; rintro e w8 ⟨rfl, h8⟩; have H8 := Lib.hid h8; clear h8))
      go_ret
      exact ⟨rfl, H8.out.bel⟩
end Go.Proofs.YtfljohhocgaheaaDoor
