/- The walk of SquadParses: the side of any text and its diagnostics are the reference's; before it the contracts of the reference's Same and of the law's diags at equal arguments. -/
import Derived.Test.YtfljohhocgaheaaDoorL3
import Derived.Test.YtfljohhocgaheaaDoorF14
import Derived.Laws.StructEq
set_option linter.unusedSimpArgs false
set_option linter.unusedVariables false
namespace Go.Proofs.YtfljohhocgaheaaDoor
open Go.RowKit

set_option maxRecDepth 100000 in
set_option maxHeartbeats 2000000 in
theorem rsq_Same (q : Sqd) (pv pv' : Value) (w : World) (h : Lies w q pv) (h' : Lies w q pv') :
    Calls Tryd.prog 16 #[sqV q pv, sqV q pv'] w fun e w' => e = .returned (.bool true) ∧ Below w.heap.size w w' := by
  unfold sqV
  obtain ⟨A, c, rfl, hc, hc2⟩ := Sl.shape h
  obtain ⟨A', c', rfl, hc', hc2'⟩ := Sl.shape h'
  have H := Lib.hid h
  have H' := Lib.hid h'
  clear h h'
  have hz : (w.alloc (.cells #[.string (S q.name), .slice A q.players.length c, .int .i64 q.cap, .int .i64 q.kee] 24)).heap.size = w.heap.size + 1 := by simp
  have hk1 := Blk.new w 24 #[.string (S q.name), .slice A q.players.length c, .int .i64 q.cap, .int .i64 q.kee]
  have hk2 := Blk.new (w.alloc (.cells #[.string (S q.name), .slice A q.players.length c, .int .i64 q.cap, .int .i64 q.kee] 24)) 24 #[.string (S q.name), .slice A' q.players.length c', .int .i64 q.cap, .int .i64 q.kee]
  rw [hz] at hk2
  have HK1 := Lib.hid (hk1.alloc (.cells #[.string (S q.name), .slice A' q.players.length c', .int .i64 q.cap, .int .i64 q.kee] 24))
  have HK2 := Lib.hid hk2
  clear hk1 hk2 hz
  go_enter Tryd.func16, Tryd.ntmps16
  go_wp2
  go_loopw [37] (fun i wr => ∃ k : Nat, k ≤ q.players.length ∧ i = .int .i64 k ∧ Below w.heap.size w wr ∧ Blk wr w.heap.size 24 #[.string (S q.name), .slice A q.players.length c, .int .i64 q.cap, .int .i64 q.kee] ∧ Blk wr (w.heap.size + 1) 24 #[.string (S q.name), .slice A' q.players.length c', .int .i64 q.cap, .int .i64 q.kee])
    (fun i _ => q.players.length - (intOf i).toNat)
  case atStart => exact ⟨0, Nat.zero_le _, rfl, Below.alloc (Below.alloc (Below.refl _ _) (Nat.le_refl _) _) (by simp) _, HK1.out, HK2.out⟩
  case round =>
    obtain ⟨k, hk, rfl, hb, k1, k2⟩ := hrel
    by_cases hlt : k < q.players.length
    · obtain ⟨b, o, rfl, hbl, hcell⟩ := H.out.str_at hlt
      obtain ⟨b', o', rfl, hbl', hcell'⟩ := H'.out.str_at hlt
      have y := (hb.cell (p := ⟨b, o + k, none⟩) hbl).trans hcell
      have y' := (hb.cell (p := ⟨b', o' + k, none⟩) hbl').trans hcell'
      obtain ⟨p, hp⟩ : ∃ p, p = q.players[k] := ⟨_, rfl⟩
      rw [← hp] at y y'
      obtain ⟨_, x1, _⟩ := k1.four
      obtain ⟨_, z1, _⟩ := k2.four
      have HB := Lib.hid hb
      have K1 := Lib.hid k1
      have K2 := Lib.hid k2
      clear hb k1 k2 hp hcell hcell'
      go_wp2
      go_quiet (fail)
      go_wp2
      go_roundw
      case rel => exact ⟨k + 1, by omega, by go_num, Below.drewN_ HB.out _, K1.out, K2.out⟩
      case measure => simp [intOf]; omega
    · obtain rfl : k = q.players.length := by omega
      have HB := Lib.hid hb
      clear hb k1 k2
      go_wp2
      go_ret
      exact ⟨rfl, HB.out⟩

set_option maxRecDepth 100000 in
set_option maxHeartbeats 2000000 in
theorem law_diags (l : List Dia) (v v' : Value) (F F' : Nat → Prop) (w : World) (h : Sl 3 elDia w F v l) (h' : Sl 3 elDia w F' v' l) :
    Calls Tryd.prog 17 #[v, v'] w fun e w' => e = .returned (.bool true) ∧ ∃ n, w' = w.drewN n := by
  obtain ⟨A, c, rfl, hc, hc2⟩ := Sl.shape h
  obtain ⟨A', c', rfl, hc', hc2'⟩ := Sl.shape h'
  have H := Lib.hid h
  have H' := Lib.hid h'
  clear h h'
  go_enter Tryd.func17, Tryd.ntmps17
  go_wp2
  go_loopw [13] (fun i wr => ∃ k : Nat, k ≤ l.length ∧ i = .int .i64 k ∧ ∃ n, wr = w.drewN n) (fun i _ => l.length - (intOf i).toNat)
  case atStart => exact ⟨0, Nat.zero_le _, rfl, 0, rfl⟩
  case round =>
    obtain ⟨k, hk, rfl, n, rfl⟩ := hrel
    by_cases hlt : k < l.length
    · obtain ⟨b, o, cs, rfl, hbl, hcl, hcell, hel⟩ := H.out.at hlt
      obtain ⟨b', o', cs', rfl, hbl', hcl', hcell', hel'⟩ := H'.out.at hlt
      obtain ⟨⟨dl, dc, dk⟩, hd⟩ : ∃ d, d = l[k] := ⟨_, rfl⟩
      rw [← hd] at hel hel'
      have e1 : cs = [.int .i64 dl, .int .i64 dc, .int .i64 dk] := hel
      have e2 : cs' = [.int .i64 dl, .int .i64 dc, .int .i64 dk] := hel'
      subst e1 e2
      have y0 := hcell 0 _ rfl
      have y1 := hcell 1 _ rfl
      have y2 := hcell 2 _ rfl
      have z0 := hcell' 0 _ rfl
      have z1 := hcell' 1 _ rfl
      have z2 := hcell' 2 _ rfl
      rw [Nat.add_zero] at y0 z0
      clear hcell hcell' hel hel' hcl hcl' hd
      go_wp2
      go_quiet (fail)
      go_wp2
      go_roundw
      case rel => exact ⟨k + 1, by omega, by go_num, _, rfl⟩
      case measure => simp [intOf]; omega
    · obtain rfl : k = l.length := by omega
      go_wp2
      go_ret
      exact ⟨rfl, _, rfl⟩

/-- A side and diagnostics that were read: the side boxed in block g. -/
structure Par (w W : World) (q : Sqd) (ds : List Dia) (pv dv : Value) (g : Nat) : Prop where
  bel : Below w.heap.size w W
  blk : Blk W g 24 #[.string (S q.name), pv, .int .i64 q.cap, .int .i64 q.kee]
  sl : Lies W q pv
  dia : Sl 3 elDia W (· < W.heap.size) dv ds
theorem Par.below {w W W' : World} {q : Sqd} {ds : List Dia} {pv dv : Value} {g : Nat} (h : Par w W q ds pv dv g) (hb : Below W.heap.size W W') : Par w W' q ds pv dv g :=
  ⟨h.bel.trans (hb.mono h.bel.size), h.blk.below hb h.blk.lt, h.sl.below hb, h.dia.keep elDia_good (Same.below hb fun _ h => h) fun b h => Nat.lt_of_lt_of_le h hb.size⟩
theorem Par.alloc {w W : World} {q : Sqd} {ds : List Dia} {pv dv : Value} {g : Nat} (h : Par w W q ds pv dv g) (o : Obj) : Par w (W.alloc o) q ds pv dv g := h.below (Below.alloc (Below.refl _ _) (Nat.le_refl _) o)
theorem Par.new {w W : World} {q : Sqd} {ds : List Dia} {pv dv : Value} (hb : Below w.heap.size w W) (hs : Lies W q pv) (hd : Sl 3 elDia W (· < W.heap.size) dv ds) :
    Par w (W.alloc (.cells #[.string (S q.name), pv, .int .i64 q.cap, .int .i64 q.kee] 24)) q ds pv dv W.heap.size :=
  have hb' := Below.alloc (Below.refl W.heap.size W) (Nat.le_refl _) (.cells #[.string (S q.name), pv, .int .i64 q.cap, .int .i64 q.kee] 24)
  ⟨hb.trans (hb'.mono hb.size), Blk.new W _ _, hs.below hb', hd.keep elDia_good (Same.below hb' fun _ h => h) fun b h => Nat.lt_of_lt_of_le h hb'.size⟩
set_option maxRecDepth 100000 in
set_option maxHeartbeats 4000000 in
theorem law_Parses (s : ByteArray) (w : World) (hg : Glob w) (hs : s.size ≤ maxLen) :
    Calls Tryd.prog 4 #[.string s] w fun e w' => e = .returned (.bool true) ∧ Below w.heap.size w w' := by
  unfold maxLen at hs
  have haw := law_awake w hg
  obtain ⟨t, ht⟩ : ∃ t, t = s.extract 0 (min (s.size : Int) 600).toNat := ⟨_, rfl⟩
  have htl : t.size ≤ 600 := by rw [ht]; simp; omega
  obtain ⟨⟨q, ds⟩, hq⟩ : ∃ r, r = parseS t.data.toList := ⟨_, rfl⟩
  have hpa : ∀ W, Below w.heap.size w W → Calls Tryd.prog 14 #[.string t] W fun e9 w' => ∃ A c D d, e9 = .returned (.tuple #[.agg #[.string (S q.name), .slice A q.players.length c, .int .i64 q.cap, .int .i64 q.kee], .slice D ds.length d]) ∧ Par w (w'.alloc (.cells #[.string (S q.name), .slice A q.players.length c, .int .i64 q.cap, .int .i64 q.kee] 24)) q ds (.slice A q.players.length c) (.slice D ds.length d) w'.heap.size := fun W hW => by
    refine (sq_Parse t W (hg.below hW) (by omega)).mono ?_
    rintro e9 w' ⟨pv, dv, rfl, hs, hd, hb⟩
    rw [← hq] at hs hd ⊢
    obtain ⟨A, c, rfl, _⟩ := hs.shape
    obtain ⟨D, d, rfl, _⟩ := hd.shape
    exact ⟨A, c, D, d, rfl, Par.new (hW.trans (hb.mono hW.size)) (hs.keep elStr_good (Same.refl _ _) fun b h => h.2) (hd.keep elDia_good (Same.refl _ _) fun b h => h.2)⟩
  have hrp : ∀ W pv dv g, Par w W q ds pv dv g → Calls Tryd.prog 15 #[.string t] W fun e9 w' => ∃ A c D d, e9 = .returned (.tuple #[.agg #[.string (S q.name), .slice A q.players.length c, .int .i64 q.cap, .int .i64 q.kee], .slice D ds.length d]) ∧ Par w w' q ds pv dv g ∧ Par w (w'.alloc (.cells #[.string (S q.name), .slice A q.players.length c, .int .i64 q.cap, .int .i64 q.kee] 24)) q ds (.slice A q.players.length c) (.slice D ds.length d) w'.heap.size := fun W pv dv g hW => by
    refine (rsq_Parse t W (by omega)).mono ?_
    rintro e9 w' ⟨pv, dv, rfl, hs, hd, hb⟩
    rw [← hq] at hs hd ⊢
    obtain ⟨A, c, rfl, _⟩ := hs.shape
    obtain ⟨D, d, rfl, _⟩ := hd.shape
    exact ⟨A, c, D, d, rfl, hW.below hb, Par.new (hW.below hb).bel (hs.keep elStr_good (Same.refl _ _) fun b h => h.2) (hd.keep elDia_good (Same.refl _ _) fun b h => h.2)⟩
  have HAW := Lib.hid haw
  have HPA := Lib.hid hpa
  have HRP := Lib.hid hrp
  have HT := Lib.hid ht
  clear haw hpa hrp hg ht hq
  go_enter Tryd.func4, Tryd.ntmps4
  go_wp2_with (go_at_call 10; refine HAW.out.mono ?_; rintro e w1 ⟨rfl, hb1⟩; have HB1 := Lib.hid hb1; clear hb1)
  rw [← HT.out]
  refine (HPA.out _ HB1.out).mono ?_
  rintro x w3 ⟨A, c, D, d, rfl, hp3⟩
  have HP3 := Lib.hid hp3
  clear hp3
  go_wp2_with (go_at_call 15; refine (HRP.out _ _ _ _ HP3.out).mono ?_; rintro x w4 ⟨A4, c4, D4, d4, rfl, hp4, hr4⟩; have hlt4 := hp4.blk.lt; obtain ⟨v0, v1, v2, v3, _⟩ := hp4.blk.four; have HP4 := Lib.hid (hp4.alloc (.cells #[.string (S q.name), .slice A4 q.players.length c4, .int .i64 q.cap, .int .i64 q.kee] 24)); have HR4 := Lib.hid hr4; clear hp4 hr4)
  refine (rsq_Same q _ _ _ HP4.out.sl HR4.out.sl).mono ?_
  rintro x w5 ⟨rfl, hb5⟩
  have HP5 := Lib.hid (HP4.out.below hb5)
  have HR5 := Lib.hid (HR4.out.below hb5)
  clear hb5
  go_wp2_with (go_at_call 17; refine (law_diags ds _ _ _ _ _ HP5.out.dia HR5.out.dia).mono ?_; rintro x w6 ⟨rfl, n, rfl⟩)
  go_ret
  exact ⟨rfl, Below.drewN_ HP5.out.bel _⟩
end Go.Proofs.YtfljohhocgaheaaDoor
