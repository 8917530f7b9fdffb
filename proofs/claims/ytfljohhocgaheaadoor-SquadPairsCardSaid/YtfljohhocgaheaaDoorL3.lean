/- The walk of SquadFinds: in an accepted side every player is found by name. -/
import Derived.Test.YtfljohhocgaheaaDoorP9
set_option linter.unusedSimpArgs false
set_option linter.unusedVariables false
namespace Go.Proofs.YtfljohhocgaheaaDoor
open Go.RowKit

/-- The world behind 's = few(s)'. -/
structure Few (w W : World) (q : Sqd) (A : Option Addr) (n c : Nat) : Prop where
  bel : Below w.heap.size w W
  blk : Blk W w.heap.size 24 #[.string (S q.name), .slice A n c, .int .i64 q.cap, .int .i64 q.kee]
  sl : Lies W q (.slice A n c)
  lt : w.heap.size < W.heap.size
theorem few_stored {w w2 : World} {q : Sqd} {A : Option Addr} {n c : Nat} {a b c' d : Value} (hb : Below w.heap.size w w2) (hk : Blk w2 w.heap.size 24 #[a, b, c', d]) (hs : Sl 1 elStr w2 (fun b => w.heap.size < b ∧ b < w2.heap.size) (.slice A n c) q.players) :
    Few w (World.setCell (World.setCell (World.setCell (World.setCell w2 ⟨w.heap.size, 0, none⟩ (.string (S q.name))) ⟨w.heap.size, 1, none⟩ (.slice A n c)) ⟨w.heap.size, 2, none⟩ (.int .i64 q.cap)) ⟨w.heap.size, 3, none⟩ (.int .i64 q.kee)) q A n c := by
  have ho := put4_only w2 w.heap.size (.string (S q.name)) (.slice A n c) (.int .i64 q.cap) (.int .i64 q.kee)
  have hp := blk_put4 hk (.string (S q.name)) (.slice A n c) (.int .i64 q.cap) (.int .i64 q.kee)
  have hz := ho.size
  exact ⟨hb.trans (ho.below (Nat.le_refl _) hb.size), hp, hs.keep elStr_good (ho.same fun b h => ⟨h.2, by omega⟩) fun b h => Nat.lt_of_lt_of_le h.2 hz, Nat.lt_of_lt_of_le hk.lt hz⟩
theorem Few.below {w W W' : World} {q : Sqd} {A : Option Addr} {n c : Nat} (h : Few w W q A n c) (hb : Below W.heap.size W W') : Few w W' q A n c :=
  ⟨h.bel.trans (hb.mono h.bel.size), h.blk.below hb h.lt, Lies.below h.sl hb, Nat.lt_of_lt_of_le h.lt hb.size⟩
theorem Few.drew {w W : World} {q : Sqd} {A : Option Addr} {n c : Nat} (h : Few w W q A n c) : Few w W.drew q A n c :=
  ⟨Below.drew h.bel, h.blk, h.sl.keep elStr_good (fun _ _ => rfl) fun _ h => h, h.lt⟩
/-- The same, and one cell more. -/
structure FewAt (w W : World) (q : Sqd) (A : Option Addr) (n c b i : Nat) (p : List UInt8) : Prop where
  few : Few w W q A n c
  cell : W.cell? ⟨b, i, none⟩ = some (.string (S p))
  blt : b < W.heap.size
theorem FewAt.below {w W W' : World} {q : Sqd} {A : Option Addr} {n c b i : Nat} {p : List UInt8} (h : FewAt w W q A n c b i p) (hb : Below W.heap.size W W') : FewAt w W' q A n c b i p :=
  ⟨h.few.below hb, (hb.cell (p := ⟨b, i, none⟩) h.blt).trans h.cell, Nat.lt_of_lt_of_le h.blt hb.size⟩
theorem FewAt.drew {w W : World} {q : Sqd} {A : Option Addr} {n c b i : Nat} {p : List UInt8} (h : FewAt w W q A n c b i p) : FewAt w W.drew q A n c b i p := ⟨h.few.drew, h.cell, h.blt⟩
set_option maxRecDepth 100000 in
set_option maxHeartbeats 4000000 in
theorem law_Finds (q : Sqd) (pv : Value) (k : Nat) (hk : k < 256) (w : World) (hg : Glob w) (h : Lies w q pv) :
    Calls Tryd.prog 8 #[sqV q pv, .int .u8 k] w fun e w' => e = .returned (.bool true) ∧ Below w.heap.size w w' := by
  unfold sqV
  obtain ⟨A, c, rfl, hc, hc'⟩ := Sl.shape h
  obtain ⟨w0, hw0⟩ : ∃ x, x = w.alloc (.cells #[.string (S q.name), .slice A q.players.length c, .int .i64 q.cap, .int .i64 q.kee] 24) := ⟨_, rfl⟩
  have hb0 : Below w.heap.size w w0 := by rw [hw0]; exact Below.alloc (Below.refl _ _) (Nat.le_refl _) _
  have hk0 : Blk w0 w.heap.size 24 #[.string (S q.name), .slice A q.players.length c, .int .i64 q.cap, .int .i64 q.kee] := by rw [hw0]; exact Blk.new w _ _
  have haw : Calls Tryd.prog 10 #[] w0 fun e w1 => e = .returned (.bool true) ∧ Below w.heap.size w w1 ∧ Blk w1 w.heap.size 24 #[.string (S q.name), .slice A q.players.length c, .int .i64 q.cap, .int .i64 q.kee] := by
    refine (law_awake w0 (hg.below hb0)).mono ?_
    rintro e w1 ⟨rfl, hb⟩
    exact ⟨rfl, hb0.trans (hb.mono hb0.size), hk0.below hb hk0.lt⟩
  rw [hw0] at haw
  have hfew : ∀ w1, Below w.heap.size w w1 → Blk w1 w.heap.size 24 #[.string (S q.name), .slice A q.players.length c, .int .i64 q.cap, .int .i64 q.kee] → Calls Tryd.prog 11 #[.agg #[.string (S q.name), .slice A q.players.length c, .int .i64 q.cap, .int .i64 q.kee]] w1 fun e w2 => ∃ A2 c2, e = .returned (.agg #[.string (S (fewS q).name), .slice A2 (fewS q).players.length c2, .int .i64 (fewS q).cap, .int .i64 (fewS q).kee]) ∧ Below w.heap.size w w2 ∧ Sl 1 elStr w2 (fun b => w.heap.size < b ∧ b < w2.heap.size) (.slice A2 (fewS q).players.length c2) (fewS q).players ∧ Blk w2 w.heap.size 24 #[.string (S q.name), .slice A q.players.length c, .int .i64 q.cap, .int .i64 q.kee] := fun w1 hb1 hk1 => by
    refine (law_few q (.slice A q.players.length c) w1 (Sl.keep elStr_good h (Same.of_below hb1) fun b hb => Nat.lt_of_lt_of_le hb hb1.size)).mono ?_
    rintro e w2 ⟨pv, rfl, hs, hb⟩
    obtain ⟨A2, c2, rfl, _⟩ := hs.shape
    exact ⟨A2, c2, rfl, hb1.trans (hb.mono hb1.size), hs.keep elStr_good (Same.refl _ _) (fun b hb => ⟨Nat.lt_of_lt_of_le hk1.lt hb.1, hb.2⟩), hk1.below hb hk1.lt⟩
  have hln := fewS_len q
  obtain ⟨f, hf⟩ : ∃ f, f = fewS q := ⟨_, rfl⟩
  rw [← hf] at hfew hln
  have HAW := Lib.hid haw
  have HFW := Lib.hid hfew
  clear haw hfew hk0 hb0 hw0 hf
  obtain ⟨e, he⟩ : ∃ e, e = checkS f := ⟨_, rfl⟩
  go_enter Tryd.func8, Tryd.ntmps8
  go_wp2_with (first | (go_at_call 10; refine HAW.out.mono ?_; rintro e w1 ⟨rfl, hb1, hk1⟩; obtain ⟨y0, y1, y2, y3, g0, g1, g2, g3⟩ := hk1.four; have HB1 := Lib.hid hb1; have HK1 := Lib.hid hk1; clear hb1 hk1) | (go_at_call 11; refine (HFW.out _ HB1.out HK1.out).mono ?_; rintro e w2 ⟨A2, c2, rfl, hb2, hs2, hk2⟩; obtain ⟨z0, z1, z2, z3, j0, j1, j2, j3⟩ := hk2.four; have HB2 := Lib.hid hb2; have HK2 := Lib.hid hk2; have HS2 := Lib.hid hs2; clear hb2 hs2 hk2))
  have hst := few_stored HB2.out HK2.out HS2.out
  revert hst
  generalize World.setCell _ _ _ = W
  intro hst
  have hck := sq_Check f _ W hst.sl (by have := hln.1; omega) (fun p hp => by have := hln.2.1 p hp; omega)
  rw [← he] at hck
  unfold sqV at hck
  have HST := Lib.hid hst
  clear hst
  by_cases hz : e = 0
  · subst hz
    refine hck.mono ?_
    rintro x w3 ⟨rfl, hb3⟩
    have hst := HST.out.below hb3
    obtain ⟨x0, x1, x2, x3, i0, i1, i2, i3⟩ := hst.blk.four
    have hok := checkS_ok he.symm
    have hl2 := hok.2.1
    have hl11 := hok.2.2.1
    have HE := Lib.hid he
    have HS3 := Lib.hid hst
    clear hst hck hok he HST hb3
    go_wp2_with fail
    obtain ⟨m, hm⟩ : ∃ m, m = k % f.players.length := ⟨_, rfl⟩
    have hml : m < f.players.length := by rw [hm]; exact Nat.mod_lt _ (by omega)
    have hw : wrap64 ((k : Int) % (f.players.length : Int) + 1) = (m : Int) + 1 := by
      rw [show (k : Int) % (f.players.length : Int) = (m : Int) from by rw [hm]; exact (Int.natCast_emod _ _).symm]
      exact IntWalk.wrap64_in _ ⟨by omega, by omega⟩
    rw [hw]
    obtain ⟨b, o, rfl, hbF, xp⟩ := (HS3.out.sl).str_at hml
    obtain ⟨n1, n2, n3, n4⟩ := finds HE.out.symm hml
    have hm0 : (0 : Int) ≤ (m : Int) := by omega
    have hm1 : (m : Int) < (f.players.length : Int) := by omega
    have hw1 : IntKind.i64.wrap ((m : Int) + 1 - 1) = (m : Int) := by rw [IntWalk.i64_in _ (by omega)]; omega
    have hw0 : IntKind.i64.wrap (m : Int) = (m : Int) := IntWalk.i64_in _ (by omega)
    have hw2 : IntKind.i64.wrap ((f.players.length : Int) + 1) = (f.players.length : Int) + 1 := IntWalk.i64_in _ (by omega)
    obtain ⟨p, hp⟩ : ∃ p, p = f.players[m] := ⟨_, rfl⟩
    rw [← hp] at xp n1
    obtain ⟨t, ht⟩ : ∃ t, t = titleS f ((m : Int) + 1) := ⟨_, rfl⟩
    rw [← ht] at n2
    have e2 : t.isEmpty = false := by simpa using n2
    have hF1 : ∀ W, FewAt w W f (some ⟨b, o, none⟩) f.players.length c2 b (o + m) p → Calls Tryd.prog 21 #[.agg #[.string (S f.name), .slice (some ⟨b, o, none⟩) f.players.length c2, .int .i64 f.cap, .int .i64 f.kee], .string (S p)] W fun e w' => e = .returned (.int .i64 ((m : Int) + 1)) ∧ FewAt w w' f (some ⟨b, o, none⟩) f.players.length c2 b (o + m) p := fun W hW => by
      refine (sq_Find f _ (S p) W hW.few.sl).mono ?_
      rintro e w' ⟨rfl, hb⟩
      rw [S_data, n1]
      exact ⟨rfl, hW.below hb⟩
    have hF2 : ∀ W, FewAt w W f (some ⟨b, o, none⟩) f.players.length c2 b (o + m) p → Calls Tryd.prog 21 #[.agg #[.string (S f.name), .slice (some ⟨b, o, none⟩) f.players.length c2, .int .i64 f.cap, .int .i64 f.kee], .string ⟨#[]⟩] W fun e w' => e = .returned (.int .i64 0) ∧ FewAt w w' f (some ⟨b, o, none⟩) f.players.length c2 b (o + m) p := fun W hW => by
      refine (sq_Find f _ ⟨#[]⟩ W hW.few.sl).mono ?_
      rintro e w' ⟨rfl, hb⟩
      rw [n4]
      exact ⟨rfl, hW.below hb⟩
    have hT1 : ∀ W, FewAt w W f (some ⟨b, o, none⟩) f.players.length c2 b (o + m) p → Calls Tryd.prog 23 #[.agg #[.string (S f.name), .slice (some ⟨b, o, none⟩) f.players.length c2, .int .i64 f.cap, .int .i64 f.kee], .int .i64 ((m : Int) + 1)] W fun e w' => e = .returned (.string (S t)) ∧ FewAt w w' f (some ⟨b, o, none⟩) f.players.length c2 b (o + m) p := fun W hW => by
      refine (sq_Title f _ ((m : Int) + 1) W hW.few.sl (fun p hp => by have := hln.2.1 p hp; omega)).mono ?_
      rintro e w' ⟨rfl, hb⟩
      rw [ht]
      exact ⟨rfl, hW.below hb⟩
    have hT2 : ∀ W, FewAt w W f (some ⟨b, o, none⟩) f.players.length c2 b (o + m) p → Calls Tryd.prog 23 #[.agg #[.string (S f.name), .slice (some ⟨b, o, none⟩) f.players.length c2, .int .i64 f.cap, .int .i64 f.kee], .int .i64 ((f.players.length : Int) + 1)] W fun e w' => e = .returned (.string ⟨#[]⟩) ∧ FewAt w w' f (some ⟨b, o, none⟩) f.players.length c2 b (o + m) p := fun W hW => by
      refine (sq_Title f _ ((f.players.length : Int) + 1) W hW.few.sl (fun p hp => by have := hln.2.1 p hp; omega)).mono ?_
      rintro e w' ⟨rfl, hb⟩
      rw [n3]
      exact ⟨rfl, hW.below hb⟩
    have HA3 : Hid (FewAt w w3 f (some ⟨b, o, none⟩) f.players.length c2 b (o + m) p) := ⟨HS3.out, xp, hbF⟩
    have HF1 := Lib.hid hF1
    have HF2 := Lib.hid hF2
    have HT1 := Lib.hid hT1
    have HT2 := Lib.hid hT2
    clear hF1 hF2 hT1 hT2 n1 n2 n3 n4 ht hp hw hm HE hln
    go_region_held3 (fun w' => w'.cell? ⟨w.heap.size, 0, none⟩ = some (.string (S f.name)) ∧ w'.cell? ⟨w.heap.size, 1, none⟩ = some (.slice (some ⟨b, o, none⟩) f.players.length c2) ∧ w'.cell? ⟨w.heap.size, 2, none⟩ = some (.int .i64 f.cap) ∧ w'.cell? ⟨w.heap.size, 3, none⟩ = some (.int .i64 f.kee) ∧ w'.cell? ⟨b, o + m, none⟩ = some (.string (S p)))
      (first | exact ⟨x0, x1, x2, x3, xp⟩ | go_keep)
      (first
        | (have _t := tokT2; go_at_call 21; refine (HF2.out _ HS6.out).mono ?_; rintro e w7 ⟨rfl, hs⟩; obtain ⟨x0, x1, x2, x3, _⟩ := hs.few.blk.four; have xp := hs.cell; have HS7 := Lib.hid hs; clear hs)
        | (have _t := tokT1; go_at_call 23; refine (HT2.out _ HS5.out).mono ?_; rintro e w6 ⟨rfl, hs⟩; obtain ⟨x0, x1, x2, x3, _⟩ := hs.few.blk.four; have xp := hs.cell; have HS6 := Lib.hid hs; have tokT2 : True := trivial; clear hs)
        | (have _t := tokF1; go_at_call 23; refine (HT1.out _ HS4.out).mono ?_; rintro e w5 ⟨rfl, hs⟩; obtain ⟨x0, x1, x2, x3, _⟩ := hs.few.blk.four; have xp := hs.cell; have HS5 := Lib.hid hs; have tokT1 : True := trivial; clear hs)
        | (go_at_call 21; refine (HF1.out _ HA3.out.drew).mono ?_; rintro e w4 ⟨rfl, hs⟩; obtain ⟨x0, x1, x2, x3, _⟩ := hs.few.blk.four; have xp := hs.cell; have HS4 := Lib.hid hs; have tokF1 : True := trivial; clear hs))
    all_goals go_wp2
    all_goals go_ret
    all_goals exact ⟨rfl, HS7.out.few.bel⟩
  · have e9 : (e != 0) = true := by simp [hz]
    clear hz
    refine hck.mono ?_
    rintro x w3 ⟨rfl, hb3⟩
    have HB3 := Lib.hid (HST.out.bel.trans (hb3.mono HST.out.bel.size))
    clear hb3
    go_wp2_with fail
    go_ret
    exact ⟨rfl, HB3.out⟩
end Go.Proofs.YtfljohhocgaheaaDoor
