/- The contracts of the program's Convolve, and of Power of both packages. No conditions but that the arguments can be read. -/
import Derived.Test.YtdnjcgokcjlkiaaGreatDoorH7
set_option linter.unusedSimpArgs false
set_option linter.unusedVariables false
namespace Go.Proofs.YtdnjcgokcjlkiaaGreatDoor
open Go.RowKit

@[go_sem] theorem build_spr1 (A : Option Addr) (n c : Nat) (w : World) : (Instr.build 90 #[(1, .slice A n c)]).run Tryz.prog w = .ok (.agg #[.int .i64 0, .slice A n c]) w := run_build w 90 _ _ (by kernel_rfl)
theorem SprPost.alloc {w W : World} {r : Spr × Int} {e : Ending} (h : SprPost w r e W) (o : Obj) : SprPost w r e (W.alloc o) := by
  obtain ⟨v, h1, h2, h3⟩ := h
  exact ⟨v, h1, h2.keep elInt_good (fun x hx => Below.heap_alloc W o x hx.2) fun x hx => ⟨hx.1, by simp; have := hx.2; omega⟩, h3.alloc h3.size o⟩
/-- A power under way: k balls in block gs, the spread of one ball in block go, the result's box. -/
structure Pw (w W : World) (gs go : Nat) (one : List Int) (v1 v : Value) (k : Nat) : Prop where
  bel : Below w.heap.size w W
  br : Blk W w.heap.size 90 #[.int .i64 0, .slice none 0 0]
  bo : Blk W go 90 #[.int .i64 1, v1]
  bs : Blk W gs 90 #[.int .i64 k, v]
  so : Sl 1 elInt W (fun x => w.heap.size < x ∧ x < W.heap.size ∧ x ≠ gs) v1 one
  ss : Sl 1 elInt W (fun x => w.heap.size < x ∧ x < W.heap.size ∧ x ≠ gs) v (powL one k)
  og : w.heap.size < go
  sg : w.heap.size < gs
  ne : go ≠ gs
theorem Pw.step {w W W' : World} {gs go : Nat} {one : List Int} {v1 v v' : Value} {k : Nat} (h : Pw w W gs go one v1 v k) (hb : Below W.heap.size W W') (hs : Sl 1 elInt W' (fun x => W.heap.size ≤ x ∧ x < W'.heap.size) v' (powL one (k + 1))) (c : Int) (hc : c = ((k + 1 : Nat) : Int)) :
    Pw w (put2 W' gs (.int .i64 c) v') gs go one v1 v' (k + 1) := by
  subst hc
  have ho := put2_only W' gs (.int .i64 ((k + 1 : Nat) : Int)) v'
  have hlt := h.bs.lt
  have hz := hb.size
  have hz2 := ho.size
  have hlo := h.bo.lt
  have hlr := h.br.lt
  have hsg := h.sg
  have bs2 := h.bs.below hb hlt
  refine ⟨(h.bel.trans (hb.mono h.bel.size)).trans (ho.below (by omega) (by have := h.bel.size; omega)), (h.br.below hb hlr).grown ho (fun e => by injection e with e; omega), (h.bo.below hb hlo).grown ho (fun e => by injection e with e; exact h.ne e.symm), blk_put2 bs2 _ _, ?_, ?_, h.og, h.sg, h.ne⟩
  · exact (h.so.keep elInt_good (Same.below hb fun x hx => hx.2.1) fun x hx => hx).keep elInt_good (ho.same fun x hx => ⟨by omega, hx.2.2⟩) fun x hx => ⟨hx.1, by omega, hx.2.2⟩
  · exact hs.keep elInt_good (ho.same fun x hx => ⟨hx.2, by have := hx.1; omega⟩) fun x hx => ⟨by have := h.bel.size; have := hx.1; omega, by have := hx.2; omega, by have := hx.1; omega⟩

theorem pw_new {w w2 : World} {one : List Int} {B : Option Addr} {c : Nat} (hb : Below w.heap.size w w2) (hk : Blk w2 w.heap.size 90 #[.int .i64 0, .slice none 0 0]) (hs : Sl 1 elInt w2 (fun x => w.heap.size < x ∧ x < w2.heap.size) (.slice B one.length c) one) :
    Pw w (((w2.alloc (.cells #[.int .i64 1, .slice B one.length c] 90)).alloc (.cells #[.int .i64 1] 2)).alloc (.cells #[.int .i64 0, .slice (some ⟨w2.heap.size + 1, 0, none⟩) 1 1] 90)) (w2.heap.size + 2) w2.heap.size one (.slice B one.length c) (.slice (some ⟨w2.heap.size + 1, 0, none⟩) 1 1) 0 := by
  have hlt := hk.lt
  obtain ⟨Wa, hWa⟩ : ∃ Wa, Wa = w2.alloc (.cells #[.int .i64 1, .slice B one.length c] 90) := ⟨_, rfl⟩
  have za : Wa.heap.size = w2.heap.size + 1 := by rw [hWa]; simp
  have ka : Blk Wa w2.heap.size 90 #[.int .i64 1, .slice B one.length c] := by rw [hWa]; exact Blk.new w2 _ _
  have kr : Blk Wa w.heap.size 90 #[.int .i64 0, .slice none 0 0] := by rw [hWa]; exact hk.alloc _
  have ba : Below w.heap.size w Wa := by rw [hWa]; exact Below.alloc hb hb.size _
  have sa : Sl 1 elInt Wa (fun x => w.heap.size < x ∧ x < w2.heap.size) (.slice B one.length c) one := by rw [hWa]; exact hs.keep elInt_good (fun x hx => Below.heap_alloc w2 _ x hx.2) fun _ h => h
  rw [← hWa]
  have s1 := Sl.fresh1 Wa (fun x => x = Wa.heap.size) [.int .i64 1] 2 (R := elInt) (size := 1) (1 : Int) rfl rfl rfl
  obtain ⟨Wb, hWb⟩ : ∃ Wb, Wb = Wa.alloc (.cells #[.int .i64 1] 2) := ⟨_, rfl⟩
  have zb : Wb.heap.size = w2.heap.size + 2 := by rw [hWb]; simp; omega
  rw [za] at s1
  rw [← hWb] at s1 ⊢
  have hba : Below Wa.heap.size Wa Wb := by rw [hWb]; exact Below.alloc (Below.refl _ _) (Nat.le_refl _) _
  have hbb := Below.alloc (Below.refl Wb.heap.size Wb) (Nat.le_refl _) (.cells #[.int .i64 0, .slice (some ⟨w2.heap.size + 1, 0, none⟩) 1 1] 90)
  have zc : (Wb.alloc (.cells #[.int .i64 0, .slice (some ⟨w2.heap.size + 1, 0, none⟩) 1 1] 90)).heap.size = w2.heap.size + 3 := by simp; omega
  have kn := Blk.new Wb 90 #[.int .i64 0, .slice (some ⟨w2.heap.size + 1, 0, none⟩) 1 1]
  rw [zb] at kn
  refine ⟨(ba.trans (hba.mono ba.size)).trans (hbb.mono (by have := ba.size; omega)), (kr.below hba kr.lt).below hbb (by omega), (ka.below hba ka.lt).below hbb (by omega), kn, ?_, ?_, hlt, by omega, by omega⟩
  · exact (sa.keep elInt_good (Same.below hba fun x hx => by have := hx.2; omega) fun _ h => h).keep elInt_good (Same.below hbb fun x hx => by have := hx.2; omega) fun x hx => ⟨hx.1, by have := hx.2; omega, by have := hx.2; omega⟩
  · exact s1.keep elInt_good (Same.below hbb fun x hx => by omega) fun x hx => ⟨by omega, by omega, by omega⟩

theorem ch_Pow_ret {R' : Ending → World → Prop} {a : Act} {w : World} {x0 x1 v : Value} {g : Nat} (h2 : a.tmps[4]? = some (.pointer (some ⟨g, 0, none⟩))) (h3 : a.tmps[5]? = some v) (hb : Blk w g 90 #[x0, x1])
    (hd : a.defers = []) (hR : R' (.returned (.tuple #[.agg #[x0, x1], v])) w) : bodyPost Tryz.prog Tryz.f63 R' .ret a w := by
  obtain ⟨r0, r1, _⟩ := hb.two
  refine bodyPost_ret (v := .tuple #[.agg #[x0, x1], v]) (by simp [results, Tryz.results63, go_sem, h2, h3, r0, r1]) hd hR
set_option maxRecDepth 100000 in
set_option maxHeartbeats 1000000 in
theorem ch_Power (d : List Otc) (v : Value) (n : Int) (w : World) (h : Sl 3 elOtc w (· < w.heap.size) v d) : Calls Tryz.prog 63 #[v, .int .i64 n] w (SprPost w (powS d n)) := by
  obtain ⟨z, hz⟩ : ∃ z, z = powS d n := ⟨_, rfl⟩
  rw [← hz]
  unfold powS at hz
  obtain ⟨W1, hW1⟩ : ∃ W1, W1 = w.alloc (.cells #[.int .i64 0, .slice none 0 0] 90) := ⟨_, rfl⟩
  have hb0 : Below w.heap.size w W1 := by rw [hW1]; exact Below.alloc (Below.refl _ _) (Nat.le_refl _) _
  have hk0 : Blk W1 w.heap.size 90 #[.int .i64 0, .slice none 0 0] := by rw [hW1]; exact Blk.new w _ _
  have ko : Calls Tryz.prog 100 #[v] W1 fun e w' => ∃ B c, e = .returned (.tuple #[.agg #[.int .i64 (ofS d).1.balls, .slice B (ofS d).1.ws.length c], .int .i64 (ofS d).2]) ∧ Below w.heap.size w w' ∧ Blk w' w.heap.size 90 #[.int .i64 0, .slice none 0 0] ∧ Sl 1 elInt w' (fun x => w.heap.size < x ∧ x < w'.heap.size) (.slice B (ofS d).1.ws.length c) (ofS d).1.ws := by
    refine (ch_Of d v W1 (h.keep elOtc_good (Same.of_below hb0) fun b hb => Nat.lt_of_lt_of_le hb hb0.size)).mono ?_
    rintro e w' ⟨v', rfl, hs, hb⟩
    obtain ⟨B, c, rfl, _⟩ := hs.shape
    have := hk0.lt
    exact ⟨B, c, rfl, hb0.trans (hb.mono hb0.size), hk0.below hb hk0.lt, hs.keep elInt_good (Same.refl _ _) fun x hx => ⟨by have := hx.1; omega, hx.2⟩⟩
  rw [hW1] at ko
  obtain ⟨A, ca, rfl, hca, hca2⟩ := h.shape
  unfold ofS at ko
  by_cases h0 : checkD d = 0
  · rw [if_neg (fun k => k h0)] at hz ko
    have hone := ofL_ok (checkD_ok h0)
    obtain ⟨one, hon⟩ : ∃ one, one = ofL d := ⟨_, rfl⟩
    rw [← hon] at ko hz hone
    dsimp only at ko
    by_cases hnb : n < 0 ∨ 12 < n
    · rw [if_pos hnb] at hz
      have HZ := Lib.hid hz
      have KO := Lib.hid ko
      have HU := Lib.hid fun W => ch_Unit n W
      clear hz ko hb0 hk0 hW1 h0 hone hon h
      rw [unitS_bad hnb] at HU
      clear hnb
      all_goals
        go_enter Tryz.func63, Tryz.ntmps63
        go_wp2_with (first
          | (go_at_call 100; refine KO.out.mono ?_; rintro e w2 ⟨B, c, rfl, hb2, hk2, hs2⟩; have hz2 := hk2.lt; obtain ⟨r0, r1, f0, f1⟩ := hk2.two; have HB2 := Lib.hid hb2; have HK2 := Lib.hid hk2; clear hb2 hk2 hs2)
          | (go_at_call 36; refine (HU.out _).mono ?_; rintro e w3 ⟨rfl, rfl⟩))
        have HK3 := Lib.hid (blk_put2 HK2.out (.int .i64 0) (.slice none 0 0))
        have hend := spr_end (s := noSpr) (e := 2) (F := fun _ => False) HB2.out (R := w.heap.size) (Nat.le_refl _) HK2.out.lt (Sl.nil _ _) (fun _ h => h.elim)
        refine ch_Pow_ret rfl rfl (HK3.out.alloc _) rfl ?_
        rw [HZ.out]
        exact hend.alloc _
    · rw [if_neg hnb] at hz
      obtain ⟨m, rfl⟩ : ∃ m : Nat, n = (m : Int) := ⟨n.toNat, by omega⟩
      have hm12 : m ≤ 12 := by omega
      have HZ := Lib.hid (show z = (⟨(m : Int), powL one m⟩, 0) by rw [hz, Int.toNat_natCast])
      have KO := Lib.hid ko
      have HONE := Lib.hid hone
      have hu := fun W => ch_Unit (m : Int) W
      rw [unitS_ok hm12] at hu
      have HU := Lib.hid hu
      clear hu
      have kcv : ∀ (k : Nat) W v v1 (F : Nat → Prop) (F1 : Nat → Prop), k + 1 ≤ 12 → (∀ x, F x → x < W.heap.size) → (∀ x, F1 x → x < W.heap.size) → Sl 1 elInt W F v (powL one k) → Sl 1 elInt W F1 v1 one → Calls Tryz.prog 101 #[.agg #[.int .i64 (k : Int), v], .agg #[.int .i64 1, v1]] W fun e W' => ∃ B c, e = .returned (.agg #[.int .i64 ((k : Int) + 1), .slice B (powL one (k + 1)).length c]) ∧ Sl 1 elInt W' (fun x => W.heap.size ≤ x ∧ x < W'.heap.size) (.slice B (powL one (k + 1)).length c) (powL one (k + 1)) ∧ Below W.heap.size W W' := fun k W v v1 F F1 hk hF hF1 h1 h2 => by
        have := ch_convolve k 1 (powL one k) one v v1 W (powL_ok HONE.out k (by omega)) HONE.out hk (h1.keep elInt_good (Same.refl _ _) hF) (h2.keep elInt_good (Same.refl _ _) hF1)
        refine this.mono ?_
        rintro e w' ⟨v', rfl, hs, hb⟩
        obtain ⟨B, c, rfl, _⟩ := hs.shape
        exact ⟨B, c, rfl, hs, hb⟩
      have KCV := Lib.hid kcv
      clear hz ko hb0 hk0 hW1 h0 hone hon h hnb kcv
      go_enter Tryz.func63, Tryz.ntmps63
      go_wp2_with (first
        | (go_at_call 100; refine KO.out.mono ?_; rintro e w2 ⟨B, c, rfl, hb2, hk2, hs2⟩; have hz2 := hk2.lt; have HB2 := Lib.hid hb2; have HK2 := Lib.hid hk2; have HS2 := Lib.hid hs2; clear hb2 hk2 hs2)
        | (go_at_call 36; refine (HU.out _).mono ?_; rintro e w3 ⟨rfl, rfl⟩))
      have hpw : Pw w (((w2.alloc (.cells #[.int .i64 1, .slice B one.length c] 90)).alloc (.cells #[.int .i64 1] 2)).alloc (.cells #[.int .i64 0, .slice (some ⟨w2.heap.size + 1, 0, none⟩) 1 1] 90)) (w2.heap.size + 2) w2.heap.size one (.slice B one.length c) (.slice (some ⟨w2.heap.size + 1, 0, none⟩) 1 1) 0 := pw_new HB2.out HK2.out HS2.out
      have HPW := Lib.hid hpw
      clear hpw
      go_loopw [32] (fun i wr => ∃ (k : Nat) (D : Option Addr) (e : Nat), k ≤ m ∧ i = .int .i64 k ∧ Pw w wr (w2.heap.size + 2) w2.heap.size one (.slice B one.length c) (.slice D (powL one k).length e) k) (fun i _ => m - (intOf i).toNat)
      case atStart => exact ⟨0, _, _, Nat.zero_le _, rfl, HPW.out⟩
      case round =>
        obtain ⟨k, D, e, hk, rfl, hpw⟩ := hrel
        have HP := Lib.hid hpw
        have hpw0 := hpw
        clear hpw
        by_cases hlt : k < m
        · obtain ⟨p0, p1, pf0, pf1⟩ := hpw0.bs.two
          obtain ⟨q0, q1, _⟩ := hpw0.bo.two
          clear hpw0
          go_wp2_with (go_at_call 101; refine (KCV.out k _ _ _ _ _ (by omega) (fun x hx => hx.2.1) (fun x hx => hx.2.1) HP.out.ss HP.out.so).mono ?_; rintro e5 w5 ⟨D5, c5, rfl, hs5, hb5⟩; have hb5k := HP.out.bs.below hb5 HP.out.bs.lt; obtain ⟨p0, p1, pf0, pf1⟩ := hb5k.two; have HS5 := Lib.hid hs5; have HB5 := Lib.hid hb5; clear hs5 hb5 hb5k)
          go_roundw
          case rel => exact ⟨k + 1, D5, c5, by omega, by go_num, HP.out.step HB5.out HS5.out _ (by push_cast; rfl)⟩
          case measure => simp [intOf]; omega
        · obtain rfl : k = m := by omega
          obtain ⟨p0, p1, pf0, pf1⟩ := hpw0.bs.two
          obtain ⟨r0, r1, f0, f1⟩ := hpw0.br.two
          have HEND := Lib.hid (spr_end (s := ⟨(k : Int), powL one k⟩) (e := 0) hpw0.bel (R := w.heap.size) (Nat.le_refl _) hpw0.br.lt hpw0.ss (fun x hx => ⟨by have := hx.1; omega, hx.2.1, by have := hx.1; omega⟩))
          have HK3 := Lib.hid (blk_put2 hpw0.br (.int .i64 (k : Int)) (.slice D (powL one k).length e))
          clear hpw0
          go_wp2
          refine ch_Pow_ret rfl rfl HK3.out rfl ?_
          rw [HZ.out]
          exact HEND.out
  · rw [if_pos h0] at hz ko
    obtain ⟨z9, hz9⟩ : ∃ z9, z9 = checkD d := ⟨_, rfl⟩
    rw [← hz9] at ko hz h0
    dsimp only [noSpr] at ko
    have g1 : (z9 != 0) = true := by rw [bne_iff_ne]; exact h0
    have KO := Lib.hid ko
    have HZ := Lib.hid hz
    clear hz ko hb0 hk0 hW1 h0 h hz9
    go_enter Tryz.func63, Tryz.ntmps63
    go_wp2_with (go_at_call 100; refine KO.out.mono ?_; rintro e w2 ⟨B, c, rfl, hb2, hk2, hs2⟩; have hz2 := hk2.lt; obtain ⟨r0, r1, f0, f1⟩ := hk2.two; have HB2 := Lib.hid hb2; have HK2 := Lib.hid hk2; clear hb2 hk2 hs2)
    have HK3 := Lib.hid (blk_put2 HK2.out (.int .i64 0) (.slice none 0 0))
    have hend := spr_end (s := noSpr) (e := z9) (F := fun _ => False) HB2.out (R := w.heap.size) (Nat.le_refl _) HK2.out.lt (Sl.nil _ _) (fun _ h => h.elim)
    refine ch_Pow_ret rfl rfl (HK3.out.alloc _) rfl ?_
    rw [HZ.out]
    exact hend.alloc _

end Go.Proofs.YtdnjcgokcjlkiaaGreatDoor
