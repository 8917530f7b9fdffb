/- Several texts of this family in one: I11 I12 I13 I14 I15 I29B. -/
import Derived.Test.YtjchapoggmipbaaGreatDoorGQ3
set_option linter.unusedSimpArgs false
set_option linter.unusedVariables false
namespace Go.Proofs.YtjchapoggmipbaaGreatDoor
open Go.RowKit

/-- The row of the potentials beside the two boxes. -/
structure KB (w W : World) (kb : Nat) (cv : Value) (t : Att) (K : List Int) : Prop where
  bp : BP w W cv t
  kn : Blk W kb 2 (intsA K)
  lo : w.heap.size + 1 < kb
section
variable {w W W' : World} {kb gs gp : Nat} {cv : Value} {t : Att} {K K' : List Int} {sv vo : Value} {s : Ast} {out : List Int} {P : Int} {N : Nat}
theorem KB.step (h : KB w W kb cv t K) (hb : Below W.heap.size W W') : KB w W' kb cv t K := ⟨h.bp.step hb, h.kn.below hb h.kn.lt, h.lo⟩
theorem KB.only (h : KB w W kb cv t K) (ho : Only kb W W') (hk : Blk W' kb 2 (intsA K')) : KB w W' kb cv t K' :=
  have hl := h.lo
  ⟨⟨h.bp.bel.trans (ho.below (by omega) h.bp.bel.size), h.bp.ta.onlyA ho (by omega), h.bp.rs.onlyA ho (by omega)⟩, hk, h.lo⟩
theorem KB.put (h : KB w W kb cv t K) (k : Nat) (x : Int) : KB w (W.setCell ⟨kb, k, none⟩ (.int .i64 x)) kb cv t (K.set k x) :=
  h.only ((Only.refl kb W).setCell (.inl rfl) _) (by rw [← intsA_set]; exact h.kn.set_ k _)
theorem KB.made (h : BP w W cv t) (n : Nat) : KB w (W.alloc (.cells (madeCells #[.int .i64 0] n) 2)) W.heap.size cv t (List.replicate n 0) :=
  ⟨h.step (low_allocA _ _), by rw [← intsA_made]; exact Blk.new _ _ _, h.rs.lt⟩
theorem KB.costs (h : KB w W kb cv t K) (hc : Sl 1 elRw w (· < w.heap.size) cv t.costs) : Sl 1 elRw W (FK W kb) cv t.costs :=
  hc.keep elRw_good (Same.of_below h.bp.bel) fun b hb => ⟨Nat.lt_of_lt_of_le hb h.bp.bel.size, by have := h.lo; omega⟩
theorem KB.costsL (h : KB w W kb cv t K) (hc : Sl 1 elRw w (· < w.heap.size) cv t.costs) : Sl 1 elRw W (· < W.heap.size) cv t.costs :=
  hc.keep elRw_good (Same.of_below h.bp.bel) fun b hb => Nat.lt_of_lt_of_le hb h.bp.bel.size
/-- While the plan is read off. -/
structure BSt (w W : World) (kb gs gp N : Nat) (cv : Value) (t : Att) (K : List Int) (sv : Value) (s : Ast) (vo : Value) (out : List Int) (P : Int) : Prop where
  kb' : KB w W kb cv t K
  sb : Blk W gs 91 #[sv, .int .i64 s.last]
  pb : Blk W gp 54 #[vo, .int .i64 P, .slice (some ⟨kb, 0, none⟩) N N]
  bs : Sl 1 elInt W (fun b => b < W.heap.size ∧ vo.ownBlock ≠ some b ∧ b ≠ gp) sv s.bow
  ow : OwnSl 1 elInt 3 (w.heap.size + 2) W vo out
  ls : w.heap.size + 1 < gs
  lp : w.heap.size + 1 < gp
theorem BSt.step (h : BSt w W kb gs gp N cv t K sv s vo out P) (hb : Below W.heap.size W W') : BSt w W' kb gs gp N cv t K sv s vo out P :=
  ⟨h.kb'.step hb, h.sb.below hb h.sb.lt, h.pb.below hb h.pb.lt, h.bs.keep elInt_good (F := fun b => b < W.heap.size ∧ vo.ownBlock ≠ some b ∧ b ≠ gp) (fun b hx => hb.block b hx.1) fun b hx => ⟨Nat.lt_of_lt_of_le hx.1 hb.size, hx.2⟩, h.ow.below elInt_good hb, h.ls, h.lp⟩
theorem BSt.alloc (h : BSt w W kb gs gp N cv t K sv s vo out P) (o : Obj) : BSt w (W.alloc o) kb gs gp N cv t K sv s vo out P := h.step (low_allocA W o)
theorem BSt.bW (h : BSt w W kb gs gp N cv t K sv s vo out P) : Sl 1 elInt W (· < W.heap.size) sv s.bow := h.bs.keep elInt_good (Same.refl _ _) fun b hb => hb.1
theorem BSt.cells (h : BSt w W kb gs gp N cv t K sv s vo out P) : (W.cell? ⟨w.heap.size, 0, none⟩ = some cv ∧ W.cell? ⟨w.heap.size, 1, none⟩ = some (.int .i64 t.quota) ∧ W.cell? ⟨w.heap.size, 2, none⟩ = some (.int .i64 t.last)) ∧ (W.cell? ⟨gs, 0, none⟩ = some sv ∧ W.cell? ⟨gs, 1, none⟩ = some (.int .i64 s.last)) ∧ (W.cell? ⟨gp, 0, none⟩ = some vo ∧ W.cell? ⟨gp, 1, none⟩ = some (.int .i64 P) ∧ W.cell? ⟨gp, 2, none⟩ = some (.slice (some ⟨kb, 0, none⟩) N N)) :=
  ⟨blk_threeA h.kb'.bp.ta, blk_twoA h.sb, blk_threeA h.pb⟩
/-- One more bowler: the row is appended to, the plan's box gets it. -/
theorem BSt.app {v5 : Value} {x : Int} (h : BSt w W kb gs gp N cv t K sv s vo out P) (ho : OwnSl 1 elInt 3 (w.heap.size + 2) W' v5 (out ++ [x])) (hg : W.grownBy W' vo.ownBlock) (hat : v5.ownBlock = vo.ownBlock ∨ v5.ownBlock = some W.heap.size) :
    BSt w (W'.setCell ⟨gp, 0, none⟩ v5) kb gs gp N cv t K sv s v5 (out ++ [x]) P := by
  have e1 := own_ne h.ow h.kb'.kn (by decide)
  have e2 := own_ne h.ow h.sb (by decide)
  have e3 := own_ne h.ow h.pb (by decide)
  have e4 := own_ne h.ow h.kb'.bp.ta (by decide)
  have e5 := own_ne h.ow h.kb'.bp.rs (by decide)
  have kn := h.kb'.kn.grown hg e1
  have sb := h.sb.grown hg e2
  have pb := h.pb.grown hg e3
  have ta := h.kb'.bp.ta.grown hg e4
  have rs := h.kb'.bp.rs.grown hg e5
  have bel : Below w.heap.size w W' := below_own h.kb'.bp.bel h.ow hg (by omega) (by have := h.kb'.bp.rs.lt; omega)
  have n1 := blk_ne kn pb (by decide)
  have n2 := blk_ne sb pb (by decide)
  have hlp := h.lp
  have hsm : Same (fun b => b < W.heap.size ∧ vo.ownBlock ≠ some b ∧ b ≠ gp) W W' := Same.grown hg fun b hb => ⟨hb.1, fun e => hb.2.1 e.symm⟩
  have n3 := own_ne ho pb (by decide)
  refine ⟨⟨⟨bel.setCell (by show w.heap.size ≤ gp; omega) _, ta.far (by show w.heap.size ≠ gp; omega) _, rs.far (by show w.heap.size + 1 ≠ gp; omega) _⟩, kn.far n1 _, h.kb'.lo⟩, sb.far n2 _, pb.set_ 0 _, ?_, ?_, h.ls, h.lp⟩
  · have h1 := h.bs.keep elInt_good hsm (G := fun b => b < W.heap.size ∧ vo.ownBlock ≠ some b ∧ b ≠ gp) fun b hb => hb
    refine h1.keep elInt_good (fun b hb => Below.heap_setCell W' ⟨gp, 0, none⟩ v5 b hb.2.2) fun b hb => ⟨?_, ?_, hb.2.2⟩
    · have := hg.size; simp; omega
    · rcases hat with e | e
      · rw [e]; exact hb.2.1
      · rw [e]; intro e'; injection e' with e'; omega
  · exact ho.grown elInt_good ((Only.refl gp W').setCell (p := ⟨gp, 0, none⟩) (.inl rfl) _) fun b hb e => n3 (by rw [hb]; exact e.symm)
/-- The next state. -/
theorem BSt.turn {sv2 : Value} {s2 : Ast} {W1 : World} (h : BSt w W kb gs gp N cv t K sv s vo out P) (hb : Below W.heap.size W W1) (hs : Sl 1 elInt W1 (fun b => W.heap.size ≤ b ∧ b < W1.heap.size) sv2 s2.bow) :
    BSt w ((W1.setCell ⟨gs, 0, none⟩ sv2).setCell ⟨gs, 1, none⟩ (.int .i64 s2.last)) kb gs gp N cv t K sv2 s2 vo out P := by
  have h1 := h.step hb
  have n1 := blk_ne h1.kb'.kn h1.sb (by decide)
  have n2 := blk_ne h1.pb h1.sb (by decide)
  have hls := h1.ls
  have n3 := own_ne h1.ow h1.sb (by decide)
  have hgs := h.sb.lt
  have hgp := h.pb.lt
  have hvo := fun k hk => (OwnSl.block h.ow k hk).2
  have ho : Only gs W1 ((W1.setCell ⟨gs, 0, none⟩ sv2).setCell ⟨gs, 1, none⟩ (.int .i64 s2.last)) := ((Only.refl gs W1).setCell (.inl rfl) _).setCell (.inl rfl) _
  refine ⟨⟨⟨h1.kb'.bp.bel.trans (ho.below (by omega) h1.kb'.bp.bel.size), h1.kb'.bp.ta.onlyA ho (by omega), h1.kb'.bp.rs.onlyA ho (by omega)⟩, h1.kb'.kn.onlyA ho n1, h1.kb'.lo⟩, (h1.sb.set_ 0 _).set_ 1 _, h1.pb.onlyA ho n2, ?_, ?_, h1.ls, h1.lp⟩
  · refine hs.keep elInt_good (ho.same fun b hb => ⟨hb.2, by omega⟩) fun b hb => ⟨Nat.lt_of_lt_of_le hb.2 ho.size, fun e => ?_, by omega⟩
    have := hvo b e
    omega
  · exact h1.ow.grown elInt_good ho fun b hb e => n3 (by rw [hb]; exact e.symm)
end
/-- The plan so far: the cost of what is taken. -/
structure PlA (t : Att) (out : List Int) (i : Nat) (s : Ast) : Prop where
  ok : OkA t s
  ov : overS s = i
  len : out.length = i
  pot : potP t s ≠ -1
  cost : ∃ c : Int, (∀ r, costE t (out ++ r) 0 (startA t) 0 = costE t r i s c) ∧ c + potP t s = potP t (startA t)
theorem PlA.start {t : Att} (ht : OkT46 t) (hp : potP t (startA t) ≠ -1) : PlA t [] 0 (startA t) := ⟨start_ok ht, start_over t, rfl, hp, 0, fun r => rfl, by omega⟩
/-- An over that may be the next. -/
def HitA (t : Att) (s : Ast) (j : Nat) : Prop := mayB t s j = true ∧ potP t (aftS s j) ≠ -1 ∧ cAt t (overS s).toNat j + potP t (aftS s j) = potP t s
theorem PlA.next {t : Att} {out : List Int} {i j : Nat} {s : Ast} (h : PlA t out i s) (hj : j < nbA t) (hh : HitA t s j) : PlA t (out ++ [(j : Int)]) (i + 1) (aftS s j) := by
  obtain ⟨h1, h2, h3⟩ := hh
  obtain ⟨c, hc, hp⟩ := h.cost
  rw [h.ov, Int.toNat_natCast] at h3
  refine ⟨aft_ok h.ok hj h1, by rw [aft_over h.ok hj, h.ov]; rfl, by simp [h.len], h2, c + cAt t i j, fun r => ?_, by omega⟩
  rw [List.append_assoc, List.singleton_append, hc, costE_step h.ok hj h1]
theorem PlA.some {t : Att} {out : List Int} {i : Nat} {s : Ast} (h : PlA t out i s) (hi : i < t.costs.length) (hno : ∀ j, j < nbA t → ¬ HitA t s j) : False := by
  obtain ⟨j, h1, h2, h3, h4⟩ := pot_at h.ok (by rw [h.ov]; omega) h.pot
  exact hno j h1 ⟨h2, h3, h4.symm⟩
theorem PlA.done {t : Att} {out : List Int} {s : Ast} (h : PlA t out t.costs.length s) : costE t out 0 (startA t) 0 = (potP t (startA t), 0) := by
  obtain ⟨c, hc, hp⟩ := h.cost
  have e := hc []
  rw [List.append_nil] at e
  rw [e, costE]
  rw [pot_end h.ov] at hp
  rw [show c = potP t (startA t) by omega]
end Go.Proofs.YtjchapoggmipbaaGreatDoor

namespace Go.Proofs.YtjchapoggmipbaaGreatDoor
open Go.RowKit

/-- The potentials of all states. -/
def AllA (t : Att) (K : List Int) : Prop := (K.length : Int) = cntA t ∧ ∀ i : Nat, i < K.length → K.getD i 0 = potP t (decS t (i : Int))
/-- What Best hands on. -/
def BestPost (t : Att) (w : World) (e : Ending) (w' : World) : Prop :=
  Below w.heap.size w w' ∧ ((potP t (startA t) = -1 ∧ e = .returned (.tuple #[.agg #[.slice none 0 0, .int .i64 0, .slice none 0 0], .int .i64 13])) ∨
    ∃ A c kb out K, potP t (startA t) ≠ -1 ∧ e = .returned (.tuple #[.agg #[.slice A t.costs.length c, .int .i64 (potP t (startA t)), .slice (some ⟨kb, 0, none⟩) K.length K.length], .int .i64 0]) ∧
      out.length = t.costs.length ∧ costE t out 0 (startA t) 0 = (potP t (startA t), 0) ∧ AllA t K ∧ Sl 1 elInt w' (fun b => w.heap.size ≤ b ∧ b < w'.heap.size) (.slice A t.costs.length c) out ∧ Blk w' kb 2 (intsA K) ∧ w.heap.size ≤ kb)
/-- The plan's box is made. -/
theorem BSt.start {w W : World} {kb gs gb N n : Nat} {cv : Value} {t : Att} {K l : List Int} {P last : Int} (h : KB w W kb cv t K) (sb : Blk W gs 91 #[.slice (some ⟨gb, 0, none⟩) n n, .int .i64 last]) (row : Blk W gb 3 (intsA l)) (hn : n = l.length) (hl : l.length ≤ 1000000) (hs : w.heap.size + 1 < gs) (hgb : w.heap.size + 1 < gb) :
    BSt w (W.alloc (.cells #[.slice none 0 0, .int .i64 P, .slice (some ⟨kb, 0, none⟩) N N] 54)) kb gs W.heap.size N cv t K (.slice (some ⟨gb, 0, none⟩) n n) ⟨l, last⟩ (.slice none 0 0) [] P := by
  have hlt := row.lt
  have hw := h.bp.rs.lt
  refine ⟨h.step (low_allocA _ _), sb.alloc _, Blk.new _ _ _, ?_, OwnSl.nil _, hs, by omega⟩
  refine (ints_sl (row.alloc _) hn hl).keep elInt_good (Same.refl _ _) fun b hb => ?_
  have hb : b = gb := hb
  subst hb
  exact ⟨by simp; omega, by simp [Value.ownBlock], by omega⟩
/-- The first state's box is made. -/
structure BQ (w W : World) (kb gs gb n : Nat) (cv : Value) (t : Att) (K : List Int) (last : Int) : Prop where
  kb' : KB w W kb cv t K
  sb : Blk W gs 91 #[.slice (some ⟨gb, 0, none⟩) n n, .int .i64 last]
  row : Blk W gb 3 (intsA (List.replicate n 0))
  ls : w.heap.size + 1 < gs
  lg : w.heap.size + 1 < gb
theorem BQ.step {w W W' : World} {kb gs gb n : Nat} {cv : Value} {t : Att} {K : List Int} {last : Int} (h : BQ w W kb gs gb n cv t K last) (hb : Below W.heap.size W W') : BQ w W' kb gs gb n cv t K last := ⟨h.kb'.step hb, h.sb.below hb h.sb.lt, h.row.below hb h.row.lt, h.ls, h.lg⟩
theorem BQ.new1 {w W : World} {kb n : Nat} {cv : Value} {t : Att} {K : List Int} {last : Int} (h : KB w W kb cv t K) :
    BQ w ((W.alloc (.cells (madeCells #[.int .i64 0] n) 3)).alloc (.cells #[.slice (some ⟨W.heap.size, 0, none⟩) n n, .int .i64 last] 91)).drew kb (W.heap.size + 1) W.heap.size n cv t K last := by
  have hw := h.bp.rs.lt
  refine BQ.step ⟨(h.step (low_allocA _ _)).step (low_allocA _ _), ?_, ?_, by omega, by omega⟩ (Below.drew (Below.refl _ _))
  · have h := Blk.new (W.alloc (.cells (madeCells #[.int .i64 0] n) 3)) 91 #[.slice (some ⟨W.heap.size, 0, none⟩) n n, .int .i64 last]
    simpa using h
  · rw [← intsA_made]
    exact (Blk.new W _ _).alloc _
theorem BQ.new2 {w W : World} {kb n : Nat} {cv : Value} {t : Att} {K : List Int} {last : Int} (h : KB w W kb cv t K) :
    BQ w ((W.alloc (.cells #[.slice (some ⟨W.heap.size + 1, 0, none⟩) n n, .int .i64 last] 91)).alloc (.cells (madeCells #[.int .i64 0] n) 3)).drew kb W.heap.size (W.heap.size + 1) n cv t K last := by
  have hw := h.bp.rs.lt
  refine BQ.step ⟨(h.step (low_allocA _ _)).step (low_allocA _ _), ?_, ?_, by omega, by omega⟩ (Below.drew (Below.refl _ _))
  · exact (Blk.new W _ _).alloc _
  · rw [← intsA_made]
    have h := Blk.new (W.alloc (.cells #[.slice (some ⟨W.heap.size + 1, 0, none⟩) n n, .int .i64 last] 91)) 3 (madeCells #[.int .i64 0] n)
    simpa using h
theorem fill_set {N k : Nat} {x : Int} (hk : k < N) : (List.replicate k x ++ List.replicate (N - k) 0).set k x = List.replicate (k + 1) x ++ List.replicate (N - (k + 1)) 0 := by
  obtain ⟨m, hm⟩ : ∃ m, N - k = m + 1 := ⟨N - k - 1, by omega⟩
  rw [hm, show N - (k + 1) = m by omega, List.replicate_succ, List.set_append_right _ _ (by simp), List.length_replicate, Nat.sub_self, List.set_cons_zero, List.replicate_succ' (n := k), List.append_assoc, List.singleton_append]
theorem known_fresh (t : Att) (N : Nat) : KnownA t (List.replicate N (-2)) := fun i hi => by
  rw [List.length_replicate] at hi
  exact .inl (by simp [List.getD_eq_getElem?_getD, hi])
set_option maxRecDepth 100000 in
set_option maxHeartbeats 4000000 in
theorem att_Best_ok (t : Att) (cv : Value) (w : World) (h : Sl 1 elRw w (· < w.heap.size) cv t.costs) (he : checkA t = 0) :
    Calls Tryz.prog 11 #[atV cv t] w (BestPost t w) := by
  obtain ⟨A, c, rfl, hc, hc2⟩ := h.shape
  have HX := Lib.hid (BP.new w (.slice A t.costs.length c) t)
  have ks := att_States t _ _ (sl_lowA elRw_good h HX.out.bel)
  rw [if_neg (by rw [he]; decide), he] at ks
  obtain ⟨ht, hst⟩ := checkA_ok he
  have hq : 0 ≤ t.quota := by have := ht.q1; omega
  have hcp : 0 ≤ cntA t := by
    have := idxS_bd hq (start_ok ht)
    omega
  obtain ⟨N, hN⟩ : ∃ N : Nat, cntA t = (N : Int) := ⟨(cntA t).toNat, by omega⟩
  have hN2 : N ≤ 200000 := by have := ht.cnt; omega
  rw [hN] at ks
  have hmk := fun W => mk_i64s N (by omega) W
  have KS := Lib.hid ks
  have HC := Lib.hid h
  have HT := Lib.hid ht
  have HNN := Lib.hid hN
  unfold atV at KS ⊢
  have hfill := fun (k : Nat) (hk : k < N) => fill_set (x := -2) hk
  have HFILL := Lib.hid hfill
  clear ks he hst hcp h hfill hN ht
  go_enter Tryz.func11, Tryz.ntmps11
  go_wp2_with (go_at_call 30; refine (KS.out).mono ?_; rintro e w1 ⟨rfl, hb⟩; have hx1 := HX.out.step hb; obtain ⟨⟨y0, y1, y2⟩, _, _⟩ := hx1.cells; have HKB := Lib.hid (show KB w (w1.alloc (.cells (madeCells #[.int .i64 0] N) 2)) w1.heap.size (.slice A t.costs.length c) t (List.replicate 0 (-2) ++ List.replicate (N - 0) 0) from KB.made hx1 N); clear hb hx1)
  go_loopw [28] (fun i wr => ∃ k : Nat, k ≤ N ∧ i = .int .i64 k ∧ Hid (KB w wr w1.heap.size (.slice A t.costs.length c) t (List.replicate k (-2) ++ List.replicate (N - k) 0))) (fun i _ => N - (intOf i).toNat)
  case atStart => exact ⟨0, Nat.zero_le _, rfl, HKB⟩
  case round =>
    clear HKB y0 y1 y2
    obtain ⟨k, hk, rfl, hkb⟩ := hrel
    by_cases hlt : k < N
    · have c0 := hkb.out.kn.cell k
      have f0 := hkb.out.kn.frozen k
      have hin : k < (List.replicate k (-2 : Int) ++ List.replicate (N - k) 0).length := by simp; omega
      rw [intsA_get hin] at c0
      obtain ⟨v9, hv9⟩ : ∃ v9, v9 = (List.replicate k (-2 : Int) ++ List.replicate (N - k) 0).getD k 0 := ⟨_, rfl⟩
      rw [← hv9] at c0
      have hput := hkb.out.put k (-2)
      rw [HFILL.out k hlt] at hput
      have HPUT := Lib.hid hput
      have gk : (k : Int) < (N : Int) := by omega
      clear hin hv9 hput hkb
      go_wp2
      go_roundw
      case rel => exact ⟨k + 1, by omega, by go_num, HPUT⟩
      case measure => simp [intOf]; omega
    · obtain rfl : k = N := by omega
      have hkb2 := hkb.out
      rw [Nat.sub_self, List.replicate_zero, List.append_nil] at hkb2
      have HKB2 := Lib.hid hkb2
      have HK0 := Lib.hid (show (List.replicate k (-2 : Int)).length = k ∧ KnownA t (List.replicate k (-2)) ∧ ∀ i : Nat, i < 0 → (List.replicate k (-2 : Int)).getD i 0 = potP t (decS t (i : Int)) from ⟨by simp, known_fresh t k, fun i h => absurd h (by omega)⟩)
      clear hkb2 hkb HFILL
      obtain ⟨wo, rfl⟩ : ∃ wo : World, wo = wr := ⟨_, rfl⟩
      go_wp2
      go_loopw [37] (fun i wr => ∃ (n : Nat) (K : List Int), n ≤ k ∧ i = .int .i64 n ∧ Hid (KB w wr w1.heap.size (.slice A t.costs.length c) t K) ∧ Hid (K.length = k ∧ KnownA t K ∧ ∀ i : Nat, i < n → K.getD i 0 = potP t (decS t (i : Int)))) (fun i _ => k - (intOf i).toNat)
      case atStart => exact ⟨0, _, Nat.zero_le _, rfl, HKB2, HK0⟩
      case round =>
        clear HKB2 HK0
        obtain ⟨n, K, hn, rfl, hkb, hkk⟩ := hrel
        by_cases hln : n < k
        · obtain ⟨⟨y0, y1, y2⟩, _, _⟩ := hkb.out.bp.cells
          have gn : (n : Int) < (k : Int) := by omega
          have hgo := decS_ok (t := t) (n := (n : Int)) (by have := HT.out.q1; omega) (by omega)
          have kd := fun W (hb : KB w W w1.heap.size (.slice A t.costs.length c) t K) => att_decoded t (.slice A t.costs.length c) (n : Int) W HT.out (hb.costsL HC.out) (by omega)
          have kso := fun W W0 A5 c5 (hb0 : KB w W0 w1.heap.size (.slice A t.costs.length c) t K) (hb : KB w W w1.heap.size (.slice A t.costs.length c) t K) (hs : Sl 1 elInt W (fun b => W0.heap.size ≤ b ∧ b < W.heap.size) (.slice A5 (decS t (n : Int)).bow.length c5) (decS t (n : Int)).bow) => att_solve t HT.out _ (decS t (n : Int)) hgo rfl (.slice A t.costs.length c) (.slice A5 (decS t (n : Int)).bow.length c5) w1.heap.size K W (hb.costs HC.out) (hs.keep elInt_good (Same.refl _ _) fun b h => ⟨h.2, by have := hb0.kn.lt; omega⟩) hb.kn (by rw [hkk.out.1]; exact HNN.out.symm) hkk.out.2.1
          have hix := idx_decS (t := t) (n := (n : Int)) (by have := HT.out.q1; omega) (by omega) (by rw [HNN.out]; exact gn)
          rw [hix, Int.toNat_natCast, hkk.out.1] at kso
          unfold atV at kd kso
          unfold asV at kso
          obtain ⟨ds, hds⟩ : ∃ ds, ds = decS t (n : Int) := ⟨_, rfl⟩
          rw [← hds] at kd kso
          obtain ⟨bow, last⟩ := ds
          dsimp only at kso
          obtain ⟨P9, hP9⟩ : ∃ p, p = potP t ⟨bow, last⟩ := ⟨_, rfl⟩
          rw [← hP9] at kso
          have HP9 := Lib.hid (show P9 = potP t (decS t (n : Int)) by rw [← hds]; exact hP9)
          have HKB3 := Lib.hid (hkb.out.step (Below.drew (Below.refl _ _)))
          have KD := Lib.hid kd
          have KSO := Lib.hid kso
          clear kd kso hix hds hP9 hgo hkb
          go_upto_region 13 with fail
          go_region_held3 (fun w' => w'.cell? ⟨w.heap.size, 0, none⟩ = some (.slice A t.costs.length c) ∧ w'.cell? ⟨w.heap.size, 1, none⟩ = some (.int .i64 t.quota) ∧ w'.cell? ⟨w.heap.size, 2, none⟩ = some (.int .i64 t.last)) (first | exact ⟨y0, y1, y2⟩ | go_keep) (first
            | (go_at_call 32; refine (KD.out _ HKB3.out).mono ?_; rintro e w5 ⟨A5, c5, rfl, hs5, hb⟩; clear y0 y1 y2; have HKB5 := Lib.hid (HKB3.out.step hb); have HS5 := Lib.hid hs5; obtain ⟨⟨y0, y1, y2⟩, _, _⟩ := HKB5.out.bp.cells; clear hb hs5)
            | (go_at_call 31; refine (KSO.out _ _ _ _ HKB3.out HKB5.out HS5.out).mono ?_; rintro e w6 ⟨rfl, K3, ho6, hk6, hl6, hkn6, hu6, hp6⟩; clear y0 y1 y2; have HKB6 := Lib.hid (HKB5.out.only ho6 hk6); have HL6 := Lib.hid (And.intro hl6 (And.intro hkn6 (And.intro hu6 hp6))); obtain ⟨⟨y0, y1, y2⟩, _, _⟩ := HKB6.out.bp.cells; clear ho6 hk6 hl6 hkn6 hu6 hp6))
          go_wp2
          go_roundw
          case rel =>
            refine ⟨n + 1, K3, by omega, by go_num, HKB6, Lib.hid ⟨HL6.out.1.trans hkk.out.1, HL6.out.2.1, fun i hi => ?_⟩⟩
            by_cases e : i = n
            · subst e; rw [HL6.out.2.2.2]; exact HP9.out
            · have hi2 := hkk.out.2.2 i (by omega)
              rw [HL6.out.2.2.1 i (by rw [hkk.out.1]; omega) (by rw [hi2]; have := pot_lo HT.out (decS t (i : Int)); omega)]
              exact hi2
          case measure => simp [intOf]; omega
        · obtain rfl : n = k := by omega
          obtain ⟨⟨y0, y1, y2⟩, _, _⟩ := hkb.out.bp.cells
          have HALL := Lib.hid (show AllA t K from ⟨by rw [hkk.out.1]; exact HNN.out.symm, fun i hi => hkk.out.2.2 i (by rw [← hkk.out.1]; exact hi)⟩)
          have HKL := Lib.hid hkk.out.1
          have HKB3 := Lib.hid hkb.out
          clear hkk hkb
          obtain ⟨b9, o9, B9, cb9, hA9, hF9, t9, _⟩ := rw_at HC.out (k := 0) (by have := HT.out.n1; omega)
          subst hA9
          rw [Nat.add_zero] at t9
          have x9 := (HKB3.out.bp.bel.cell (p := ⟨b9, o9, none⟩) hF9).trans t9
          have HLR := Lib.hid (show nbA t = (t.costs.getD 0 []).length from rfl)
          have hb6 := HT.out.b2
          obtain ⟨b, hb⟩ : ∃ b, b = nbA t := ⟨_, rfl⟩
          rw [← HLR.out, ← hb] at x9
          rw [← hb] at hb6
          have HNB := Lib.hid hb
          have hmk2 := fun W => mk_ints b (by omega) W
          have gL : (0 : Int) < (t.costs.length : Int) := by have := HT.out.n1; omega
          have gL2 : 0 < t.costs.length := by omega
          have glt1 := HKB3.out.bp.ta.lt
          have glt2 : b9 < wr.heap.size := Nat.lt_of_lt_of_le hF9 HKB3.out.bp.bel.size
          clear hb t9 HLR
          obtain ⟨wo2, rfl⟩ : ∃ wo2 : World, wo2 = wr := ⟨_, rfl⟩
          go_upto_region 15 with fail
          go_cut [9] (fun s9 wx => ∃ gs gb, s9 = .pointer (some ⟨gs, 0, none⟩) ∧ BQ w wx w1.heap.size gs gb b (.slice (some ⟨b9, o9, none⟩) t.costs.length c) t K t.last)
          case first =>
            go_region
            all_goals (go_wp2_with fail)
            · go_meet
              exact ⟨_, _, rfl, BQ.new1 HKB3.out⟩
            · go_meet
              exact ⟨_, _, rfl, BQ.new2 HKB3.out⟩
          case rest =>
            clear x9 y0 y1 y2 HKB3 hmk2
            obtain ⟨gs, gb, rfl, hbq⟩ := hcut
            obtain ⟨⟨y0, y1, y2⟩, _, _⟩ := hbq.kb'.bp.cells
            obtain ⟨z0, z1⟩ := blk_twoA hbq.sb
            have hso := start_ok HT.out
            have hsi := start_idx t
            have hib := idxS_bd (by have := HT.out.q1; omega) hso
            have hdi := dec_idxS (t := t) (by have := HT.out.q1; omega) hso
            rw [hsi] at hib hdi
            have hstart : startA t = ⟨List.replicate b 0, t.last⟩ := by rw [startA, HNB.out]
            obtain ⟨ix, hix⟩ : ∃ ix : Nat, t.last + 1 = (ix : Int) := ⟨(t.last + 1).toNat, by omega⟩
            have hixn : ix < n := by have := HNN.out; omega
            have kx := fun W (h : BQ w W w1.heap.size gs gb b (.slice (some ⟨b9, o9, none⟩) t.costs.length c) t K t.last) => att_index t (.slice (some ⟨b9, o9, none⟩) t.costs.length c) ⟨List.replicate b 0, t.last⟩ (.slice (some ⟨gb, 0, none⟩) b b) W HT.out ((ints_sl h.row (by simp) (by simp; omega)).keep elInt_good (Same.refl _ _) fun b' hb' => by rw [show b' = gb from hb']; exact h.row.lt) (by rw [← hstart]; exact hso)
            rw [← hstart, hsi, hix] at kx
            unfold atV asV at kx
            have hpk : K.getD ix 0 = potP t (startA t) := by
              rw [HALL.out.2 ix (by rw [HKL.out]; exact hixn), ← hix, hdi]
            obtain ⟨P, hP⟩ : ∃ P, P = potP t (startA t) := ⟨_, rfl⟩
            rw [← hP] at hpk
            have HP := Lib.hid hP
            have HST := Lib.hid hstart
            have hc1 := fun W (h : Blk W w1.heap.size 2 (intsA K)) => (show W.cell? ⟨w1.heap.size, ix, none⟩ = some (.int .i64 P) by rw [h.cell, intsA_get (by rw [HKL.out]; exact hixn), hpk])
            have HC1 := Lib.hid hc1
            have KX := Lib.hid kx
            have HBQ := Lib.hid hbq
            have gix : (ix : Int) < (n : Int) := by omega
            clear hso hsi hib hdi hstart hix kx hpk hP hc1 hbq hixn
            by_cases hp1 : P = -1
            · subst hp1
              go_wp2_with (go_at_call 33; refine (KX.out _ HBQ.out).mono ?_; rintro e w8 ⟨rfl, hb⟩; clear y0 y1 y2 z0 z1; have hq8 := HBQ.out.step hb; have c1 := HC1.out _ hq8.kb'.kn; obtain ⟨_, ⟨u0, u1, u2⟩, v0, v1, v2⟩ := hq8.kb'.bp.cells; have hgl := hq8.kb'.bp.rs.lt; have HQ8 := Lib.hid hq8; clear hb hq8)
              refine att_Best_ret rfl rfl ((put3_blk HQ8.out.kb'.bp.rs (.slice none 0 0) (.int .i64 0) (.slice none 0 0)).alloc _) rfl ⟨(put3_below HQ8.out.kb'.bp.bel (by omega) _ _ _).alloc (by have := HQ8.out.kb'.bp.bel.size; simp [put3]; omega) _, .inl ⟨HP.out.symm, rfl⟩⟩
            · have hp2 : (P == -1) = false := beqF hp1
              go_wp2_with (go_at_call 33; refine (KX.out _ HBQ.out).mono ?_; rintro e w8 ⟨rfl, hb⟩; clear y0 y1 y2 z0 z1; have hq8 := HBQ.out.step hb; have c1 := HC1.out _ hq8.kb'.kn; have hbs := (BSt.start (N := n) (P := P) hq8.kb' hq8.sb hq8.row (by simp) (by simp; omega) hq8.ls hq8.lg); obtain ⟨⟨y0, y1, y2⟩, ⟨u0, u1, u2⟩, v0, v1, v2⟩ := hq8.kb'.bp.cells; have hgl := hq8.kb'.bp.rs.lt; have hgl2 := hq8.kb'.bp.ta.lt; have HBS := Lib.hid hbs; clear hb hq8 hbs)
              have HPL := Lib.hid (show PlA t [] 0 ⟨List.replicate b 0, t.last⟩ by rw [← HST.out]; exact PlA.start HT.out (by rw [← HP.out]; exact hp1))
              obtain ⟨gp, hgp⟩ : ∃ gp, gp = w8.heap.size := ⟨_, rfl⟩
              have ht12 := HT.out.n2
              clear y0 y1 y2 u0 u1 u2 v0 v1 v2 c1 hgl hgl2 hp1
              rw [← hgp] at HBS ⊢
              clear hgp
              go_loopw [71] (fun i wr => ∃ (i' : Nat) (sv vo : Value) (s : Ast) (out : List Int), i' ≤ t.costs.length ∧ i = .int .i64 i' ∧ Hid (BSt w wr w1.heap.size gs gp n (.slice (some ⟨b9, o9, none⟩) t.costs.length c) t K sv s vo out P) ∧ Hid (PlA t out i' s)) (fun i _ => t.costs.length - (intOf i).toNat)
              case atStart => exact ⟨0, _, _, _, [], Nat.zero_le _, rfl, HBS, HPL⟩
              case round =>
                clear HBS HPL
                obtain ⟨i', sv, vo, s, out, hi, rfl, hbs, hpl⟩ := hrel
                by_cases hlt3 : i' < t.costs.length
                · obtain ⟨A5, c5, he5, hsc, _⟩ := hbs.out.bW.shape
                  obtain ⟨A6, c6, he6, hsc6, _⟩ := (hbs.out.ow.sl elInt_good).shape
                  subst he5
                  subst he6
                  obtain ⟨bow, last⟩ := s
                  dsimp only at hsc hbs
                  have hok := hpl.out.ok
                  have hlen : bow.length = b := by rw [HNB.out]; exact hok.len
                  have hov := hpl.out.ov
                  have hbow := OkA.bow HT.out hok
                  have hsame : ∀ s', OkA t s' → ∃ ix : Nat, idxS t s' = (ix : Int) ∧ ix < n ∧ K.getD ix 0 = potP t s' := fun s' hs' => by
                    have h1 := idxS_bd (by have := HT.out.q1; omega) hs'
                    have h2 := dec_idxS (t := t) (by have := HT.out.q1; omega) hs'
                    have h3 := HNN.out
                    refine ⟨(idxS t s').toNat, by omega, by omega, ?_⟩
                    rw [HALL.out.2 _ (by rw [HKL.out]; omega), Int.toNat_of_nonneg h1.1, h2]
                  obtain ⟨ix1, hx1, hxn1, hxk1⟩ := hsame _ hok
                  obtain ⟨b8, o8, B8, cb8, hA8, hF8, t8, hsl8⟩ := rw_at HC.out hlt3
                  simp only [Option.some.injEq, Addr.mk.injEq, and_true] at hA8
                  obtain ⟨rfl, rfl⟩ := hA8
                  have hrow : (t.costs.getD i' []).length = bow.length := by
                    rw [hlen, HNB.out]
                    exact HT.out.row _ (by rw [List.getD_eq_getElem?_getD, List.getElem?_eq_getElem hlt3]; exact List.getElem_mem hlt3)
                  have kx := fun W (h : BSt w W w1.heap.size gs gp n (.slice (some ⟨b9, o9, none⟩) t.costs.length c) t K (.slice A5 bow.length c5) ⟨bow, last⟩ (.slice A6 out.length c6) out P) => att_index t (.slice (some ⟨b9, o9, none⟩) t.costs.length c) ⟨bow, last⟩ (.slice A5 bow.length c5) W HT.out h.bW hok
                  rw [hx1] at kx
                  unfold atV asV at kx
                  have km := fun W (h : BSt w W w1.heap.size gs gp n (.slice (some ⟨b9, o9, none⟩) t.costs.length c) t K (.slice A5 bow.length c5) ⟨bow, last⟩ (.slice A6 out.length c6) out P) j (hj : j < bow.length) => att_may t (.slice (some ⟨b9, o9, none⟩) t.costs.length c) ⟨bow, last⟩ (.slice A5 bow.length c5) j W h.bW hj
                  unfold atV asV at km
                  have kf := fun W (h : BSt w W w1.heap.size gs gp n (.slice (some ⟨b9, o9, none⟩) t.costs.length c) t K (.slice A5 bow.length c5) ⟨bow, last⟩ (.slice A6 out.length c6) out P) j (hj : j < bow.length) => att_after ⟨bow, last⟩ (.slice A5 bow.length c5) j W h.bW hj hbow
                  unfold asV at kf
                  obtain ⟨H, hH⟩ : ∃ H, H = potP t ⟨bow, last⟩ := ⟨_, rfl⟩
                  rw [← hH] at hxk1
                  have hc1 := fun W (h : Blk W w1.heap.size 2 (intsA K)) => (show W.cell? ⟨w1.heap.size, ix1, none⟩ = some (.int .i64 H) by rw [h.cell, intsA_get (by rw [HKL.out]; exact hxn1), hxk1])
                  have HC6 := Lib.hid hc1
                  have KX1 := Lib.hid kx
                  have KM := Lib.hid km
                  have KF := Lib.hid kf
                  have HH := Lib.hid hH
                  have HSM := Lib.hid hsame
                  have HOK := Lib.hid hok
                  have HOV := Lib.hid hov
                  have T8 := Lib.hid t8
                  have HSL8 := Lib.hid hsl8
                  have HROW := Lib.hid hrow
                  have HLEN := Lib.hid hlen
                  have gi3 : (i' : Int) < (t.costs.length : Int) := by omega
                  have gix1 : (ix1 : Int) < (n : Int) := by omega
                  have hb6' : bow.length ≤ 6 := by omega
                  obtain ⟨⟨y0, y1, y2⟩, ⟨z0, z1⟩, p0, p1, p2⟩ := hbs.out.cells
                  have c1 := hc1 _ hbs.out.kb'.kn
                  obtain ⟨wo3, rfl⟩ : ∃ wo3 : World, wo3 = wr := ⟨_, rfl⟩
                  clear hsame hx1 kx km kf hH hc1 hok hov t8 hsl8 hrow hlen hxk1 hbow
                  go_wp2_with (go_at_call 33; refine (KX1.out _ hbs.out).mono ?_; rintro e w9 ⟨rfl, hb⟩; clear y0 y1 y2 z0 z1 p0 p1 p2 c1; have h9 := hbs.out.step hb; obtain ⟨⟨y0, y1, y2⟩, ⟨z0, z1⟩, p0, p1, p2⟩ := h9.cells; have c1 := HC6.out _ h9.kb'.kn; have HB9 := Lib.hid h9; clear hb h9)
                  go_loopw [83] (fun jv wr => ∃ j : Nat, j ≤ bow.length ∧ jv = .int .i64 j ∧ Hid (BSt w wr w1.heap.size gs gp n (.slice (some ⟨b9, o9, none⟩) t.costs.length c) t K (.slice A5 bow.length c5) ⟨bow, last⟩ (.slice A6 out.length c6) out P) ∧ Hid (∀ j', j' < j → ¬ HitA t ⟨bow, last⟩ j')) (fun jv _ => bow.length - (intOf jv).toNat)
                  case atStart => exact ⟨0, Nat.zero_le _, rfl, HB9, Lib.hid fun j' h => absurd h (by omega)⟩
                  case round =>
                    clear HB9 hbs y0 y1 y2 z0 z1 p0 p1 p2 c1
                    obtain ⟨j, hj, rfl, hbs, hno⟩ := hrel
                    by_cases hltj : j < bow.length
                    case neg =>
                      obtain rfl : j = bow.length := by omega
                      exact absurd (hpl.out.some hlt3 fun j' h => hno.out j' (by rw [HLEN.out, HNB.out]; exact h)) id
                    obtain ⟨⟨y0, y1, y2⟩, ⟨z0, z1⟩, p0, p1, p2⟩ := hbs.out.cells
                    have hjb : j < nbA t := by rw [← HNB.out, ← HLEN.out]; exact hltj
                    have kmj := fun W h => KM.out W h j hltj
                    obtain ⟨mb, hmb⟩ : ∃ mb, mb = mayB t ⟨bow, last⟩ j := ⟨_, rfl⟩
                    rw [← hmb] at kmj
                    have KMJ := Lib.hid kmj
                    have gj : (j : Int) < (bow.length : Int) := by omega
                    have HMB := Lib.hid hmb
                    have HJB := Lib.hid hjb
                    clear kmj hmb hjb
                    cases mb
                    · go_wp2_with (go_at_call 34; refine (KMJ.out _ hbs.out).mono ?_; rintro e w4 ⟨rfl, hb⟩; clear y0 y1 y2 z0 z1 p0 p1 p2; have HI6 := Lib.hid (hbs.out.step hb); clear hb)
                      go_roundw
                      case rel => exact ⟨j + 1, by omega, by go_num, HI6, Lib.hid fun j' hj' => by
                        by_cases e : j' = j
                        · subst e; exact fun h => by have := HMB.out.trans h.1; exact absurd this (by decide)
                        · exact hno.out j' (by omega)⟩
                      case measure => simp [intOf]; omega
                    · have hok2 := aft_ok HOK.out HJB.out HMB.out.symm
                      obtain ⟨ix2, hx2, hxn2, hxk2⟩ := HSM.out _ hok2
                      have hpa := pot_bd HT.out hok2
                      have hcc := HT.out.c i' j
                      have kfj : ∀ W, BSt w W w1.heap.size gs gp n (.slice (some ⟨b9, o9, none⟩) t.costs.length c) t K (.slice A5 bow.length c5) ⟨bow, last⟩ (.slice A6 out.length c6) out P → Calls Tryz.prog 35 #[.agg #[.slice A5 bow.length c5, .int .i64 last], .int .i64 (j : Int)] W fun e w' => ∃ A c, e = .returned (.agg #[.slice A bow.length c, .int .i64 (j : Int)]) ∧ Sl 1 elInt w' (fun b => W.heap.size ≤ b ∧ b < w'.heap.size) (.slice A bow.length c) (aftS ⟨bow, last⟩ j).bow ∧ Below W.heap.size W w' := fun W h => by
                        refine (KF.out W h j hltj).mono ?_
                        rintro e w' ⟨A, c, he, hs, hb⟩
                        have e2 : (aftS ⟨bow, last⟩ j).bow.length = bow.length := List.length_set
                        rw [e2] at he hs
                        exact ⟨A, c, he, hs, hb⟩
                      have kx2 : ∀ (W W2 : World) A7 c9, (BSt w W2 w1.heap.size gs gp n (.slice (some ⟨b9, o9, none⟩) t.costs.length c) t K (.slice A5 bow.length c5) ⟨bow, last⟩ (.slice A6 out.length c6) out P) → Sl 1 elInt W2 (fun b => W.heap.size ≤ b ∧ b < W2.heap.size) (.slice A7 bow.length c9) (aftS ⟨bow, last⟩ j).bow → Calls Tryz.prog 33 #[.agg #[.slice (some ⟨b9, o9, none⟩) t.costs.length c, .int .i64 t.quota, .int .i64 t.last], .agg #[.slice A7 bow.length c9, .int .i64 (j : Int)]] W2 fun e w' => e = .returned (.int .i64 (ix2 : Int)) ∧ Below W2.heap.size W2 w' := fun W W2 A7 c9 h hs => by
                        have hh := att_index t (.slice (some ⟨b9, o9, none⟩) t.costs.length c) (aftS ⟨bow, last⟩ j) (.slice A7 bow.length c9) W2 HT.out (hs.keep elInt_good (Same.refl _ _) fun b hb => hb.2) hok2
                        rw [hx2] at hh
                        exact hh
                      obtain ⟨R, hR⟩ : ∃ R, R = potP t (aftS ⟨bow, last⟩ j) := ⟨_, rfl⟩
                      rw [← hR] at hxk2 hpa
                      have hc7 := fun W (h : Blk W w1.heap.size 2 (intsA K)) => (show W.cell? ⟨w1.heap.size, ix2, none⟩ = some (.int .i64 R) by rw [h.cell, intsA_get (by rw [HKL.out]; exact hxn2), hxk2])
                      have HC7 := Lib.hid hc7
                      obtain ⟨b7, o7, rfl, hF7, t7⟩ := num_at HSL8.out (k := j) (by rw [HROW.out]; exact hltj)
                      obtain ⟨C, hC⟩ : ∃ C, C = cAt t i' j := ⟨_, rfl⟩
                      have t7' : w.cell? ⟨b7, o7 + j, none⟩ = some (.int .i64 C) := by rw [hC]; exact t7
                      rw [← hC] at hcc
                      have T7 := Lib.hid t7'
                      have HF7 := Lib.hid hF7
                      obtain ⟨n9, hn9⟩ : ∃ m, m = (t.costs.getD i' []).length := ⟨_, rfl⟩
                      have T8b := T8
                      rw [← hn9] at T8b
                      have gj9 : (j : Int) < (n9 : Int) := by rw [hn9, HROW.out]; exact gj
                      have KFJ := Lib.hid kfj
                      have KX2 := Lib.hid kx2
                      have HR := Lib.hid hR
                      have HCC := Lib.hid (show C = cAt t (overS ⟨bow, last⟩).toNat j by rw [HOV.out, Int.toNat_natCast]; exact hC)
                      have gix2 : (ix2 : Int) < (n : Int) := by omega
                      clear T8 kfj kx2 hR hC t7 t7' hF7 hok2 hn9 hxk2 hc7 hx2
                      have T8 := T8b
                      clear T8b
                      have fw : IntKind.i64.wrap (C + R) = C + R := IntWalk.i64_in _ (by omega)
                      by_cases hr1 : R = -1
                      · subst hr1
                        go_upto_region 27 with (go_at_call 34; refine (KMJ.out _ hbs.out).mono ?_; rintro e w4 ⟨rfl, hb⟩; clear y0 y1 y2 z0 z1; have HI4 := Lib.hid ((hbs.out.step hb).step (Below.drew (Below.refl _ _))); clear hb)
                        obtain ⟨⟨y0, y1, y2⟩, ⟨z0, z1⟩, _⟩ := HI4.out.cells
                        have y0 : w4.cell? ⟨w.heap.size, 0, none⟩ = some (.slice (some ⟨b9, o9, none⟩) t.costs.length c) := y0
                        have y1 : w4.cell? ⟨w.heap.size, 1, none⟩ = some (.int .i64 t.quota) := y1
                        have y2 : w4.cell? ⟨w.heap.size, 2, none⟩ = some (.int .i64 t.last) := y2
                        have z0 : w4.cell? ⟨gs, 0, none⟩ = some (.slice A5 bow.length c5) := z0
                        have z1 : w4.cell? ⟨gs, 1, none⟩ = some (.int .i64 last) := z1
                        have c7 : w4.cell? ⟨w1.heap.size, ix2, none⟩ = some (.int .i64 (-1)) := HC7.out _ HI4.out.kb'.kn
                        go_region_held3 (fun w' => w'.cell? ⟨w.heap.size, 0, none⟩ = some (.slice (some ⟨b9, o9, none⟩) t.costs.length c) ∧ w'.cell? ⟨w.heap.size, 1, none⟩ = some (.int .i64 t.quota) ∧ w'.cell? ⟨w.heap.size, 2, none⟩ = some (.int .i64 t.last) ∧ w'.cell? ⟨gs, 0, none⟩ = some (.slice A5 bow.length c5) ∧ w'.cell? ⟨gs, 1, none⟩ = some (.int .i64 last) ∧ w'.cell? ⟨w1.heap.size, ix2, none⟩ = some (.int .i64 (-1))) (first | exact ⟨y0, y1, y2, z0, z1, c7⟩ | go_keep) (first
                          | (go_at_call 35; refine (KFJ.out _ HI4.out).mono ?_; rintro e w5 ⟨A7, c9, rfl, hs5, hb⟩; clear y0 y1 y2 z0 z1 c7; have HI5 := Lib.hid (HI4.out.step hb); have HS5 := Lib.hid hs5; obtain ⟨⟨y0, y1, y2⟩, ⟨z0, z1⟩, _⟩ := HI5.out.cells; have c7 := HC7.out _ HI5.out.kb'.kn; clear hb hs5)
                          | (go_at_call 33; refine (KX2.out _ _ _ _ HI5.out HS5.out).mono ?_; rintro e w6 ⟨rfl, hb⟩; clear y0 y1 y2 z0 z1 c7; have hi6 := HI5.out.step hb; obtain ⟨⟨y0, y1, y2⟩, ⟨z0, z1⟩, p0, p1, p2⟩ := hi6.cells; have c7 := HC7.out _ hi6.kb'.kn; have x0 := (hi6.kb'.bp.bel.cell (p := ⟨b9, o9 + i', none⟩) hF8).trans T8.out; have x1 := (hi6.kb'.bp.bel.cell (p := ⟨b7, o7 + j, none⟩) HF7.out).trans T7.out; have HI6 := Lib.hid hi6; clear hb hi6))
                        go_wp2
                        go_roundw
                        case rel => exact ⟨j + 1, by omega, by go_num, HI6, Lib.hid fun j' hj' => by
                          by_cases e : j' = j
                          · subst e; exact fun h => h.2.1 HR.out.symm
                          · exact hno.out j' (by omega)⟩
                        case measure => simp [intOf]; omega
                      have hr2 : (R != -1) = true := bneT hr1
                      by_cases hl : C + R = H
                      case neg =>
                        have hl2 : (C + R == H) = false := beqF hl
                        go_upto_region 27 with (go_at_call 34; refine (KMJ.out _ hbs.out).mono ?_; rintro e w4 ⟨rfl, hb⟩; clear y0 y1 y2 z0 z1; have HI4 := Lib.hid ((hbs.out.step hb).step (Below.drew (Below.refl _ _))); clear hb)
                        obtain ⟨⟨y0, y1, y2⟩, ⟨z0, z1⟩, _⟩ := HI4.out.cells
                        have y0 : w4.cell? ⟨w.heap.size, 0, none⟩ = some (.slice (some ⟨b9, o9, none⟩) t.costs.length c) := y0
                        have y1 : w4.cell? ⟨w.heap.size, 1, none⟩ = some (.int .i64 t.quota) := y1
                        have y2 : w4.cell? ⟨w.heap.size, 2, none⟩ = some (.int .i64 t.last) := y2
                        have z0 : w4.cell? ⟨gs, 0, none⟩ = some (.slice A5 bow.length c5) := z0
                        have z1 : w4.cell? ⟨gs, 1, none⟩ = some (.int .i64 last) := z1
                        have c7 : w4.cell? ⟨w1.heap.size, ix2, none⟩ = some (.int .i64 R) := HC7.out _ HI4.out.kb'.kn
                        go_region_held3 (fun w' => w'.cell? ⟨w.heap.size, 0, none⟩ = some (.slice (some ⟨b9, o9, none⟩) t.costs.length c) ∧ w'.cell? ⟨w.heap.size, 1, none⟩ = some (.int .i64 t.quota) ∧ w'.cell? ⟨w.heap.size, 2, none⟩ = some (.int .i64 t.last) ∧ w'.cell? ⟨gs, 0, none⟩ = some (.slice A5 bow.length c5) ∧ w'.cell? ⟨gs, 1, none⟩ = some (.int .i64 last) ∧ w'.cell? ⟨w1.heap.size, ix2, none⟩ = some (.int .i64 R)) (first | exact ⟨y0, y1, y2, z0, z1, c7⟩ | go_keep) (first
                          | (go_at_call 35; refine (KFJ.out _ HI4.out).mono ?_; rintro e w5 ⟨A7, c9, rfl, hs5, hb⟩; clear y0 y1 y2 z0 z1 c7; have HI5 := Lib.hid (HI4.out.step hb); have HS5 := Lib.hid hs5; obtain ⟨⟨y0, y1, y2⟩, ⟨z0, z1⟩, _⟩ := HI5.out.cells; have c7 := HC7.out _ HI5.out.kb'.kn; clear hb hs5)
                          | (go_at_call 33; refine (KX2.out _ _ _ _ HI5.out HS5.out).mono ?_; rintro e w6 ⟨rfl, hb⟩; clear y0 y1 y2 z0 z1 c7; have hi6 := HI5.out.step hb; obtain ⟨⟨y0, y1, y2⟩, ⟨z0, z1⟩, p0, p1, p2⟩ := hi6.cells; have c7 := HC7.out _ hi6.kb'.kn; have x0 := (hi6.kb'.bp.bel.cell (p := ⟨b9, o9 + i', none⟩) hF8).trans T8.out; have x1 := (hi6.kb'.bp.bel.cell (p := ⟨b7, o7 + j, none⟩) HF7.out).trans T7.out; have HI6 := Lib.hid hi6; clear hb hi6))
                        go_wp2
                        go_roundw
                        case rel => exact ⟨j + 1, by omega, by go_num, HI6, Lib.hid fun j' hj' => by
                          by_cases e : j' = j
                          · subst e; exact fun h => hl (by rw [HCC.out, HR.out, HH.out]; exact h.2.2)
                          · exact hno.out j' (by omega)⟩
                        case measure => simp [intOf]; omega
                      have hl2 : (C + R == H) = true := by rw [hl]; simp
                      go_upto_region 27 with (go_at_call 34; refine (KMJ.out _ hbs.out).mono ?_; rintro e w4 ⟨rfl, hb⟩; clear y0 y1 y2 z0 z1; have HI4 := Lib.hid ((hbs.out.step hb).step (Below.drew (Below.refl _ _))); clear hb)
                      obtain ⟨⟨y0, y1, y2⟩, ⟨z0, z1⟩, _⟩ := HI4.out.cells
                      have y0 : w4.cell? ⟨w.heap.size, 0, none⟩ = some (.slice (some ⟨b9, o9, none⟩) t.costs.length c) := y0
                      have y1 : w4.cell? ⟨w.heap.size, 1, none⟩ = some (.int .i64 t.quota) := y1
                      have y2 : w4.cell? ⟨w.heap.size, 2, none⟩ = some (.int .i64 t.last) := y2
                      have z0 : w4.cell? ⟨gs, 0, none⟩ = some (.slice A5 bow.length c5) := z0
                      have z1 : w4.cell? ⟨gs, 1, none⟩ = some (.int .i64 last) := z1
                      have c7 : w4.cell? ⟨w1.heap.size, ix2, none⟩ = some (.int .i64 R) := HC7.out _ HI4.out.kb'.kn
                      go_region_held3 (fun w' => w'.cell? ⟨w.heap.size, 0, none⟩ = some (.slice (some ⟨b9, o9, none⟩) t.costs.length c) ∧ w'.cell? ⟨w.heap.size, 1, none⟩ = some (.int .i64 t.quota) ∧ w'.cell? ⟨w.heap.size, 2, none⟩ = some (.int .i64 t.last) ∧ w'.cell? ⟨gs, 0, none⟩ = some (.slice A5 bow.length c5) ∧ w'.cell? ⟨gs, 1, none⟩ = some (.int .i64 last) ∧ w'.cell? ⟨w1.heap.size, ix2, none⟩ = some (.int .i64 R)) (first | exact ⟨y0, y1, y2, z0, z1, c7⟩ | go_keep) (first
                        | (go_at_call 35; refine (KFJ.out _ HI4.out).mono ?_; rintro e w5 ⟨A7, c9, rfl, hs5, hb⟩; clear y0 y1 y2 z0 z1 c7; have HI5 := Lib.hid (HI4.out.step hb); have HS5 := Lib.hid hs5; obtain ⟨⟨y0, y1, y2⟩, ⟨z0, z1⟩, _⟩ := HI5.out.cells; have c7 := HC7.out _ HI5.out.kb'.kn; clear hb hs5)
                        | (go_at_call 33; refine (KX2.out _ _ _ _ HI5.out HS5.out).mono ?_; rintro e w6 ⟨rfl, hb⟩; clear y0 y1 y2 z0 z1 c7; have hi6 := HI5.out.step hb; obtain ⟨⟨y0, y1, y2⟩, ⟨z0, z1⟩, p0, p1, p2⟩ := hi6.cells; have c7 := HC7.out _ hi6.kb'.kn; have x0 := (hi6.kb'.bp.bel.cell (p := ⟨b9, o9 + i', none⟩) hF8).trans T8.out; have x1 := (hi6.kb'.bp.bel.cell (p := ⟨b7, o7 + j, none⟩) HF7.out).trans T7.out; have HI6 := Lib.hid hi6; clear hb hi6))
                      have kfg : ∀ W, Sl 1 elInt W (· < W.heap.size) (.slice A5 bow.length c5) bow → Calls Tryz.prog 35 #[.agg #[.slice A5 bow.length c5, .int .i64 last], .int .i64 (j : Int)] W fun e w' => ∃ A c, e = .returned (.agg #[.slice A bow.length c, .int .i64 (j : Int)]) ∧ Sl 1 elInt w' (fun b => W.heap.size ≤ b ∧ b < w'.heap.size) (.slice A bow.length c) (aftS ⟨bow, last⟩ j).bow ∧ Below W.heap.size W w' := fun W h => by
                        have hh := att_after ⟨bow, last⟩ (.slice A5 bow.length c5) j W h hltj (OkA.bow HT.out HOK.out)
                        unfold asV at hh
                        refine hh.mono ?_
                        rintro e w' ⟨A, c, he, hs, hb⟩
                        have e2 : (aftS ⟨bow, last⟩ j).bow.length = bow.length := List.length_set
                        rw [e2] at he hs
                        exact ⟨A, c, he, hs, hb⟩
                      have KFG := Lib.hid kfg
                      have HOA := Lib.hid (HI6.out.alloc (.cells #[.int .i64 (j : Int)] 3))
                      have hol : out.length ≤ 12 := by have := hpl.out.len; omega
                      have HR1 := Lib.hid (show out.length + 1 ≤ maxLen by unfold maxLen; omega)
                      have HR2 := Lib.hid (show (out.length + 1) * 8 ≤ 140737488355328 by omega)
                      have HBA := Lib.hid (show w.heap.size + 2 ≤ (w6.alloc (.cells #[.int .i64 (j : Int)] 3)).heap.size by have := HI6.out.kb'.bp.rs.lt; simp; omega)
                      have HPN := Lib.hid (hpl.out.next HJB.out ⟨HMB.out.symm, by rw [← HR.out]; exact hr1, by rw [← HCC.out, ← HR.out, ← HH.out]; exact hl⟩)
                      have hgp6 := HI6.out.pb.lt
                      clear kfg hol
                      go_wp2_with (first
                        | (at_builtin; refine wpList_append_sl _ rfl (.tmp 116) (.tmp 118) _ rfl E_intA elInt_good (w.heap.size + 2) _ out rfl HOA.out.ow ⟨w6.heap.size, 0, none⟩ 1 [.int .i64 (j : Int)] rfl (j : Int) rfl (cells_new _ _ _ _) (oneCells rfl) rfl HR1.out HR2.out HBA.out ?_; intro v5 w5 hown5 hg5 hat5; have hpb := HOA.out.pb.grown hg5 (own_ne HOA.out.ow HOA.out.pb (by decide)); have hq := HOA.out.app hown5 hg5 hat5; obtain ⟨A10, c10, rfl, _, _⟩ := (hown5.sl elInt_good).shape; rw [List.length_append, List.length_singleton] at hq; have q0 := hpb.cell 0; have qf := hpb.frozen 0; clear y0 y1 y2 z0 z1 p0 p1 p2 c7 x0 x1; obtain ⟨⟨y0, y1, y2⟩, ⟨z0, z1⟩, _⟩ := hq.cells; have HQ := Lib.hid hq; clear hown5 hg5 hat5 hpb hq)
                        | (go_at_call 35; refine (KFG.out _ HQ.out.bW).mono ?_; rintro e w7 ⟨A11, c11, rfl, hs7, hb⟩; clear y0 y1 y2 z0 z1 q0 qf; have hq7 := HQ.out.step hb; have z0 := hq7.sb.cell 0; have z1 := hq7.sb.cell 1; have f0 := hq7.sb.frozen 0; have f1 := hq7.sb.frozen 1; have HT7 := Lib.hid (HQ.out.turn (s2 := aftS ⟨bow, last⟩ j) hb hs7); clear hb hq7 hs7))
                      go_roundw
                      case rel => exact ⟨i' + 1, _, _, aftS ⟨bow, last⟩ j, out ++ [(j : Int)], by omega, by go_num, HT7, HPN⟩
                      case measure => simp [intOf]; omega
                · have hi9 : i' = t.costs.length := by omega
                  subst hi9
                  obtain ⟨A6, c6, he6, hsc6, _⟩ := (hbs.out.ow.sl elInt_good).shape
                  subst he6
                  obtain ⟨⟨y0, y1, y2⟩, ⟨z0, z1⟩, p0, p1, p2⟩ := hbs.out.cells
                  obtain ⟨_, ⟨u0, u1, u2⟩, v0, v1, v2⟩ := hbs.out.kb'.bp.cells
                  have HBS := Lib.hid hbs.out
                  have HLN := Lib.hid hpl.out.len
                  have HDN := Lib.hid hpl.out.done
                  have HPT := Lib.hid (show potP t (startA t) ≠ -1 by rw [← HP.out]; intro e; rw [e] at hp2; exact absurd hp2 (by decide))
                  clear hbs hpl hsc6
                  go_wp2
                  have hput := put3_blk HBS.out.kb'.bp.rs (.slice A6 out.length c6) (.int .i64 P) (.slice (some ⟨w1.heap.size, 0, none⟩) n n)
                  have hlo := HBS.out.kb'.lo
                  refine att_Best_ret rfl rfl hput rfl ⟨put3_below HBS.out.kb'.bp.bel (by omega) _ _ _, .inr ⟨A6, c6, w1.heap.size, out, K, HPT.out, ?_, HLN.out, HDN.out, HALL.out, ?_, ?_, by omega⟩⟩
                  · rw [HLN.out, HKL.out, HP.out]; rfl
                  · have hs := HBS.out.ow.sl elInt_good
                    rw [HLN.out] at hs
                    exact hs.keep elInt_good (fun b hb => put3_far (by omega) _ _ _) fun b hb => ⟨by omega, by have := hb.2; simpa [put3] using this⟩
                  · exact (put3_far (by omega) _ _ _).trans HBS.out.kb'.kn
end Go.Proofs.YtjchapoggmipbaaGreatDoor

namespace Go.Proofs.YtjchapoggmipbaaGreatDoor
open Go.RowKit

theorem BX.costs {w W : World} {cv : Value} {t : Att} (h : BX w W cv t) (hc : Sl 1 elRw w (· < w.heap.size) cv t.costs) : Sl 1 elRw W (· < W.heap.size) cv t.costs :=
  hc.keep elRw_good (Same.of_below h.bel) fun b hb => Nat.lt_of_lt_of_le hb h.bel.size
set_option maxRecDepth 100000 in
set_option maxHeartbeats 4000000 in
theorem att_formed (t : Att) (cv kv : Value) (K : List Int) (w : World) (ht : OkT46 t) (hst : statesS t.quota (nbA t) = cntA t) (h : Sl 1 elRw w (· < w.heap.size) cv t.costs) (hk : Sl 1 elInt w (· < w.heap.size) kv K) (hK : AllA t K) :
    Calls Tryz.prog 37 #[atV cv t, kv] w fun e w' => e = .returned (.bool true) ∧ Below w.heap.size w w' := by
  obtain ⟨A, c, rfl, hc, hc2⟩ := h.shape
  obtain ⟨A2, c2, rfl, hc3, hc4⟩ := hk.shape
  have HX := Lib.hid (BX.new w (.slice A t.costs.length c) t)
  obtain ⟨b9, o9, B9, cb9, rfl, hF9, t9, _⟩ := rw_at h (k := 0) (by have := ht.n1; omega)
  rw [Nat.add_zero] at t9
  have x9 := (HX.out.bel.cell (p := ⟨b9, o9, none⟩) hF9).trans t9
  have q1 := ht.q1
  have q2 := ht.q2
  have hT12 := ht.n2
  have ks := fun W => att_states t.quota (nbA t) W (by omega) (by have := ht.b2; omega)
  rw [hst, ← hK.1] at ks
  have gL : (0 : Int) < (t.costs.length : Int) := by have := ht.n1; omega
  have gL2 : 0 < t.costs.length := by omega
  have gL3 : decide ((0 : Int) < (t.costs.length : Int)) = true := decide_eq_true gL
  have gL4 : ¬ t.costs = [] := by intro e; rw [e] at gL2; exact absurd gL2 (by decide)
  obtain ⟨b, hb⟩ : ∃ b, b = nbA t := ⟨_, rfl⟩
  rw [← hb] at ks
  have x9' : (w.alloc (.cells #[.slice (some ⟨b9, o9, none⟩) t.costs.length c, .int .i64 t.quota, .int .i64 t.last] 31)).cell? ⟨b9, o9, none⟩ = some (.slice B9 b cb9) := by rw [hb]; exact x9
  obtain ⟨y0, y1, y2⟩ := HX.out.cells
  have HY0 := Lib.hid y0
  have HY1 := Lib.hid y1
  have HX9 := Lib.hid x9'
  have KS := Lib.hid ks
  have HC := Lib.hid h
  have HK := Lib.hid hk
  have HA := Lib.hid hK
  have HT := Lib.hid ht
  have hN : K.length ≤ 200000 := by have := ht.cnt; have := hK.1; omega
  have gne : ((K.length : Int) != (K.length : Int)) = false := bneF rfl
  have HBD := Lib.hid (Below.drew HX.out.bel)
  have HXD := Lib.hid (HX.out.step (Below.drew (Below.refl _ _)))
  unfold atV
  clear t9 x9 x9' ks h hk hK ht hst hb y0 y1 y2
  go_enter Tryz.func37, Tryz.ntmps37
  go_upto_region 1 with fail
  have y0 := HY0.out
  have y1 := HY1.out
  have x9 := HX9.out
  go_region_held3 (fun w' => w'.cell? ⟨w.heap.size, 0, none⟩ = some (.slice (some ⟨b9, o9, none⟩) t.costs.length c) ∧ w'.cell? ⟨w.heap.size, 1, none⟩ = some (.int .i64 t.quota) ∧ w'.cell? ⟨b9, o9, none⟩ = some (.slice B9 b cb9)) (first | exact ⟨y0, y1, x9⟩ | go_keep) ((go_at_call 63; refine (KS.out _).mono ?_; rintro e w5 ⟨rfl, hb⟩; obtain rfl := hb))
  clear y0 y1 x9
  go_wp2
  go_loopw [20] (fun i wr => ∃ k : Nat, k ≤ K.length ∧ i = .int .i64 k ∧ Hid (BX w wr (.slice (some ⟨b9, o9, none⟩) t.costs.length c) t)) (fun i _ => K.length - (intOf i).toNat)
  case atStart => exact ⟨0, Nat.zero_le _, rfl, HXD⟩
  case round =>
    clear HXD
    obtain ⟨k, hk, rfl, hx⟩ := hrel
    by_cases hlt : k < K.length
    · obtain ⟨b8, o8, rfl, hF8, t8⟩ := num_at HK.out hlt
      have x8 := (hx.out.bel.cell (p := ⟨b8, o8 + k, none⟩) hF8).trans t8
      have hv := HA.out.2 k hlt
      have hok := decS_ok (t := t) (n := (k : Int)) (by omega) (by omega)
      have hpb := pot_bd HT.out hok
      have hend := fun e => pot_end (t := t) (s := decS t (k : Int)) e
      rw [← hv] at hpb hend
      have kd := fun W (h : BX w W (.slice (some ⟨b9, o9, none⟩) t.costs.length c) t) => att_decoded t (.slice (some ⟨b9, o9, none⟩) t.costs.length c) (k : Int) W HT.out (h.costs HC.out) (by omega)
      have ko := fun W A5 c5 (hs : Sl 1 elInt W (· < W.heap.size) (.slice A5 (decS t (k : Int)).bow.length c5) (decS t (k : Int)).bow) => att_over (decS t (k : Int)) (.slice A5 (decS t (k : Int)).bow.length c5) W hs (OkA.bow HT.out hok)
      unfold atV at kd
      unfold asV at ko
      obtain ⟨ds, hds⟩ : ∃ ds, ds = decS t (k : Int) := ⟨_, rfl⟩
      rw [← hds] at kd ko hend
      obtain ⟨ov, hov⟩ : ∃ o, o = overS ds := ⟨_, rfl⟩
      rw [← hov] at ko hend
      obtain ⟨bow, last⟩ := ds
      dsimp only at ko
      obtain ⟨v, hvv⟩ : ∃ v, v = K.getD k 0 := ⟨_, rfl⟩
      rw [← hvv] at x8 hpb hend
      have gk : (k : Int) < (K.length : Int) := by omega
      have g1 : ¬ v < -1 := by omega
      have g1b : decide (v < -1) = false := decide_eq_false g1
      have KD := Lib.hid kd
      have KO := Lib.hid ko
      have HXN := Lib.hid (fun nq => hx.out.step (Below.drewN_ (Below.refl _ _) nq))
      have HXR := Lib.hid (hx.out.step (Below.drew (Below.refl _ _)))
      clear t8 hv hok kd ko hds hov hvv
      by_cases hv0 : v = 0
      · have g2 : (v != 0) = false := bneF hv0
        clear hend hx
        obtain ⟨y0, y1, y2⟩ := (HXN.out 0).cells
        clear y0 y1 y2
        go_upto_region 6 with fail
        go_quiet (fail)
        go_wp2
        go_roundw
        case rel => exact ⟨k + 1, by omega, by go_num, Lib.hid (HXN.out _)⟩
        case measure => simp [intOf]; omega
      · have g2 : (v != 0) = true := bneT hv0
        have g3 : (ov == (t.costs.length : Int)) = false := beqF fun e => hv0 (hend e)
        obtain ⟨y0, y1, y2⟩ := hx.out.cells
        clear hend hx
        go_upto_region 6 with fail
        go_region_held3 (fun w' => w'.cell? ⟨w.heap.size, 0, none⟩ = some (.slice (some ⟨b9, o9, none⟩) t.costs.length c) ∧ w'.cell? ⟨w.heap.size, 1, none⟩ = some (.int .i64 t.quota) ∧ w'.cell? ⟨w.heap.size, 2, none⟩ = some (.int .i64 t.last)) (first | exact ⟨y0, y1, y2⟩ | go_keep) (first
          | (go_at_call 32; refine (KD.out _ HXR.out).mono ?_; rintro e w5 ⟨A5, c5, rfl, hs5, hb⟩; clear y0 y1 y2; have HX5 := Lib.hid (HXR.out.step hb); have HS5 := Lib.hid (hs5.keep elInt_good (Same.refl _ _) (G := fun b => b < w5.heap.size) fun b hb => hb.2); obtain ⟨y0, y1, y2⟩ := HX5.out.cells; clear hb hs5)
          | (go_at_call 64; refine (KO.out _ _ _ HS5.out).mono ?_; rintro e w6 ⟨rfl, hb⟩; clear y0 y1 y2; have HX6 := Lib.hid (HX5.out.step hb); obtain ⟨y0, y1, y2⟩ := HX6.out.cells; clear hb))
        go_wp2
        go_roundw
        case rel => exact ⟨k + 1, by omega, by go_num, HX6⟩
        case measure => simp [intOf]; omega
    · obtain rfl : k = K.length := by omega
      have HXE := Lib.hid hx.out
      clear hx
      go_wp2
      go_ret
      exact ⟨rfl, HXE.out.bel⟩
end Go.Proofs.YtjchapoggmipbaaGreatDoor

namespace Go.Proofs.YtjchapoggmipbaaGreatDoor
open Go.RowKit

/-- The task's box and a state's. -/
structure BD (w W : World) (gs : Nat) (cv : Value) (t : Att) (sv : Value) (s : Ast) : Prop where
  bel : Below w.heap.size w W
  ta : Blk W w.heap.size 31 #[cv, .int .i64 t.quota, .int .i64 t.last]
  sb : Blk W gs 91 #[sv, .int .i64 s.last]
  bs : Sl 1 elInt W (· < W.heap.size) sv s.bow
theorem BD.step {w W W' : World} {gs : Nat} {cv : Value} {t : Att} {sv : Value} {s : Ast} (h : BD w W gs cv t sv s) (hb : Below W.heap.size W W') : BD w W' gs cv t sv s := ⟨h.bel.trans (hb.mono h.bel.size), h.ta.below hb h.ta.lt, h.sb.below hb h.sb.lt, sl_lowA elInt_good h.bs hb⟩
theorem BD.cells {w W : World} {gs : Nat} {cv : Value} {t : Att} {sv : Value} {s : Ast} (h : BD w W gs cv t sv s) : (W.cell? ⟨w.heap.size, 0, none⟩ = some cv ∧ W.cell? ⟨w.heap.size, 1, none⟩ = some (.int .i64 t.quota) ∧ W.cell? ⟨w.heap.size, 2, none⟩ = some (.int .i64 t.last)) ∧ W.cell? ⟨gs, 0, none⟩ = some sv ∧ W.cell? ⟨gs, 1, none⟩ = some (.int .i64 s.last) := ⟨blk_threeA h.ta, blk_twoA h.sb⟩
theorem BD.new {w W : World} {cv : Value} {t : Att} {sv : Value} {s : Ast} (h : BX w W cv t) (hs : Sl 1 elInt W (· < W.heap.size) sv s.bow) : BD w (W.alloc (.cells #[sv, .int .i64 s.last] 91)) W.heap.size cv t sv s :=
  ⟨h.bel.alloc h.bel.size _, h.ta.alloc _, Blk.new _ _ _, sl_lowA elInt_good hs (low_allocA _ _)⟩
theorem BD.costs {w W : World} {gs : Nat} {cv : Value} {t : Att} {sv : Value} {s : Ast} (h : BD w W gs cv t sv s) (hc : Sl 1 elRw w (· < w.heap.size) cv t.costs) : Sl 1 elRw W (· < W.heap.size) cv t.costs :=
  hc.keep elRw_good (Same.of_below h.bel) fun b hb => Nat.lt_of_lt_of_le hb h.bel.size
set_option maxRecDepth 100000 in
set_option maxHeartbeats 4000000 in
theorem att_bounded (t : Att) (cv kv : Value) (K : List Int) (k : Nat) (w : World) (ht : OkT46 t) (h : Sl 1 elRw w (· < w.heap.size) cv t.costs) (hk : Sl 1 elInt w (· < w.heap.size) kv K) (hK : AllA t K) (hkl : k < K.length) :
    Calls Tryz.prog 38 #[atV cv t, kv, .int .i64 (k : Int)] w fun e w' => e = .returned (.bool true) ∧ Below w.heap.size w w' := by
  obtain ⟨A, c, rfl, hc, hc2⟩ := h.shape
  obtain ⟨bk, ok, hkv, hFk, tk⟩ : ∃ b o, (∃ c2, kv = .slice (some ⟨b, o, none⟩) K.length c2 ∧ K.length ≤ c2 ∧ c2 ≤ 9223372036854775807) ∧ b < w.heap.size ∧ ∀ i, i < K.length → w.cell? ⟨b, o + i, none⟩ = some (.int .i64 (K.getD i 0)) := by
    obtain ⟨A2, c2, rfl, h1, h2⟩ := hk.shape
    obtain ⟨b, o, rfl, hF, _⟩ := num_at hk hkl
    refine ⟨b, o, ⟨c2, rfl, h1, h2⟩, hF, fun i hi => ?_⟩
    obtain ⟨b', o', e, _, t⟩ := num_at hk hi
    simp only [Option.some.injEq, Addr.mk.injEq, and_true] at e
    obtain ⟨rfl, rfl⟩ := e
    exact t
  obtain ⟨c2, rfl, hc3, hc4⟩ := hkv
  have HX := Lib.hid (BX.new w (.slice A t.costs.length c) t)
  have hq : 0 ≤ t.quota := by have := ht.q1; omega
  have hT12 := ht.n2
  have hN : K.length ≤ 200000 := by have := ht.cnt; have := hK.1; omega
  have hok := decS_ok (t := t) (n := (k : Int)) hq (by omega)
  have hv := hK.2 k hkl
  have hpb := pot_bd ht hok
  rw [← hv] at hpb
  have hov0 : 0 ≤ overS (decS t (k : Int)) := ovF_nonneg fun x hx => (hok.bd x hx).1
  obtain ⟨i, hi⟩ : ∃ i : Nat, overS (decS t (k : Int)) = (i : Int) := ⟨(overS (decS t (k : Int))).toNat, by omega⟩
  have hi72 : overS (decS t (k : Int)) ≤ 72 := by
    have h1 := (OkA.bow ht hok).sum (decS t (k : Int)).bow.length
    rw [List.take_length] at h1
    exact h1.2
  have kd := fun W (h' : BX w W (.slice A t.costs.length c) t) => att_decoded t (.slice A t.costs.length c) (k : Int) W ht (h'.costs h) (by omega)
  have hnb := hok.len
  have hle := fun j hj hm hi hp => pot_le (t := t) (s := decS t (k : Int)) (j := j) ht hok hj hm hi hp
  rw [← hv] at hle
  have hsame : ∀ s', OkA t s' → ∃ ix : Nat, idxS t s' = (ix : Int) ∧ ix < K.length ∧ K.getD ix 0 = potP t s' := fun s' hs' => by
    have h1 := idxS_bd hq hs'
    have h2 := dec_idxS hq hs'
    have h3 := hK.1
    refine ⟨(idxS t s').toNat, by omega, by omega, ?_⟩
    rw [hK.2 _ (by omega), Int.toNat_of_nonneg h1.1, h2]
  obtain ⟨s, hs⟩ : ∃ s, s = decS t (k : Int) := ⟨_, rfl⟩
  rw [← hs] at hok kd hi hi72 hle hnb
  obtain ⟨v, hvv⟩ : ∃ v, v = K.getD k 0 := ⟨_, rfl⟩
  rw [← hvv] at hpb hle
  obtain ⟨bow, last⟩ := s
  dsimp only at hnb hle
  have hlen6 : bow.length ≤ 6 := by rw [hnb]; exact ht.b2
  have tk0 := tk k hkl
  rw [← hvv] at tk0
  unfold atV at kd
  have KD := Lib.hid kd
  have KO := Lib.hid (fun W gs A5 c5 (h' : BD w W gs (.slice A t.costs.length c) t (.slice A5 bow.length c5) ⟨bow, last⟩) => att_over ⟨bow, last⟩ (.slice A5 bow.length c5) W h'.bs (OkA.bow ht hok))
  rw [hi] at KO
  have KM := Lib.hid (fun W gs A5 c5 (h' : BD w W gs (.slice A t.costs.length c) t (.slice A5 bow.length c5) ⟨bow, last⟩) j (hj : j < bow.length) => att_may t (.slice A t.costs.length c) ⟨bow, last⟩ (.slice A5 bow.length c5) j W h'.bs hj)
  have KF := Lib.hid (fun W gs A5 c5 (h' : BD w W gs (.slice A t.costs.length c) t (.slice A5 bow.length c5) ⟨bow, last⟩) j (hj : j < bow.length) => att_after ⟨bow, last⟩ (.slice A5 bow.length c5) j W h'.bs hj (OkA.bow ht hok))
  unfold asV at KO KF KM
  unfold atV at KM
  have HT := Lib.hid ht
  have HC := Lib.hid h
  have HTK := Lib.hid tk
  have HTK0 := Lib.hid tk0
  have HII := Lib.hid hi
  have HOK := Lib.hid hok
  have HLE := Lib.hid hle
  have HSM := Lib.hid hsame
  have HNB := Lib.hid hnb
  have gk : (k : Int) < (K.length : Int) := by omega
  unfold atV
  clear kd h hk hK hok hv hi hle hsame hs hvv tk tk0 hnb ht hov0 hq
  have hi73 : i ≤ 72 := by have := HII.out; omega
  clear hi72
  by_cases hlt : i < t.costs.length
  case neg =>
    have gi : ¬ (i : Int) < (t.costs.length : Int) := by omega
    clear hlt
    go_enter Tryz.func38, Tryz.ntmps38
    go_wp2_with (first
      | (go_at_call 32; refine (KD.out _ HX.out).mono ?_; rintro e w1 ⟨A5, c5, rfl, hs5, hb⟩; have HX1 := Lib.hid (HX.out.step hb); have HD := Lib.hid (BD.new HX1.out (s := ⟨bow, last⟩) (hs5.keep elInt_good (Same.refl _ _) fun b hb => hb.2)); obtain ⟨⟨y0, y1, y2⟩, z0, z1⟩ := HD.out.cells; clear y0 y1 y2 z0 z1 hb hs5)
      | (go_at_call 64; refine (KO.out _ _ _ _ HD.out).mono ?_; rintro e w2 ⟨rfl, hb⟩; have HD2 := Lib.hid (HD.out.step hb); obtain ⟨⟨y0, y1, y2⟩, z0, z1⟩ := HD2.out.cells; clear hb))
    go_loopw [9] (fun j wr => j = .int .i64 0 ∧ Hid (BD w wr w1.heap.size (.slice A t.costs.length c) t (.slice A5 bow.length c5) ⟨bow, last⟩)) (fun _ _ => 0)
    case atStart => exact ⟨rfl, HD2⟩
    case round =>
      clear HD2 y0 y1 y2 z0 z1
      obtain ⟨rfl, hd⟩ := hrel
      obtain ⟨⟨y0, y1, y2⟩, z0, z1⟩ := hd.out.cells
      have HD3 := Lib.hid hd.out
      clear hd
      go_wp2
      go_ret
      exact ⟨rfl, HD3.out.bel⟩
  have gi : (i : Int) < (t.costs.length : Int) := by omega
  obtain ⟨b9, o9, B9, cb9, rfl, hF9, t9, hsl9⟩ := rw_at HC.out (k := i) hlt
  have hrow : (t.costs.getD i []).length = bow.length := by
    rw [HNB.out]
    exact HT.out.row _ (by rw [List.getD_eq_getElem?_getD, List.getElem?_eq_getElem hlt]; exact List.getElem_mem hlt)
  have T9 := Lib.hid t9
  have HSL9 := Lib.hid hsl9
  have HROW := Lib.hid hrow
  clear t9 hsl9 hrow
  go_enter Tryz.func38, Tryz.ntmps38
  go_wp2_with (first
    | (go_at_call 32; refine (KD.out _ HX.out).mono ?_; rintro e w1 ⟨A5, c5, rfl, hs5, hb⟩; have HX1 := Lib.hid (HX.out.step hb); have HD := Lib.hid (BD.new HX1.out (s := ⟨bow, last⟩) (hs5.keep elInt_good (Same.refl _ _) fun b hb => hb.2)); clear hb hs5)
    | (go_at_call 64; refine (KO.out _ _ _ _ HD.out).mono ?_; rintro e w2 ⟨rfl, hb⟩; have HD2 := Lib.hid (HD.out.step hb); obtain ⟨⟨y0, y1, y2⟩, z0, z1⟩ := HD2.out.cells; clear hb))
  go_loopw [9] (fun j wr => ∃ jn : Nat, jn ≤ bow.length ∧ j = .int .i64 jn ∧ Hid (BD w wr w1.heap.size (.slice (some ⟨b9, o9, none⟩) t.costs.length c) t (.slice A5 bow.length c5) ⟨bow, last⟩)) (fun j _ => bow.length - (intOf j).toNat)
  case atStart => exact ⟨0, Nat.zero_le _, rfl, HD2⟩
  case round =>
    clear HD2 y0 y1 y2 z0 z1
    obtain ⟨j, hj, rfl, hd⟩ := hrel
    obtain ⟨⟨y0, y1, y2⟩, z0, z1⟩ := hd.out.cells
    by_cases hltj : j < bow.length
    case neg =>
      obtain rfl : j = bow.length := by omega
      have HD3 := Lib.hid hd.out
      clear hd
      go_wp2
      go_ret
      exact ⟨rfl, HD3.out.bel⟩
    have hjb : j < nbA t := by rw [← HNB.out]; exact hltj
    have kmj := fun W h => KM.out W w1.heap.size A5 c5 h j hltj
    obtain ⟨mb, hmb⟩ : ∃ mb, mb = mayB t ⟨bow, last⟩ j := ⟨_, rfl⟩
    rw [← hmb] at kmj
    have KMJ := Lib.hid kmj
    have gj : (j : Int) < (bow.length : Int) := by omega
    have HMB := Lib.hid hmb
    have HJB := Lib.hid hjb
    clear kmj hmb hjb
    cases mb
    · go_wp2_with (go_at_call 34; refine (KMJ.out _ hd.out).mono ?_; rintro e w4 ⟨rfl, hb⟩; clear y0 y1 y2 z0 z1; have HI6 := Lib.hid (hd.out.step hb); clear hb)
      go_roundw
      case rel => exact ⟨j + 1, by omega, by go_num, HI6⟩
      case measure => simp [intOf]; omega
    · have hok2 := aft_ok HOK.out HJB.out HMB.out.symm
      obtain ⟨ix2, hx2, hxn2, hxk2⟩ := HSM.out _ hok2
      have hpa := pot_bd HT.out hok2
      have hcc := HT.out.c i j
      have hlaw := fun hp => HLE.out j HJB.out HMB.out.symm (by rw [HII.out]; exact gi) hp
      rw [HII.out, Int.toNat_natCast] at hlaw
      have kfj : ∀ W, BD w W w1.heap.size (.slice (some ⟨b9, o9, none⟩) t.costs.length c) t (.slice A5 bow.length c5) ⟨bow, last⟩ → Calls Tryz.prog 35 #[.agg #[.slice A5 bow.length c5, .int .i64 last], .int .i64 (j : Int)] W fun e w' => ∃ A c, e = .returned (.agg #[.slice A bow.length c, .int .i64 (j : Int)]) ∧ Sl 1 elInt w' (fun b => W.heap.size ≤ b ∧ b < w'.heap.size) (.slice A bow.length c) (aftS ⟨bow, last⟩ j).bow ∧ Below W.heap.size W w' := fun W h => by
        refine (KF.out W _ _ _ h j hltj).mono ?_
        rintro e w' ⟨A, c, he, hs, hb⟩
        have e2 : (aftS ⟨bow, last⟩ j).bow.length = bow.length := List.length_set
        rw [e2] at he hs
        exact ⟨A, c, he, hs, hb⟩
      have kx2 : ∀ (W W2 : World) A7 c9, BD w W2 w1.heap.size (.slice (some ⟨b9, o9, none⟩) t.costs.length c) t (.slice A5 bow.length c5) ⟨bow, last⟩ → Sl 1 elInt W2 (fun b => W.heap.size ≤ b ∧ b < W2.heap.size) (.slice A7 bow.length c9) (aftS ⟨bow, last⟩ j).bow → Calls Tryz.prog 33 #[.agg #[.slice (some ⟨b9, o9, none⟩) t.costs.length c, .int .i64 t.quota, .int .i64 t.last], .agg #[.slice A7 bow.length c9, .int .i64 (j : Int)]] W2 fun e w' => e = .returned (.int .i64 (ix2 : Int)) ∧ Below W2.heap.size W2 w' := fun W W2 A7 c9 h hs => by
        have hh := att_index t (.slice (some ⟨b9, o9, none⟩) t.costs.length c) (aftS ⟨bow, last⟩ j) (.slice A7 bow.length c9) W2 HT.out (hs.keep elInt_good (Same.refl _ _) fun b hb => hb.2) hok2
        rw [hx2] at hh
        exact hh
      obtain ⟨R, hR⟩ : ∃ R, R = potP t (aftS ⟨bow, last⟩ j) := ⟨_, rfl⟩
      rw [← hR] at hxk2 hpa hlaw
      have t7 := HTK.out ix2 hxn2
      rw [hxk2] at t7
      obtain ⟨b6, o6, rfl, hF6, t6⟩ := num_at HSL9.out (k := j) (by rw [HROW.out]; exact hltj)
      obtain ⟨C, hC⟩ : ∃ C, C = cAt t i j := ⟨_, rfl⟩
      have t6' : w.cell? ⟨b6, o6 + j, none⟩ = some (.int .i64 C) := by rw [hC]; exact t6
      rw [← hC] at hcc hlaw
      have T6 := Lib.hid t6'
      have T7 := Lib.hid t7
      have HF6 := Lib.hid hF6
      obtain ⟨n9, hn9⟩ : ∃ m, m = (t.costs.getD i []).length := ⟨_, rfl⟩
      have T9b := T9
      rw [← hn9] at T9b
      have gj9 : (j : Int) < (n9 : Int) := by rw [hn9, HROW.out]; exact gj
      have KFJ := Lib.hid kfj
      have KX2 := Lib.hid kx2
      have gix2 : (ix2 : Int) < (K.length : Int) := by omega
      clear T9 kfj kx2 hR hC t6 t6' t7 hF6 hok2 hn9 hxk2 hx2
      have T9 := T9b
      clear T9b
      have fw : IntKind.i64.wrap (v - C) = v - C := IntWalk.i64_in _ (by omega)
      go_upto_region 7 with (go_at_call 34; refine (KMJ.out _ hd.out).mono ?_; rintro e w4 ⟨rfl, hb⟩; clear y0 y1 y2 z0 z1; have HI4 := Lib.hid ((hd.out.step hb).step (Below.drew (Below.refl _ _))); clear hb)
      obtain ⟨⟨y0, y1, y2⟩, z0, z1⟩ := HI4.out.cells
      have y0 : w4.cell? ⟨w.heap.size, 0, none⟩ = some (.slice (some ⟨b9, o9, none⟩) t.costs.length c) := y0
      have y1 : w4.cell? ⟨w.heap.size, 1, none⟩ = some (.int .i64 t.quota) := y1
      have y2 : w4.cell? ⟨w.heap.size, 2, none⟩ = some (.int .i64 t.last) := y2
      have z0 : w4.cell? ⟨w1.heap.size, 0, none⟩ = some (.slice A5 bow.length c5) := z0
      have z1 : w4.cell? ⟨w1.heap.size, 1, none⟩ = some (.int .i64 last) := z1
      have c7 : w4.cell? ⟨bk, ok + ix2, none⟩ = some (.int .i64 R) := (HI4.out.bel.cell (p := ⟨bk, ok + ix2, none⟩) hFk).trans T7.out
      go_region_held3 (fun w' => w'.cell? ⟨w.heap.size, 0, none⟩ = some (.slice (some ⟨b9, o9, none⟩) t.costs.length c) ∧ w'.cell? ⟨w.heap.size, 1, none⟩ = some (.int .i64 t.quota) ∧ w'.cell? ⟨w.heap.size, 2, none⟩ = some (.int .i64 t.last) ∧ w'.cell? ⟨w1.heap.size, 0, none⟩ = some (.slice A5 bow.length c5) ∧ w'.cell? ⟨w1.heap.size, 1, none⟩ = some (.int .i64 last) ∧ w'.cell? ⟨bk, ok + ix2, none⟩ = some (.int .i64 R)) (first | exact ⟨y0, y1, y2, z0, z1, c7⟩ | go_keep) (first
        | (go_at_call 35; refine (KFJ.out _ HI4.out).mono ?_; rintro e w5 ⟨A7, c9, rfl, hs5, hb⟩; clear y0 y1 y2 z0 z1 c7; have HI5 := Lib.hid (HI4.out.step hb); have HS5 := Lib.hid hs5; obtain ⟨⟨y0, y1, y2⟩, z0, z1⟩ := HI5.out.cells; have c7 := (HI5.out.bel.cell (p := ⟨bk, ok + ix2, none⟩) hFk).trans T7.out; clear hb hs5)
        | (go_at_call 33; refine (KX2.out _ _ _ _ HI5.out HS5.out).mono ?_; rintro e w6 ⟨rfl, hb⟩; clear y0 y1 y2 z0 z1 c7; have hi6 := HI5.out.step hb; obtain ⟨⟨y0, y1, y2⟩, z0, z1⟩ := hi6.cells; have c7 := (hi6.bel.cell (p := ⟨bk, ok + ix2, none⟩) hFk).trans T7.out; have c8 := (hi6.bel.cell (p := ⟨bk, ok + k, none⟩) hFk).trans HTK0.out; have x0 := (hi6.bel.cell (p := ⟨b9, o9 + i, none⟩) hF9).trans T9.out; have x1 := (hi6.bel.cell (p := ⟨b6, o6 + j, none⟩) HF6.out).trans T6.out; have HI6 := Lib.hid hi6; have HI7 := Lib.hid (fun nq => hi6.step (Below.drewN_ (Below.refl _ _) nq)); clear hb hi6))
      by_cases hr1 : R = -1
      · have hr2 : (R != -1) = false := bneF hr1
        clear hlaw
        go_upto_region 8 with fail
        go_quiet (fail)
        go_wp2
        go_roundw
        case rel => exact ⟨j + 1, by omega, by go_num, Lib.hid (HI7.out _)⟩
        case measure => simp [intOf]; omega
      · have hr2 : (R != -1) = true := bneT hr1
        obtain ⟨l1, l2⟩ := hlaw hr1
        have hv2 : (v == -1) = false := beqF l1
        have hv3 : ¬ R < v - C := by omega
        go_upto_region 8 with fail
        go_quiet (fail)
        go_wp2
        go_roundw
        case rel => exact ⟨j + 1, by omega, by go_num, Lib.hid (HI7.out _)⟩
        case measure => simp [intOf]; omega
end Go.Proofs.YtjchapoggmipbaaGreatDoor

namespace Go.Proofs.YtjchapoggmipbaaGreatDoor
open Go.RowKit

/-- The task's box and the plan's. -/
structure BA (w W : World) (cv : Value) (t : Att) (ov : Value) (P : Int) (kv : Value) : Prop where
  bel : Below w.heap.size w W
  ta : Blk W w.heap.size 31 #[cv, .int .i64 t.quota, .int .i64 t.last]
  pl : Blk W (w.heap.size + 1) 54 #[ov, .int .i64 P, kv]
theorem BA.step {w W W' : World} {cv : Value} {t : Att} {ov kv : Value} {P : Int} (h : BA w W cv t ov P kv) (hb : Below W.heap.size W W') : BA w W' cv t ov P kv := ⟨h.bel.trans (hb.mono h.bel.size), h.ta.below hb h.ta.lt, h.pl.below hb h.pl.lt⟩
theorem BA.cells {w W : World} {cv : Value} {t : Att} {ov kv : Value} {P : Int} (h : BA w W cv t ov P kv) : (W.cell? ⟨w.heap.size, 0, none⟩ = some cv ∧ W.cell? ⟨w.heap.size, 1, none⟩ = some (.int .i64 t.quota) ∧ W.cell? ⟨w.heap.size, 2, none⟩ = some (.int .i64 t.last)) ∧ W.cell? ⟨w.heap.size + 1, 0, none⟩ = some ov ∧ W.cell? ⟨w.heap.size + 1, 1, none⟩ = some (.int .i64 P) ∧ W.cell? ⟨w.heap.size + 1, 2, none⟩ = some kv := ⟨blk_threeA h.ta, blk_threeA h.pl⟩
theorem BA.new (w : World) (cv : Value) (t : Att) (ov : Value) (P : Int) (kv : Value) : BA w ((w.alloc (.cells #[cv, .int .i64 t.quota, .int .i64 t.last] 31)).alloc (.cells #[ov, .int .i64 P, kv] 54)) cv t ov P kv :=
  ⟨(low_allocA w _).trans ((low_allocA _ _).mono (by simp)), (Blk.new w _ _).alloc _, by have h := Blk.new (w.alloc (.cells #[cv, .int .i64 t.quota, .int .i64 t.last] 31)) 54 #[ov, .int .i64 P, kv]; simpa using h⟩
set_option maxRecDepth 100000 in
set_option maxHeartbeats 4000000 in
theorem att_Accept (t : Att) (cv ov kv : Value) (out K : List Int) (P : Int) (w : World) (he : checkA t = 0) (h : Sl 1 elRw w (· < w.heap.size) cv t.costs) (ho : Sl 1 elInt w (· < w.heap.size) ov out) (hk : Sl 1 elInt w (· < w.heap.size) kv K) (hK : AllA t K) (hP : P = potP t (startA t)) (hcost : costS t out = (P, 0)) :
    Calls Tryz.prog 13 #[atV cv t, .agg #[ov, .int .i64 P, kv]] w fun e w' => e = .returned (.int .i64 0) ∧ Below w.heap.size w w' := by
  obtain ⟨A, c, rfl, hc, hc2⟩ := h.shape
  obtain ⟨A1, c1, rfl, hc3, hc4⟩ := ho.shape
  obtain ⟨ht, hst⟩ := checkA_ok he
  have hq : 0 ≤ t.quota := by have := ht.q1; omega
  have hN : K.length ≤ 200000 := by have := ht.cnt; have := hK.1; omega
  have hib := idxS_bd hq (start_ok ht)
  have hdi := dec_idxS hq (start_ok ht)
  rw [start_idx] at hib hdi
  obtain ⟨ix, hix⟩ : ∃ ix : Nat, t.last + 1 = (ix : Int) := ⟨(t.last + 1).toNat, by omega⟩
  have hixl : ix < K.length := by have := hK.1; omega
  have hkx : K.getD ix 0 = P := by rw [hK.2 ix hixl, ← hix, hdi, hP]
  obtain ⟨A2, c2, hk2, hc5, hc6⟩ := hk.shape
  obtain ⟨bk, ok, e2, hFk, tk⟩ := num_at (by rw [hk2] at hk; exact hk) hixl
  subst e2
  subst hk2
  rw [hkx] at tk
  have HX := Lib.hid (BA.new w (.slice A t.costs.length c) t (.slice A1 out.length c1) P (.slice (some ⟨bk, ok, none⟩) K.length c2))
  have low := fun {α : Type} {size : Nat} {R : World → (Nat → Prop) → List Value → α → Prop} {v : Value} {l : List α} W (hb : BA w W (.slice A t.costs.length c) t (.slice A1 out.length c1) P (.slice (some ⟨bk, ok, none⟩) K.length c2)) (hR : Good R) (h : Sl size R w (· < w.heap.size) v l) => (h.keep hR (Same.of_below hb.bel) fun b hb' => Nat.lt_of_lt_of_le hb' hb.bel.size : Sl size R W (· < W.heap.size) v l)
  have kc := fun W (hb : BA w W (.slice A t.costs.length c) t (.slice A1 out.length c1) P (.slice (some ⟨bk, ok, none⟩) K.length c2)) => att_Cost t (.slice A t.costs.length c) out (.slice A1 out.length c1) W (low W hb elRw_good h) (low W hb elInt_good ho)
  rw [hcost] at kc
  have kf := fun W (hb : BA w W (.slice A t.costs.length c) t (.slice A1 out.length c1) P (.slice (some ⟨bk, ok, none⟩) K.length c2)) => att_formed t (.slice A t.costs.length c) (.slice (some ⟨bk, ok, none⟩) K.length c2) K W ht hst (low W hb elRw_good h) (low W hb elInt_good hk) hK
  have kb := fun W (hb : BA w W (.slice A t.costs.length c) t (.slice A1 out.length c1) P (.slice (some ⟨bk, ok, none⟩) K.length c2)) k hkl => att_bounded t (.slice A t.costs.length c) (.slice (some ⟨bk, ok, none⟩) K.length c2) K k W ht (low W hb elRw_good h) (low W hb elInt_good hk) hK hkl
  unfold atV at kc kf kb ⊢
  have KC := Lib.hid kc
  have KF := Lib.hid kf
  have KB' := Lib.hid kb
  have TK := Lib.hid tk
  have f0 : IntKind.i64.wrap (t.last + 1) = (ix : Int) := by rw [hix]; exact IntWalk.i64_in _ (by omega)
  have gix : (ix : Int) < (K.length : Int) := by omega
  have gpp : (P != P) = false := bneF rfl
  have gnn : ¬ P < P := by omega
  clear low kc kf kb tk hcost hP hkx hib hdi hix hixl he h ho hk hK ht hst hq
  go_enter Tryz.func13, Tryz.ntmps13
  go_wp2_with (first
    | (go_at_call 12; refine (KC.out _ HX.out).mono ?_; rintro e w1 ⟨rfl, hb⟩; have HX1 := Lib.hid (HX.out.step hb); obtain ⟨⟨y0, y1, y2⟩, z0, z1, z2⟩ := HX1.out.cells; clear hb)
    | (go_at_call 37; refine (KF.out _ HX1.out).mono ?_; rintro e w2 ⟨rfl, hb⟩; clear y0 y1 y2 z0 z1 z2; have HX2 := Lib.hid (HX1.out.step hb); obtain ⟨⟨y0, y1, y2⟩, z0, z1, z2⟩ := HX2.out.cells; clear hb))
  go_loopw [33] (fun i wr => ∃ k : Nat, k ≤ K.length ∧ i = .int .i64 k ∧ Hid (BA w wr (.slice A t.costs.length c) t (.slice A1 out.length c1) P (.slice (some ⟨bk, ok, none⟩) K.length c2))) (fun i _ => K.length - (intOf i).toNat)
  case atStart => exact ⟨0, Nat.zero_le _, rfl, HX2⟩
  case round =>
    clear HX1 HX2 y0 y1 y2 z0 z1 z2
    obtain ⟨k, hk, rfl, hx⟩ := hrel
    obtain ⟨⟨y0, y1, y2⟩, z0, z1, z2⟩ := hx.out.cells
    by_cases hlt : k < K.length
    · have KBK := Lib.hid (fun W hb => KB'.out W hb k hlt)
      have gk : (k : Int) < (K.length : Int) := by omega
      go_wp2_with (go_at_call 38; refine (KBK.out _ hx.out).mono ?_; rintro e w3 ⟨rfl, hb⟩; clear y0 y1 y2 z0 z1 z2; have HX3 := Lib.hid (hx.out.step hb); clear hb)
      go_roundw
      case rel => exact ⟨k + 1, by omega, by go_num, HX3⟩
      case measure => simp [intOf]; omega
    · obtain rfl : k = K.length := by omega
      have c9 := (hx.out.bel.cell (p := ⟨bk, ok + ix, none⟩) hFk).trans TK.out
      have HXE := Lib.hid (fun nq => Below.drewN_ hx.out.bel nq)
      clear hx
      go_upto_region 14 with fail
      go_quiet (fail)
      go_wp2
      go_ret
      exact ⟨rfl, HXE.out _⟩
end Go.Proofs.YtjchapoggmipbaaGreatDoor

namespace Go.Proofs.YtjchapoggmipbaaGreatDoor
open Go.RowKit

/-- A plan. -/
def PlanA (t : Att) (W : World) (bvv kvv : Value) (P : Int) (out : List Int) : Prop :=
  checkA t = 0 ∧ P = potP t (startA t) ∧ costS t out = (P, 0) ∧ Sl 1 elInt W (· < W.heap.size) bvv out ∧ ∃ K, AllA t K ∧ Sl 1 elInt W (· < W.heap.size) kvv K
theorem att_BestL (t : Att) (cv : Value) (w : World) (h : Sl 1 elRw w (· < w.heap.size) cv t.costs) :
    Calls Tryz.prog 11 #[atV cv t] w fun e w' => ∃ A n c P A2 n2 c2 er, e = .returned (.tuple #[.agg #[.slice A n c, .int .i64 P, .slice A2 n2 c2], .int .i64 er]) ∧ Below w.heap.size w w' ∧
      ((er ≠ 0 ∧ ∀ l, (costS t l).2 ≠ 0) ∨ (er = 0 ∧ ∃ out, PlanA t w' (.slice A n c) (.slice A2 n2 c2) P out)) := by
  by_cases he : checkA t = 0
  · refine (att_Best_ok t cv w h he).mono ?_
    rintro e w' ⟨hb, (⟨hp, rfl⟩ | ⟨A, c, kb, out, K, hp, rfl, hlen, hce, hK, hs, hk, hkb⟩)⟩
    · exact ⟨none, 0, 0, 0, none, 0, 0, 13, rfl, hb, .inl ⟨by decide, fun l hl => (costS_ge hl).2.1 hp⟩⟩
    · refine ⟨A, _, c, _, _, _, _, 0, rfl, hb, .inr ⟨rfl, out, he, rfl, ?_, hs.keep elInt_good (Same.refl _ _) fun b h => h.2, K, hK, (ints_sl hk rfl ?_).keep elInt_good (Same.refl _ _) fun b hb => by rw [hb]; exact hk.lt⟩⟩
      · unfold costS
        rw [if_neg (by omega), if_neg (by omega)]; exact hce
      · have h1 := hK.1
        have h2 := (checkA_ok he).1.cnt
        omega
  · refine (att_Best_bad t cv w h he).mono ?_
    rintro e w' ⟨rfl, hb⟩
    exact ⟨none, 0, 0, 0, none, 0, 0, checkA t, rfl, hb, .inl ⟨he, fun l hl => he (costS_ge hl).1⟩⟩
end Go.Proofs.YtjchapoggmipbaaGreatDoor
