/- Several texts of this family in one: U35 U36. -/
import Derived.Test.YtglkejlimeakbaaGreatDoorGQ4
import Derived.Test.YtglkejlimeakbaaGreatDoorGQ3
set_option linter.unusedSimpArgs false
set_option linter.unusedVariables false
namespace Go.Proofs.YtglkejlimeakbaaGreatDoor
open Go.RowKit

theorem ref_read (k : Nat) (hk : k < 12) (q : Rul) (pv : Value) (x : Lin) (v : Value) (w : World) (hx : Sl 3 elFld w (· < w.heap.size) v x.fields) (hl : OkLin x) (hp : ∃ A n c, pv = .slice A n c) :
    Calls Tryz.prog 31 #[rulV q pv, .int .i64 k, .agg #[.int .i64 x.num, v]] w (RReadPost w (readR q k (Cur.start x)) pv) :=
  match k, hk with
  | 0, _ => rread_0 q pv x v w hx hl hp
  | 1, _ => rread_1 q pv x v w hx hl hp
  | 2, _ => rread_2 q pv x v w hx hl hp
  | 3, _ => rread_3 q pv x v w hx hl hp
  | 4, _ => rread_4 q pv x v w hx hl hp
  | 5, _ => rread_5 q pv x v w hx hl hp
  | 6, _ => rread_6 q pv x v w hx hl hp
  | 7, _ => rread_7 q pv x v w hx hl hp
  | 8, _ => rread_8 q pv x v w hx hl hp
  | 9, _ => rread_9 q pv x v w hx hl hp
  | 10, _ => rread_10 q pv x v w hx hl hp
  | 11, _ => rread_11 q pv x v w hx hl hp
theorem rread_ex {w w' : World} {q : Rul} {c : Cur} {A : Option Addr} {n cp : Nat} {e : Ending} (h : RReadPost w (q, c) (.slice A n cp) e w') : ∃ dl dc dk b, closeV c.close = .tuple #[.agg #[.int .i64 dl, .int .i64 dc, .int .i64 dk], .bool b] ∧ e = .returned (.tuple #[.agg #[.string (S q.name), .int .i64 q.side, .int .i64 q.inns, .int .i64 q.overs, .int .i64 q.balls, .int .i64 q.quota, .int .i64 q.wide, .int .i64 q.noball, .bool q.free, .int .i64 q.newball, .int .i64 q.follow, .int .i64 q.reviews, .int .i64 q.outside, .slice A n cp], .agg #[.int .i64 dl, .int .i64 dc, .int .i64 dk], .bool b]) ∧ Below w.heap.size w w' := h
/-- While the head is read: the rules in their box, no powerplay yet. -/
structure P1 (w2 W : World) (q : Rul) : Prop where
  bel : Below w2.heap.size w2 W
  kg : Blk W w2.heap.size 25 (rulCells q (.slice none 0 0))
theorem P1.below {w2 W W' : World} {q : Rul} (h : P1 w2 W q) (hb : Below W.heap.size W W') : P1 w2 W' q := ⟨h.bel.trans (hb.mono (Nat.le_of_lt h.kg.lt)), h.kg.below hb h.kg.lt⟩
theorem P1.start (w2 : World) : P1 w2 (w2.alloc (.cells zeroR 25)) noRul := ⟨Below.alloc (Below.refl _ _) (Nat.le_refl _) _, Blk.new w2 _ _⟩
theorem cells_atU (w : World) (n : Nat) (hn : w.heap.size = n) (cs : List Value) (e : TypeId) : ∀ j u, cs[j]? = some u → (w.alloc (.cells cs.toArray e)).cell? ((⟨n, 0, none⟩ : Addr).add j) = some u := by
  subst hn; exact cells_new w cs e (0, 0)
theorem P1.rq {w2 W : World} {q : Rul} (h : P1 w2 W q) (hp : q.power = []) : RQ w2 W q := ⟨_, h.kg, by rw [hp]; exact OwnSl.nil _, h.bel⟩
theorem chain_rul {w : World} {g : Nat} {old : Array Value} {q' : Rul} {u : Value} (h : Blk w g 25 old) (hz : old.size = 14) : ((((((((((((((w.setCell ⟨g, 0, none⟩ (.string (S q'.name))).setCell ⟨g, 1, none⟩ (.int .i64 q'.side)).setCell ⟨g, 2, none⟩ (.int .i64 q'.inns)).setCell ⟨g, 3, none⟩ (.int .i64 q'.overs)).setCell ⟨g, 4, none⟩ (.int .i64 q'.balls)).setCell ⟨g, 5, none⟩ (.int .i64 q'.quota)).setCell ⟨g, 6, none⟩ (.int .i64 q'.wide)).setCell ⟨g, 7, none⟩ (.int .i64 q'.noball)).setCell ⟨g, 8, none⟩ (.bool q'.free)).setCell ⟨g, 9, none⟩ (.int .i64 q'.newball)).setCell ⟨g, 10, none⟩ (.int .i64 q'.follow)).setCell ⟨g, 11, none⟩ (.int .i64 q'.reviews)).setCell ⟨g, 12, none⟩ (.int .i64 q'.outside)).setCell ⟨g, 13, none⟩ (u)) = w.setRow g (rulCells q' u) := by
  obtain ⟨l⟩ := old
  have hl : l.length = 14 := hz
  iterate 14 (obtain ⟨_, t, e, h2⟩ := list_cons hl; clear hl; subst e; have hl := h2; clear h2)
  have e := List.eq_nil_of_length_eq_zero hl
  subst e
  rw [row_chain h]
  exact congrArg (w.setRow g) (by kernel_rfl)
theorem rparse_ret {R' : Ending → World → Prop} {a : Act} {w : World} {q : Rul} {pv v : Value} {g : Nat} (h2 : a.tmps[2]? = some (.pointer (some ⟨g, 0, none⟩))) (h3 : a.tmps[3]? = some v) (hb : Blk w g 25 (rulCells q pv))
    (hd : a.defers = []) (hR : R' (.returned (.tuple #[rulV q pv, v])) w) : bodyPost Tryz.prog Tryz.f8 R' .ret a w := by
  obtain ⟨r0, r1, r2, r3, r4, r5, r6, r7, r8, r9, r10, r11, r12, r13⟩ := Blk.fourteen hb
  refine bodyPost_ret (v := .tuple #[rulV q pv, v]) (by simp [results, Tryz.results8, go_sem, h2, h3, r0, r1, r2, r3, r4, r5, r6, r7, r8, r9, r10, r11, r12, r13]; rfl) hd hR
/-- One diagnostic, the result made empty, whichever came first. -/
theorem rp_one {w W W' : World} {R n : Nat} {l c k : Int} {res : Rul × List Dia} {a : Act} (hr : res = (noRul, [⟨l, c, k⟩])) (hR : R = w.heap.size) (hb : Below w.heap.size w W) (hk : Blk W R 25 zeroR) (hn : W.heap.size = n)
    (hW : W' = (W.alloc (.cells #[.int .i64 l, .int .i64 c, .int .i64 k] 41)).setRow R zeroR ∨ W' = (W.setRow R zeroR).alloc (.cells #[.int .i64 l, .int .i64 c, .int .i64 k] 41))
    (h2 : a.tmps[2]? = some (.pointer (some ⟨R, 0, none⟩))) (h3 : a.tmps[3]? = some (.slice (some ⟨n, 0, none⟩) 1 1)) (hd : a.defers = []) : bodyPost Tryz.prog Tryz.f8 (RParsePost w res) .ret a W' := by
  rcases hW with rfl | rfl
  · exact rparse_ret h2 h3 ((hk.alloc _).row _) hd (one_post hr hR hb hk.lt hn)
  · exact rparse_ret h2 h3 ((hk.row _).alloc _) hd (one_post2 hr hR hb hk.lt hn)
theorem rp_oneD {w W W' : World} {R n : Nat} {l c k : Int} {res : Rul × List Dia} {a : Act} (hr : res = (noRul, [⟨l, c, k⟩])) (hR : R = w.heap.size) (hb : Below w.heap.size w W) (hk : Blk W R 25 zeroR) (hn : W.heap.size = n)
    (hW : W' = ((W.alloc (.cells #[.int .i64 l, .int .i64 c, .int .i64 k] 41)).setRow R zeroR).drew ∨ W' = ((W.setRow R zeroR).alloc (.cells #[.int .i64 l, .int .i64 c, .int .i64 k] 41)).drew)
    (h2 : a.tmps[2]? = some (.pointer (some ⟨R, 0, none⟩))) (h3 : a.tmps[3]? = some (.slice (some ⟨n, 0, none⟩) 1 1)) (hd : a.defers = []) : bodyPost Tryz.prog Tryz.f8 (RParsePost w res) .ret a W' := by
  rcases hW with rfl | rfl
  · exact rparse_ret h2 h3 (Blk.drew ((hk.alloc _).row _)) hd (one_post hr hR hb hk.lt hn).drew
  · exact rparse_ret h2 h3 (Blk.drew ((hk.row _).alloc _)) hd (one_post2 hr hR hb hk.lt hn).drew
set_option maxRecDepth 100000 in
set_option maxHeartbeats 4000000 in
theorem ref_RParse (s : ByteArray) (w : World) (hs : s.size ≤ 140737488351232) :
    Calls Tryz.prog 8 #[.string s] w (RParsePost w (parseR s.data.toList)) := by
  obtain ⟨res, hres⟩ : ∃ r, r = parseR s.data.toList := ⟨_, rfl⟩
  rw [← hres]
  unfold parseR at hres
  have hok := splitS_ok s.data.toList
  obtain ⟨w0, hw0⟩ : ∃ x, x = w.alloc (.cells (rulCells noRul (.slice none 0 0)) 25) := ⟨_, rfl⟩
  have hb0 : Below w.heap.size w w0 := by rw [hw0]; exact Below.alloc (Below.refl _ _) (Nat.le_refl _) _
  have hz0 : w0.heap.size = w.heap.size + 1 := by rw [hw0]; simp
  have hk0 : Blk w0 w.heap.size 25 zeroR := by rw [hw0]; exact Blk.new w _ _
  obtain ⟨⟨ls, ds⟩, hq⟩ : ∃ x, x = splitS s.data.toList := ⟨_, rfl⟩
  have hsp0 := ref_Split s w0 hs
  have hsp : Calls Tryz.prog 29 #[.string s] w0 fun e w2 => ∃ v d, e = .returned (.tuple #[v, d]) ∧ Sl 2 elLin w2 (fun b => w.heap.size < b ∧ b < w2.heap.size) v ls ∧ Sl 3 elDia w2 (fun b => w.heap.size < b ∧ b < w2.heap.size) d ds ∧ Below w.heap.size w w2 ∧ Blk w2 w.heap.size 25 zeroR := by
    refine hsp0.mono ?_
    rintro e w2 ⟨v, d, rfl, hv, hd, hb2⟩
    rw [← hq] at hv hd
    exact ⟨v, d, rfl, hv.keep elLin_good (Same.refl _ _) (fun b hb => ⟨by have := hb.1; omega, hb.2⟩), hd.keep elDia_good (Same.refl _ _) (fun b hb => ⟨by have := hb.1; omega, hb.2⟩), hb0.trans (hb2.mono (by omega)), hk0.below hb2 (by omega)⟩
  rw [← hq] at hres hok
  rw [hw0] at hsp
  simp only at hres hok
  unfold rulCells noRul at hsp
  dsimp only at hsp
  have HSP := Lib.hid hsp
  have HOK := Lib.hid hok
  have hqq := Lib.hid hq
  clear hsp0 hsp hok hq hk0 hb0 hz0 hw0
  clear w0
  by_cases hds : ds = []
  · rw [if_neg (by simpa using hds)] at hres
    subst hds
    have hln := lastNum_ok (s := s.data.toList)
    rw [show (splitS s.data.toList).1 = ls from by rw [← hqq.out]] at hln
    have HLN := Lib.hid (show 0 ≤ lastNum ls ∧ lastNum ls ≤ 140737488351233 from ⟨hln.1, by have := hln.2; have e : s.data.toList.length = s.size := rfl; omega⟩)
    clear hln
    have HR := Lib.hid hres
    have hlen0 : (([] : List Dia).length : Int) = 0 := rfl
    clear hres
    go_enter Tryz.func8, Tryz.ntmps8
    have tok0 : True := trivial
    go_wp2_with (first
      | (clear tok0; go_at_call 29; refine HSP.out.mono ?_; rintro e w2 ⟨v, d, rfl, hv, hd, hb2, hk2⟩; obtain ⟨Av, cv, rfl, hcv, hcv'⟩ := hv.shape; obtain ⟨Ad, cd, rfl, hcd, hcd'⟩ := hd.shape; have hlt := hk2.lt; have HB2 := Lib.hid hb2; have HK2 := Lib.hid hk2; have HV := Lib.hid hv; clear hb2 hk2 hv hd; have tok1 : True := trivial)
      | (clear tok1; go_at_call 30; refine (ref_words _).mono ?_; rintro e w3 ⟨c3, rfl, _, hb3⟩; have HP1 := Lib.hid ((P1.start w2).below hb3); clear hb3; have tok2 : True := trivial))
    go_loopw [31] (fun i wr => ∃ (k : Nat) (q : Rul), k ≤ 12 ∧ k ≤ ls.length ∧ i = .int .i64 k ∧ P1 w2 wr q ∧ q.power = [] ∧ q.name.length ≤ 1000 ∧ Hid (linesR (ls.drop k) k q = linesR ls 0 noRul))
      (fun i _ => 12 - (intOf i).toNat)
    case atStart => exact ⟨0, noRul, by omega, Nat.zero_le _, rfl, HP1.out, rfl, by simp [noRul], rfl⟩
    case round =>
      obtain ⟨k, q, hk12, hkl, rfl, hp1, hqp, hqm, hlf⟩ := hrel
      have HP := Lib.hid hp1
      have hzr := hp1.kg.lt
      have HQP := Lib.hid hqp
      clear hp1 hqp
      by_cases hlt12 : k < 12
      · by_cases hlt2 : k < ls.length
        · obtain ⟨b, o, cs, rfl, hF, hcl, hcc, hel⟩ := HV.out.at hlt2
          have hox := HOK.out.1 _ (List.getElem_mem hlt2)
          have hlk := hlf.out
          rw [drop_get hlt2] at hlk
          obtain ⟨⟨xn, fs⟩, hx⟩ : ∃ x, x = ls[k] := ⟨_, rfl⟩
          rw [← hx] at hel hlk hox
          obtain ⟨fv, rfl, hfl⟩ := hel
          dsimp only at hfl hcc
          obtain ⟨A2, c2, rfl, hf1, hf2⟩ := hfl.shape
          have x0 : wr.cell? ⟨b, o + k * 2, none⟩ = some (.int .i64 xn) := (HP.out.bel.cell (p := ⟨b, o + k * 2, none⟩) hF.2).trans (hcc 0 _ rfl)
          have x1 : wr.cell? ⟨b, o + k * 2 + 1, none⟩ = some (.slice A2 fs.length c2) := (HP.out.bel.cell (p := ⟨b, o + k * 2 + 1, none⟩) hF.2).trans (hcc 1 _ rfl)
          obtain ⟨⟨q', c'⟩, hst⟩ : ∃ r, r = readR q k (Cur.start ⟨xn, fs⟩) := ⟨_, rfl⟩
          have hsm := readR_small q k ⟨xn, fs⟩ hox hqm
          rw [← hst] at hsm
          have kr : ∀ W, Below wr.heap.size wr W → Calls Tryz.prog 31 #[rulV q (.slice none 0 0), .int .i64 k, .agg #[.int .i64 xn, .slice A2 fs.length c2]] W fun e W' => ∃ dl dc dk b, closeV c'.close = .tuple #[.agg #[.int .i64 dl, .int .i64 dc, .int .i64 dk], .bool b] ∧ e = .returned (.tuple #[.agg #[.string (S q'.name), .int .i64 q'.side, .int .i64 q'.inns, .int .i64 q'.overs, .int .i64 q'.balls, .int .i64 q'.quota, .int .i64 q'.wide, .int .i64 q'.noball, .bool q'.free, .int .i64 q'.newball, .int .i64 q'.follow, .int .i64 q'.reviews, .int .i64 q'.outside, .slice none 0 0], .agg #[.int .i64 dl, .int .i64 dc, .int .i64 dk], .bool b]) ∧ Below W.heap.size W W' := fun W hW => by
            refine (ref_read k hlt12 q (.slice none 0 0) ⟨xn, fs⟩ _ W (hfl.keep elFld_good (Same.below (HP.out.bel.trans (hW.mono (Nat.le_of_lt hzr))) fun b hb => hb.2) fun b hb => by have h1 := hb.2; have h2 := hW.size; have h3 := HP.out.bel.size; omega) hox ⟨_, _, _, rfl⟩).mono ?_
            rw [← hst]
            exact fun e w' h => rread_ex h
          unfold rulV rulCells at kr
          have KR := Lib.hid kr
          have HSM := Lib.hid hsm
          have hbw : b < wr.heap.size := Nat.lt_of_lt_of_le hF.2 HP.out.bel.size
          have hpw := readR_head hlt12 q (Cur.start ⟨xn, fs⟩)
          rw [← hst] at hpw
          have HPW := Lib.hid (hpw.trans HQP.out)
          have HRR := HR
          cases hcl : c'.close with
          | none =>
            rw [linesR_ok (by rw [← hst]; exact hcl), ← hst] at hlk
            have HLK := Lib.hid hlk
            have HCL := Lib.hid (show closeV c'.close = .tuple #[.agg #[.int .i64 0, .int .i64 0, .int .i64 0], .bool false] by rw [hcl]; rfl)
            clear hsm kr hfl hcc hx hox hcl hF hlf HR hlk hst hpw
            have hcall : ∀ W, Below wr.heap.size wr W → Calls Tryz.prog 31 #[.agg #[.string (S q.name), .int .i64 q.side, .int .i64 q.inns, .int .i64 q.overs, .int .i64 q.balls, .int .i64 q.quota, .int .i64 q.wide, .int .i64 q.noball, .bool q.free, .int .i64 q.newball, .int .i64 q.follow, .int .i64 q.reviews, .int .i64 q.outside, .slice none 0 0], .int .i64 (k : Int), .agg #[.int .i64 xn, .slice A2 fs.length c2]] W fun e W' => e = .returned (.tuple #[.agg #[.string (S q'.name), .int .i64 q'.side, .int .i64 q'.inns, .int .i64 q'.overs, .int .i64 q'.balls, .int .i64 q'.quota, .int .i64 q'.wide, .int .i64 q'.noball, .bool q'.free, .int .i64 q'.newball, .int .i64 q'.follow, .int .i64 q'.reviews, .int .i64 q'.outside, .slice none 0 0], .agg #[.int .i64 0, .int .i64 0, .int .i64 0], .bool false]) ∧ Below W.heap.size W W' := fun W hW => by
              refine (KR.out W hW).mono ?_
              rintro e W' ⟨a1, a2, a3, a4, h1, h2, h3⟩
              have hx := congrArg (fun v => match v with | .tuple a => Ending.returned (.tuple #[.agg #[.string (S q'.name), .int .i64 q'.side, .int .i64 q'.inns, .int .i64 q'.overs, .int .i64 q'.balls, .int .i64 q'.quota, .int .i64 q'.wide, .int .i64 q'.noball, .bool q'.free, .int .i64 q'.newball, .int .i64 q'.follow, .int .i64 q'.reviews, .int .i64 q'.outside, .slice none 0 0], a.getD 0 undef, a.getD 1 undef]) | v => .returned v) h1
              rw [HCL.out] at hx
              exact ⟨h2.trans hx.symm, h3⟩
            have HCALL := Lib.hid hcall
            clear hcall
            go_wp2
            refine q13_region q q' k b o ls.length cv xn (.slice A2 fs.length c2) (0) (0) (0) false w2.heap.size _ wr (by kernel_rfl) rfl rfl rfl rfl HP.out.kg hbw x0 x1 hlt2 (by omega) HCALL.out ?_
            intro b9 b10 wx hbx h9 h10 hk9 hk10
            simp only [q13Mask, updM]
            have hkg := HP.out.kg.below hbx hzr
            have HKG := Lib.hid hkg
            have HBX := Lib.hid hbx
            obtain ⟨y0, y1, y2, y3, y4, y5, y6, y7, y8, y9, y10, y11, y12, y13⟩ := Blk.fourteen (show Blk _ _ _ #[.string (S q.name), .int .i64 q.side, .int .i64 q.inns, .int .i64 q.overs, .int .i64 q.balls, .int .i64 q.quota, .int .i64 q.wide, .int .i64 q.noball, .bool q.free, .int .i64 q.newball, .int .i64 q.follow, .int .i64 q.reviews, .int .i64 q.outside, .slice none 0 0] from hkg)
            have f0 := Blk.frozen (show Blk _ _ _ #[.string (S q.name), .int .i64 q.side, .int .i64 q.inns, .int .i64 q.overs, .int .i64 q.balls, .int .i64 q.quota, .int .i64 q.wide, .int .i64 q.noball, .bool q.free, .int .i64 q.newball, .int .i64 q.follow, .int .i64 q.reviews, .int .i64 q.outside, .slice none 0 0] from hkg) 0
            have f1 := Blk.frozen (show Blk _ _ _ #[.string (S q.name), .int .i64 q.side, .int .i64 q.inns, .int .i64 q.overs, .int .i64 q.balls, .int .i64 q.quota, .int .i64 q.wide, .int .i64 q.noball, .bool q.free, .int .i64 q.newball, .int .i64 q.follow, .int .i64 q.reviews, .int .i64 q.outside, .slice none 0 0] from hkg) 1
            have f2 := Blk.frozen (show Blk _ _ _ #[.string (S q.name), .int .i64 q.side, .int .i64 q.inns, .int .i64 q.overs, .int .i64 q.balls, .int .i64 q.quota, .int .i64 q.wide, .int .i64 q.noball, .bool q.free, .int .i64 q.newball, .int .i64 q.follow, .int .i64 q.reviews, .int .i64 q.outside, .slice none 0 0] from hkg) 2
            have f3 := Blk.frozen (show Blk _ _ _ #[.string (S q.name), .int .i64 q.side, .int .i64 q.inns, .int .i64 q.overs, .int .i64 q.balls, .int .i64 q.quota, .int .i64 q.wide, .int .i64 q.noball, .bool q.free, .int .i64 q.newball, .int .i64 q.follow, .int .i64 q.reviews, .int .i64 q.outside, .slice none 0 0] from hkg) 3
            have f4 := Blk.frozen (show Blk _ _ _ #[.string (S q.name), .int .i64 q.side, .int .i64 q.inns, .int .i64 q.overs, .int .i64 q.balls, .int .i64 q.quota, .int .i64 q.wide, .int .i64 q.noball, .bool q.free, .int .i64 q.newball, .int .i64 q.follow, .int .i64 q.reviews, .int .i64 q.outside, .slice none 0 0] from hkg) 4
            have f5 := Blk.frozen (show Blk _ _ _ #[.string (S q.name), .int .i64 q.side, .int .i64 q.inns, .int .i64 q.overs, .int .i64 q.balls, .int .i64 q.quota, .int .i64 q.wide, .int .i64 q.noball, .bool q.free, .int .i64 q.newball, .int .i64 q.follow, .int .i64 q.reviews, .int .i64 q.outside, .slice none 0 0] from hkg) 5
            have f6 := Blk.frozen (show Blk _ _ _ #[.string (S q.name), .int .i64 q.side, .int .i64 q.inns, .int .i64 q.overs, .int .i64 q.balls, .int .i64 q.quota, .int .i64 q.wide, .int .i64 q.noball, .bool q.free, .int .i64 q.newball, .int .i64 q.follow, .int .i64 q.reviews, .int .i64 q.outside, .slice none 0 0] from hkg) 6
            have f7 := Blk.frozen (show Blk _ _ _ #[.string (S q.name), .int .i64 q.side, .int .i64 q.inns, .int .i64 q.overs, .int .i64 q.balls, .int .i64 q.quota, .int .i64 q.wide, .int .i64 q.noball, .bool q.free, .int .i64 q.newball, .int .i64 q.follow, .int .i64 q.reviews, .int .i64 q.outside, .slice none 0 0] from hkg) 7
            have f8 := Blk.frozen (show Blk _ _ _ #[.string (S q.name), .int .i64 q.side, .int .i64 q.inns, .int .i64 q.overs, .int .i64 q.balls, .int .i64 q.quota, .int .i64 q.wide, .int .i64 q.noball, .bool q.free, .int .i64 q.newball, .int .i64 q.follow, .int .i64 q.reviews, .int .i64 q.outside, .slice none 0 0] from hkg) 8
            have f9 := Blk.frozen (show Blk _ _ _ #[.string (S q.name), .int .i64 q.side, .int .i64 q.inns, .int .i64 q.overs, .int .i64 q.balls, .int .i64 q.quota, .int .i64 q.wide, .int .i64 q.noball, .bool q.free, .int .i64 q.newball, .int .i64 q.follow, .int .i64 q.reviews, .int .i64 q.outside, .slice none 0 0] from hkg) 9
            have f10 := Blk.frozen (show Blk _ _ _ #[.string (S q.name), .int .i64 q.side, .int .i64 q.inns, .int .i64 q.overs, .int .i64 q.balls, .int .i64 q.quota, .int .i64 q.wide, .int .i64 q.noball, .bool q.free, .int .i64 q.newball, .int .i64 q.follow, .int .i64 q.reviews, .int .i64 q.outside, .slice none 0 0] from hkg) 10
            have f11 := Blk.frozen (show Blk _ _ _ #[.string (S q.name), .int .i64 q.side, .int .i64 q.inns, .int .i64 q.overs, .int .i64 q.balls, .int .i64 q.quota, .int .i64 q.wide, .int .i64 q.noball, .bool q.free, .int .i64 q.newball, .int .i64 q.follow, .int .i64 q.reviews, .int .i64 q.outside, .slice none 0 0] from hkg) 11
            have f12 := Blk.frozen (show Blk _ _ _ #[.string (S q.name), .int .i64 q.side, .int .i64 q.inns, .int .i64 q.overs, .int .i64 q.balls, .int .i64 q.quota, .int .i64 q.wide, .int .i64 q.noball, .bool q.free, .int .i64 q.newball, .int .i64 q.follow, .int .i64 q.reviews, .int .i64 q.outside, .slice none 0 0] from hkg) 12
            have f13 := Blk.frozen (show Blk _ _ _ #[.string (S q.name), .int .i64 q.side, .int .i64 q.inns, .int .i64 q.overs, .int .i64 q.balls, .int .i64 q.quota, .int .i64 q.wide, .int .i64 q.noball, .bool q.free, .int .i64 q.newball, .int .i64 q.follow, .int .i64 q.reviews, .int .i64 q.outside, .slice none 0 0] from hkg) 13
            obtain ⟨x0, x1, x2, x3, x4, x5, x6, x7, x8, x9, x10, x11, x12, x13⟩ := Blk.fourteen (show Blk _ _ _ #[.string (S q'.name), .int .i64 q'.side, .int .i64 q'.inns, .int .i64 q'.overs, .int .i64 q'.balls, .int .i64 q'.quota, .int .i64 q'.wide, .int .i64 q'.noball, .bool q'.free, .int .i64 q'.newball, .int .i64 q'.follow, .int .i64 q'.reviews, .int .i64 q'.outside, .slice none 0 0] from hk9)
            clear hkg hk9 hk10 hbx
            have tok0 : True := trivial
            go_wp2
            rw [chain_rul (q' := q') (u := .slice none 0 0) HKG.out rfl]
            go_roundw
            case rel => exact ⟨k + 1, q', by omega, by omega, by go_num, ⟨(HP.out.bel.trans (HBX.out.mono (Nat.le_of_lt hzr))).trans ((Only.row w2.heap.size wx _).below (Nat.le_refl _) (by have := HKG.out.lt; omega)), HKG.out.row _⟩, HPW.out, HSM.out.2, by unfold Hid; exact HLK.out⟩
            case measure => simp [intOf]; omega
          | some d =>
            rw [linesR_bad (by rw [← hst]; exact hcl)] at hlk
            have hr2 : res = (noRul, [d]) := by rw [HRR.out, ← hlk]
            obtain ⟨dl, dc, dk⟩ := d
            have HR2 := Lib.hid hr2
            have HCL := Lib.hid (show closeV c'.close = .tuple #[.agg #[.int .i64 dl, .int .i64 dc, .int .i64 dk], .bool true] by rw [hcl]; rfl)
            clear hsm kr hfl hcc hx hox hcl hF hlf HR hlk hst hr2 hpw
            have hcall : ∀ W, Below wr.heap.size wr W → Calls Tryz.prog 31 #[.agg #[.string (S q.name), .int .i64 q.side, .int .i64 q.inns, .int .i64 q.overs, .int .i64 q.balls, .int .i64 q.quota, .int .i64 q.wide, .int .i64 q.noball, .bool q.free, .int .i64 q.newball, .int .i64 q.follow, .int .i64 q.reviews, .int .i64 q.outside, .slice none 0 0], .int .i64 (k : Int), .agg #[.int .i64 xn, .slice A2 fs.length c2]] W fun e W' => e = .returned (.tuple #[.agg #[.string (S q'.name), .int .i64 q'.side, .int .i64 q'.inns, .int .i64 q'.overs, .int .i64 q'.balls, .int .i64 q'.quota, .int .i64 q'.wide, .int .i64 q'.noball, .bool q'.free, .int .i64 q'.newball, .int .i64 q'.follow, .int .i64 q'.reviews, .int .i64 q'.outside, .slice none 0 0], .agg #[.int .i64 dl, .int .i64 dc, .int .i64 dk], .bool true]) ∧ Below W.heap.size W W' := fun W hW => by
              refine (KR.out W hW).mono ?_
              rintro e W' ⟨a1, a2, a3, a4, h1, h2, h3⟩
              have hx := congrArg (fun v => match v with | .tuple a => Ending.returned (.tuple #[.agg #[.string (S q'.name), .int .i64 q'.side, .int .i64 q'.inns, .int .i64 q'.overs, .int .i64 q'.balls, .int .i64 q'.quota, .int .i64 q'.wide, .int .i64 q'.noball, .bool q'.free, .int .i64 q'.newball, .int .i64 q'.follow, .int .i64 q'.reviews, .int .i64 q'.outside, .slice none 0 0], a.getD 0 undef, a.getD 1 undef]) | v => .returned v) h1
              rw [HCL.out] at hx
              exact ⟨h2.trans hx.symm, h3⟩
            have HCALL := Lib.hid hcall
            clear hcall
            go_wp2
            refine q13_region q q' k b o ls.length cv xn (.slice A2 fs.length c2) (dl) (dc) (dk) true w2.heap.size _ wr (by kernel_rfl) rfl rfl rfl rfl HP.out.kg hbw x0 x1 hlt2 (by omega) HCALL.out ?_
            intro b9 b10 wx hbx h9 h10 hk9 hk10
            simp only [q13Mask, updM]
            have hbw2 := HB2.out.trans ((HP.out.bel.trans (hbx.mono (Nat.le_of_lt hzr))).mono (Nat.le_of_lt hlt))
            have hkr := (HK2.out.below HP.out.bel hlt).below hbx (by omega)
            have hltr := hkr.lt
            have HKR := Lib.hid hkr
            have HBW := Lib.hid hbw2
            obtain ⟨r0, r1, r2, r3, r4, r5, r6, r7, r8, r9, r10, r11, r12, r13⟩ := Blk.fourteen (show Blk _ _ _ #[.string ⟨#[]⟩, .int .i64 0, .int .i64 0, .int .i64 0, .int .i64 0, .int .i64 0, .int .i64 0, .int .i64 0, .bool false, .int .i64 0, .int .i64 0, .int .i64 0, .int .i64 0, .slice none 0 0] from hkr)
            have f0 := Blk.frozen (show Blk _ _ _ zeroR from hkr) 0
            have f1 := Blk.frozen (show Blk _ _ _ zeroR from hkr) 1
            have f2 := Blk.frozen (show Blk _ _ _ zeroR from hkr) 2
            have f3 := Blk.frozen (show Blk _ _ _ zeroR from hkr) 3
            have f4 := Blk.frozen (show Blk _ _ _ zeroR from hkr) 4
            have f5 := Blk.frozen (show Blk _ _ _ zeroR from hkr) 5
            have f6 := Blk.frozen (show Blk _ _ _ zeroR from hkr) 6
            have f7 := Blk.frozen (show Blk _ _ _ zeroR from hkr) 7
            have f8 := Blk.frozen (show Blk _ _ _ zeroR from hkr) 8
            have f9 := Blk.frozen (show Blk _ _ _ zeroR from hkr) 9
            have f10 := Blk.frozen (show Blk _ _ _ zeroR from hkr) 10
            have f11 := Blk.frozen (show Blk _ _ _ zeroR from hkr) 11
            have f12 := Blk.frozen (show Blk _ _ _ zeroR from hkr) 12
            have f13 := Blk.frozen (show Blk _ _ _ zeroR from hkr) 13
            obtain ⟨d0, d1, d2, _, _, _⟩ := hk10.three
            clear hkr hbw2 hk9 hk10 hbx
            have hzx : w.heap.size < wx.heap.size := hltr
            go_wp2
            go_region
            all_goals go_wp2
            all_goals first
              | (rw [zero_chain HKR.out]; exact rp_oneD HR2.out rfl HBW.out HKR.out rfl (.inr rfl) rfl rfl rfl)
              | (rw [zero_chain (HKR.out.alloc _)]; exact rp_oneD HR2.out rfl HBW.out HKR.out rfl (.inl rfl) rfl rfl rfl)
        · have hke : k = ls.length := by omega
          have hle := lastK_end ls
          rw [← hke] at hle
          have ho := hlf.out
          rw [List.drop_eq_nil_of_le (by omega), linesR] at ho
          have hr := HR.out
          rw [← ho] at hr
          dsimp only at hr
          rw [if_pos (by omega), ← hle] at hr
          have hln2 : 0 ≤ lastK ls k ∧ lastK ls k ≤ 140737488351233 := by
            have := HLN.out
            rw [hle]; omega
          have hkr := HK2.out.below HP.out.bel hlt
          have HKR := Lib.hid hkr
          have HBW := Lib.hid (HB2.out.trans (HP.out.bel.mono (Nat.le_of_lt hlt)))
          have hltr := hkr.lt
          have g1 : (ls.length : Int) ≤ (k : Int) := by omega
          obtain ⟨r0, r1, r2, r3, r4, r5, r6, r7, r8, r9, r10, r11, r12, r13⟩ := Blk.fourteen (show Blk _ _ _ #[.string ⟨#[]⟩, .int .i64 0, .int .i64 0, .int .i64 0, .int .i64 0, .int .i64 0, .int .i64 0, .int .i64 0, .bool false, .int .i64 0, .int .i64 0, .int .i64 0, .int .i64 0, .slice none 0 0] from hkr)
          have f0 := Blk.frozen (show Blk _ _ _ zeroR from hkr) 0
          have f1 := Blk.frozen (show Blk _ _ _ zeroR from hkr) 1
          have f2 := Blk.frozen (show Blk _ _ _ zeroR from hkr) 2
          have f3 := Blk.frozen (show Blk _ _ _ zeroR from hkr) 3
          have f4 := Blk.frozen (show Blk _ _ _ zeroR from hkr) 4
          have f5 := Blk.frozen (show Blk _ _ _ zeroR from hkr) 5
          have f6 := Blk.frozen (show Blk _ _ _ zeroR from hkr) 6
          have f7 := Blk.frozen (show Blk _ _ _ zeroR from hkr) 7
          have f8 := Blk.frozen (show Blk _ _ _ zeroR from hkr) 8
          have f9 := Blk.frozen (show Blk _ _ _ zeroR from hkr) 9
          have f10 := Blk.frozen (show Blk _ _ _ zeroR from hkr) 10
          have f11 := Blk.frozen (show Blk _ _ _ zeroR from hkr) 11
          have f12 := Blk.frozen (show Blk _ _ _ zeroR from hkr) 12
          have f13 := Blk.frozen (show Blk _ _ _ zeroR from hkr) 13
          by_cases hk0 : k = 0
          · have g2 : ¬ (0 : Int) < (k : Int) := by omega
            have hr2 : res = (noRul, [⟨1, 1, 4⟩]) := by rw [hr, hk0]; rfl
            have HRR := Lib.hid hr2
            clear hr hr2 hle ho hlf hln2 hk0 hke hkr
            go_wp2
            first
              | (rw [zero_chain HKR.out]; exact rp_one HRR.out rfl HBW.out HKR.out rfl (.inr rfl) rfl rfl rfl)
              | (rw [zero_chain (HKR.out.alloc _)]; exact rp_one HRR.out rfl HBW.out HKR.out rfl (.inl rfl) rfl rfl rfl)
          · have g2 : (0 : Int) < (k : Int) := by omega
            obtain ⟨b, o, cs, rfl, hF, hcl, hcc, hel⟩ := HV.out.at (k := k - 1) (by omega)
            have hla : lastK ls k = (ls[k - 1]'(by omega)).num := by
              have := lastK_at (ls := ls) (k := k - 1) (by omega)
              rw [show k - 1 + 1 = k by omega] at this
              exact this
            obtain ⟨fv, rfl, _⟩ := hel
            have x0 : wr.cell? ⟨b, o + (k - 1) * 2, none⟩ = some (.int .i64 (lastK ls k)) := by
              rw [hla]
              exact (HP.out.bel.cell (p := ⟨b, o + (k - 1) * 2, none⟩) hF.2).trans (hcc 0 _ rfl)
            obtain ⟨la, hlae⟩ : ∃ x, x = lastK ls k := ⟨_, rfl⟩
            rw [← hlae] at x0 hr hln2
            obtain ⟨hl0, hl1⟩ := hln2
            have hwk : IntKind.i64.wrap ((k : Int) - 1) = ((k - 1 : Nat) : Int) := by rw [show ((k - 1 : Nat) : Int) = (k : Int) - 1 by omega]; exact IntWalk.i64_in _ (by omega)
            have g3 : ((k - 1 : Nat) : Int) < (ls.length : Int) := by omega
            have g4 : k - 1 < ls.length := by omega
            have hws : IntKind.i64.wrap (la + 1) = la + 1 := IntWalk.i64_in _ (by omega)
            have hbw : b < wr.heap.size := Nat.lt_of_lt_of_le hF.2 HP.out.bel.size
            have HRR := Lib.hid hr
            clear hr hle ho hlf hke hkr hla hlae hcc hcl hF hk0
            go_wp2
            first
              | (rw [zero_chain HKR.out]; exact rp_one HRR.out rfl HBW.out HKR.out rfl (.inr rfl) rfl rfl rfl)
              | (rw [zero_chain (HKR.out.alloc _)]; exact rp_one HRR.out rfl HBW.out HKR.out rfl (.inl rfl) rfl rfl rfl)
      · have hk12e : k = 12 := by omega
        obtain ⟨b, o, hAv⟩ : ∃ b o, Av = some ⟨b, o, none⟩ := by
          obtain ⟨b, o, _, h, _⟩ := HV.out.at (k := 0) (by omega)
          exact ⟨b, o, h⟩
        subst hAv
        have hqe := hlf.out
        rw [hk12e] at hqe
        have HLF := Lib.hid hqe
        have HRQ := Lib.hid (HP.out.rq HQP.out)
        have HQN := Lib.hid (show q.power.length ≤ 0 by rw [HQP.out]; exact Nat.le_refl _)
        have g1 : (12 : Int) ≤ (ls.length : Int) := by omega
        have g2 : 12 ≤ ls.length := by omega
        have g3 : 12 ≤ cv := by omega
        have g4 : (12 : Int) ≤ (cv : Int) := by omega
        obtain ⟨N, hN⟩ : ∃ N, N = ls.length - 12 := ⟨_, rfl⟩
        have HVR := Lib.hid (HV.out.restL (k := 12) g2)
        have g5 : ¬ (k : Int) < 12 := by omega
        clear hlf hqe hk12e HP HQP
        have tok0 : True := trivial
        go_wp2_with ((clear tok0; go_at_call 30; refine (ref_words _).mono ?_; rintro e w3 ⟨c3, rfl, _, hb3⟩; have HRQ3 := Lib.hid (HRQ.out.below hb3); clear hb3; have tok1 : True := trivial))
        · have hv3 := HVR.out
          rw [if_pos (show cv = 12 by omega)] at hv3
          have HV3 := Lib.hid hv3
          clear hv3 HVR
          go_loopw [73] (fun i wr => ∃ (k2 : Nat) (q2 : Rul), k2 ≤ ls.length - 12 ∧ i = .int .i64 k2 ∧ Hid (RQ w2 wr q2) ∧ Hid (q2.power.length ≤ k2) ∧ Hid (q2.name.length ≤ 1000) ∧ Hid (linesR (ls.drop (k2 + 12)) (k2 + 12) q2 = linesR ls 0 noRul)) (fun i _ => ls.length - 12 - (intOf i).toNat)
          case atStart => exact ⟨0, q, Nat.zero_le _, rfl, HRQ3, HQN, Lib.hid hqm, HLF⟩
          case round =>
            clear HRQ3 HQN HLF HRQ
            obtain ⟨k2, q2, hk2, rfl, HQ2, HQN2, HQM2, HLF2⟩ := hrel
            have hzw := HQ2.out.lt
            have hll := HOK.out.2.1
            by_cases hlt3 : k2 < ls.length - 12
            · exact absurd hlt3 (by omega)
            · have hke : k2 = ls.length - 12 := by omega
              have ho := HLF2.out
              rw [List.drop_eq_nil_of_le (by omega), linesR] at ho
              have hr := HR.out
              rw [← ho] at hr
              dsimp only at hr
              rw [if_neg (by omega)] at hr
              have hqm2 := HQM2.out
              have hkr := HK2.out.below HQ2.out.bel hlt
              have hltr := hkr.lt
              have HKR := Lib.hid hkr
              have hlt3i : ¬ (k2 : Int) < ((ls.length - 12 : Nat) : Int) := by omega
              obtain ⟨pv, hkq, howq, hbq⟩ := HQ2.out
              obtain ⟨Ap, cp, rfl, _, _⟩ := (howq.sl elPha_good).shape
              have hltq := hkq.lt
              have hck := ref_RCheck q2 _ wr ((howq.sl elPha_good).keep elPha_good (Same.refl _ _) fun b hb => hb.2) (by omega)
              obtain ⟨e, he⟩ : ∃ e, e = checkR q2 := ⟨_, rfl⟩
              rw [← he] at hck hr
              unfold rulV rulCells at hck
              have HCK := Lib.hid hck
              have HKQ := Lib.hid hkq
              have HOW := Lib.hid howq
              have HBW := Lib.hid (HB2.out.trans (hbq.mono (Nat.le_of_lt hlt)))
              obtain ⟨yr0, yr1, yr2, yr3, yr4, yr5, yr6, yr7, yr8, yr9, yr10, yr11, yr12, yr13⟩ := Blk.fourteen (show Blk _ _ _ #[.string (S q2.name), .int .i64 q2.side, .int .i64 q2.inns, .int .i64 q2.overs, .int .i64 q2.balls, .int .i64 q2.quota, .int .i64 q2.wide, .int .i64 q2.noball, .bool q2.free, .int .i64 q2.newball, .int .i64 q2.follow, .int .i64 q2.reviews, .int .i64 q2.outside, .slice Ap q2.power.length cp] from hkq)
              clear hck hkq howq hbq he HQ2 hkr ho HLF2
              by_cases hz : e = 0
              · rw [if_neg (by simp [hz])] at hr
                subst hz
                have HRR := Lib.hid hr
                clear hr
                go_wp2_with (go_at_call 36; refine HCK.out.mono ?_; rintro x w9 ⟨rfl, hb9⟩; clear yr0 yr1 yr2 yr3 yr4 yr5 yr6 yr7 yr8 yr9 yr10 yr11 yr12 yr13; have hkq9 := HKQ.out.below hb9 hltq; have hk9 := HKR.out.below hb9 hltr; obtain ⟨yr0, yr1, yr2, yr3, yr4, yr5, yr6, yr7, yr8, yr9, yr10, yr11, yr12, yr13⟩ := Blk.fourteen (show Blk _ _ _ #[.string (S q2.name), .int .i64 q2.side, .int .i64 q2.inns, .int .i64 q2.overs, .int .i64 q2.balls, .int .i64 q2.quota, .int .i64 q2.wide, .int .i64 q2.noball, .bool q2.free, .int .i64 q2.newball, .int .i64 q2.follow, .int .i64 q2.reviews, .int .i64 q2.outside, .slice Ap q2.power.length cp] from hkq9); obtain ⟨r0, r1, r2, r3, r4, r5, r6, r7, r8, r9, r10, r11, r12, r13⟩ := Blk.fourteen (show Blk _ _ _ #[.string ⟨#[]⟩, .int .i64 0, .int .i64 0, .int .i64 0, .int .i64 0, .int .i64 0, .int .i64 0, .int .i64 0, .bool false, .int .i64 0, .int .i64 0, .int .i64 0, .int .i64 0, .slice none 0 0] from hk9); have f0 := Blk.frozen (show Blk _ _ _ zeroR from hk9) 0; have f1 := Blk.frozen (show Blk _ _ _ zeroR from hk9) 1; have f2 := Blk.frozen (show Blk _ _ _ zeroR from hk9) 2; have f3 := Blk.frozen (show Blk _ _ _ zeroR from hk9) 3; have f4 := Blk.frozen (show Blk _ _ _ zeroR from hk9) 4; have f5 := Blk.frozen (show Blk _ _ _ zeroR from hk9) 5; have f6 := Blk.frozen (show Blk _ _ _ zeroR from hk9) 6; have f7 := Blk.frozen (show Blk _ _ _ zeroR from hk9) 7; have f8 := Blk.frozen (show Blk _ _ _ zeroR from hk9) 8; have f9 := Blk.frozen (show Blk _ _ _ zeroR from hk9) 9; have f10 := Blk.frozen (show Blk _ _ _ zeroR from hk9) 10; have f11 := Blk.frozen (show Blk _ _ _ zeroR from hk9) 11; have f12 := Blk.frozen (show Blk _ _ _ zeroR from hk9) 12; have f13 := Blk.frozen (show Blk _ _ _ zeroR from hk9) 13; have hz9 := hk9.lt; have HK9 := Lib.hid hk9; have HB9 := Lib.hid hb9; clear hb9 hk9 hkq9)
                rw [zero_chain HK9.out, HRR.out]
                have hs9 := (HOW.out.below elPha_good HB9.out).sl elPha_good
                have ho9 := fun cs => Only.row w.heap.size w9 cs
                refine rparse_ret (q := q2) (pv := .slice Ap q2.power.length cp) rfl rfl (HK9.out.row _) rfl ⟨_, _, rfl, hs9.keep elPha_good ((ho9 _).same fun b hb => ⟨hb.2, by omega⟩) fun b hb => ⟨by omega, by simpa using hb.2⟩, Sl.nil _ _, (HBW.out.trans (HB9.out.mono HBW.out.size)).trans ((ho9 _).below (Nat.le_refl _) (Nat.le_of_lt hz9))⟩
              · rw [if_pos hz] at hr
                have e9 : (e != 0) = true := by simp [hz]
                have HRR := Lib.hid hr
                clear hr hz
                go_wp2_with (go_at_call 36; refine HCK.out.mono ?_; rintro x w9 ⟨rfl, hb9⟩; clear yr0 yr1 yr2 yr3 yr4 yr5 yr6 yr7 yr8 yr9 yr10 yr11 yr12 yr13; have hk9 := HKR.out.below hb9 hltr; obtain ⟨r0, r1, r2, r3, r4, r5, r6, r7, r8, r9, r10, r11, r12, r13⟩ := Blk.fourteen (show Blk _ _ _ #[.string ⟨#[]⟩, .int .i64 0, .int .i64 0, .int .i64 0, .int .i64 0, .int .i64 0, .int .i64 0, .int .i64 0, .bool false, .int .i64 0, .int .i64 0, .int .i64 0, .int .i64 0, .slice none 0 0] from hk9); have f0 := Blk.frozen (show Blk _ _ _ zeroR from hk9) 0; have f1 := Blk.frozen (show Blk _ _ _ zeroR from hk9) 1; have f2 := Blk.frozen (show Blk _ _ _ zeroR from hk9) 2; have f3 := Blk.frozen (show Blk _ _ _ zeroR from hk9) 3; have f4 := Blk.frozen (show Blk _ _ _ zeroR from hk9) 4; have f5 := Blk.frozen (show Blk _ _ _ zeroR from hk9) 5; have f6 := Blk.frozen (show Blk _ _ _ zeroR from hk9) 6; have f7 := Blk.frozen (show Blk _ _ _ zeroR from hk9) 7; have f8 := Blk.frozen (show Blk _ _ _ zeroR from hk9) 8; have f9 := Blk.frozen (show Blk _ _ _ zeroR from hk9) 9; have f10 := Blk.frozen (show Blk _ _ _ zeroR from hk9) 10; have f11 := Blk.frozen (show Blk _ _ _ zeroR from hk9) 11; have f12 := Blk.frozen (show Blk _ _ _ zeroR from hk9) 12; have f13 := Blk.frozen (show Blk _ _ _ zeroR from hk9) 13; have hz9 := hk9.lt; have HK9 := Lib.hid hk9; have HB9 := Lib.hid hb9; clear hb9 hk9)
                first
                  | (rw [zero_chain HK9.out]; exact rp_one HRR.out rfl (HBW.out.trans (HB9.out.mono HBW.out.size)) HK9.out rfl (.inr rfl) rfl rfl rfl)
                  | (rw [zero_chain (HK9.out.alloc _)]; exact rp_one HRR.out rfl (HBW.out.trans (HB9.out.mono HBW.out.size)) HK9.out rfl (.inl rfl) rfl rfl rfl)

        · have hv3 := HVR.out
          rw [if_neg (show ¬ cv = 12 by omega), show o + 12 * 2 = o + 24 from rfl] at hv3
          have HV3 := Lib.hid hv3
          clear hv3 HVR
          go_loopw [73] (fun i wr => ∃ (k2 : Nat) (q2 : Rul), k2 ≤ ls.length - 12 ∧ i = .int .i64 k2 ∧ Hid (RQ w2 wr q2) ∧ Hid (q2.power.length ≤ k2) ∧ Hid (q2.name.length ≤ 1000) ∧ Hid (linesR (ls.drop (k2 + 12)) (k2 + 12) q2 = linesR ls 0 noRul)) (fun i _ => ls.length - 12 - (intOf i).toNat)
          case atStart => exact ⟨0, q, Nat.zero_le _, rfl, HRQ3, HQN, Lib.hid hqm, HLF⟩
          case round =>
            clear HRQ3 HQN HLF HRQ
            obtain ⟨k2, q2, hk2, rfl, HQ2, HQN2, HQM2, HLF2⟩ := hrel
            have hzw := HQ2.out.lt
            have hll := HOK.out.2.1
            by_cases hlt3 : k2 < ls.length - 12
            · have hg : k2 < (ls.drop 12).length := by simp; omega
              obtain ⟨b', o', cs, he, hF, hcl, hcc, hel⟩ := HV3.out.at hg
              injection he with he
              injection he with e1 e2
              subst e1 e2
              have hdx : (ls.drop 12)[k2] = ls[k2 + 12]'(by omega) := by simp [List.getElem_drop, Nat.add_comm]
              have hox := HOK.out.1 _ (List.getElem_mem (show k2 + 12 < ls.length by omega))
              have hlk := HLF2.out
              rw [drop_get (show k2 + 12 < ls.length by omega)] at hlk
              rw [hdx] at hel
              obtain ⟨⟨xn, fs⟩, hx⟩ : ∃ x, x = ls[k2 + 12]'(by omega) := ⟨_, rfl⟩
              rw [← hx] at hel hlk hox
              obtain ⟨fv, rfl, hfl⟩ := hel
              dsimp only at hfl hcc
              obtain ⟨A2, c2, rfl, hf1, hf2⟩ := hfl.shape
              obtain ⟨n2, hn2⟩ : ∃ n, n = fs.length := ⟨_, rfl⟩
              rw [← hn2] at hcc hfl
              have x0 : wr.cell? ⟨b, (o + 24) + k2 * 2, none⟩ = some (.int .i64 xn) := (HQ2.out.bel.cell (p := ⟨b, (o + 24) + k2 * 2, none⟩) hF.2).trans (hcc 0 _ rfl)
              have x1 : wr.cell? ⟨b, (o + 24) + k2 * 2 + 1, none⟩ = some (.slice A2 n2 c2) := (HQ2.out.bel.cell (p := ⟨b, (o + 24) + k2 * 2 + 1, none⟩) hF.2).trans (hcc 1 _ rfl)
              obtain ⟨c1, hc1⟩ : ∃ c, c = ((Cur.start ⟨xn, fs⟩).keyword kPOWER).1 := ⟨_, rfl⟩
              obtain ⟨⟨c3, v1⟩, hv1⟩ : ∃ c, c = c1.n := ⟨_, rfl⟩
              obtain ⟨⟨c4, v2⟩, hv2⟩ : ∃ c, c = c3.n := ⟨_, rfl⟩
              obtain ⟨⟨c5, v3⟩, hv3⟩ : ∃ c, c = c4.n := ⟨_, rfl⟩
              have hrd : readR q2 (k2 + 12) (Cur.start ⟨xn, fs⟩) = ({ q2 with power := q2.power ++ [⟨v1, v2, v3⟩] }, c5) := by rw [readR_power, ← hc1, ← hv1, ← hv2, ← hv3]
              obtain ⟨pv, hkr, hown, hbel⟩ := HQ2.out
              obtain ⟨Ap, cp, rfl, _, _⟩ := (hown.sl elPha_good).shape
              have hba : Below wr.heap.size wr (wr.alloc (.cells #[.int .i64 xn, .slice A2 n2 c2] 56)) := Below.alloc (Below.refl _ _) (Nat.le_refl _) _
              have kat := rn_At (hkr.alloc (.cells #[.int .i64 xn, .slice A2 n2 c2] 56)) (hown.alloc elPha_good _) (hbel.trans (hba.mono (Nat.le_of_lt hzw))) ⟨xn, fs⟩ (.slice A2 n2 c2) _ (hfl.keep elFld_good (Same.below (hbel.trans (hba.mono (Nat.le_of_lt hzw))) fun b hb => hb.2) fun _ h => h) (fun b hb => by have := hb.2; simp; omega) hox
              have KAT := Lib.hid kat
              have HKW := Lib.hid hc1.symm
              have HV1 := Lib.hid hv1
              have HV2 := Lib.hid hv2
              have HV4 := Lib.hid hv3
              have hp6 : q2.power.length ≤ 1000000 := by have := HQN2.out; omega
              have hbz : b < wr.heap.size := Nat.lt_of_lt_of_le hF.2 hbel.size
              have hlt3i : (k2 : Int) < ((ls.length - 12 : Nat) : Int) := by omega
              have tok2 : True := trivial
              cases hcl5 : c5.close with
              | none =>
                rw [linesR_ok (by rw [hrd]; exact hcl5), hrd] at hlk
                have HLK := Lib.hid hlk
                have HCL := Lib.hid (show closeV c5.close = .tuple #[.agg #[.int .i64 0, .int .i64 0, .int .i64 0], .bool false] by rw [hcl5]; rfl)
                clear hox hlk hx hcl hcc hfl hdx hg hrd hcl5 hkr hown hbel hba kat hc1 hv1 hv2 hv3 hn2 hf1 hf2 hF
                go_wp2_with (first
                  | (clear tok2; go_at_call 32; refine KAT.out.mono ?_; rintro e w4 ⟨g, F, rfl, hn4, hz4⟩; have HN4 := Lib.hid hn4; clear hn4; have tok3 : True := trivial)
                  | (clear tok3; go_at_call 33; refine (rn_Keyword HN4.out hz4 HKW.out).mono ?_; rintro e w5 ⟨⟨bk, rfl⟩, hn5, hz5⟩; have HN5 := Lib.hid hn5; clear hn5; have tok4 : True := trivial)
                  | (clear tok4; go_at_call 34; refine (rn_number HN5.out hz5 HV1.out).mono ?_; rintro e w6 ⟨rfl, hn6, hz6⟩; have HN6 := Lib.hid (hn6.box hz6 v1 0 0); clear hn6; have tok5 : True := trivial)
                  | (clear tok5; go_at_call 34; refine (rnp_number HN6.out HV2.out).mono ?_; rintro e w7 ⟨rfl, hn7⟩; obtain ⟨p0, p1, p2, pf0, pf1, pf2⟩ := hn7.ph.three; have HN7 := Lib.hid (hn7.set 1 (.int .i64 v2) rfl); clear hn7; have tok6 : True := trivial)
                  | (clear tok6; go_at_call 34; refine (rnp_number HN7.out HV4.out).mono ?_; rintro e w8 ⟨rfl, hn8⟩; clear p0 p1 p2 pf0 pf1 pf2; obtain ⟨p0, p1, p2, pf0, pf1, pf2⟩ := hn8.ph.three; have HN8 := Lib.hid (hn8.set 2 (.int .i64 v3) rfl); clear hn8; have tok6b : True := trivial)
                  | (clear tok6b; go_at_call 35; have kcl := rnp_Close HN8.out; rw [HCL.out] at kcl; refine kcl.mono ?_; rintro e w9 ⟨rfl, hn9⟩; clear p0 p1 p2 pf0 pf1 pf2; obtain ⟨p0, p1, p2, pf0, pf1, pf2⟩ := hn9.ph.three; have hpz := hn9.ph.lt; have hgz := hn9.kr.lt; have gq : w9.cell? ⟨w2.heap.size, 13, none⟩ = some (.slice Ap q2.power.length cp) := hn9.kr.cell 13; have HN9 := Lib.hid hn9; clear hn9; have tok7 : True := trivial)
                  | (clear tok7; at_builtin; refine wpList_append_sl _ rfl (.tmp 100) (.tmp 102) _ rfl E_pha elPha_good (w2.heap.size + 1) _ q2.power rfl ((HN9.out.below (Below.alloc (Below.refl _ _) (Nat.le_refl _) (.cells #[.int .i64 0, .int .i64 0, .int .i64 0] 41))).own.alloc elPha_good _) ⟨w9.heap.size + 1, 0, none⟩ 1 [.int .i64 v1, .int .i64 v2, .int .i64 v3] rfl ⟨v1, v2, v3⟩ rfl (cells_atU _ _ (by simp) _ _) (oneCells rfl) rfl (by simp only [maxLen]; omega) (by omega) (by simp; omega) ?_; intro v5 w10 hown10 hg10 hat10; obtain ⟨hb10, hq10⟩ := (HN9.out.below (Below.alloc (Below.refl _ _) (Nat.le_refl _) (.cells #[.int .i64 0, .int .i64 0, .int .i64 0] 41))).add hown10 hg10; obtain ⟨A10, c10, hv10, _, _⟩ := (hown10.sl elPha_good).shape; rw [List.length_append, List.length_singleton] at hv10; subst hv10; have g13 : w10.cell? ⟨w2.heap.size, 13, none⟩ = some (.slice Ap q2.power.length cp) := hb10.cell 13; have gf13 := hb10.frozen 13; have HQ10 := Lib.hid hq10; clear hown10 hg10 hat10 hb10 hq10; have tok8 : True := trivial))
                go_roundw
                case rel => exact ⟨k2 + 1, _, by omega, by go_num, HQ10, Lib.hid (by have := HQN2.out; simp; omega), HQM2, Lib.hid (by rw [show k2 + 1 + 12 = k2 + 12 + 1 by omega]; exact HLK.out)⟩
                case measure => simp [intOf]; omega
              | some d =>
                rw [linesR_bad (by rw [hrd]; exact hcl5)] at hlk
                have hr2 : res = (noRul, [d]) := by rw [HR.out, ← hlk]
                obtain ⟨dl, dc, dk⟩ := d
                have HR2 := Lib.hid hr2
                have HCL := Lib.hid (show closeV c5.close = .tuple #[.agg #[.int .i64 dl, .int .i64 dc, .int .i64 dk], .bool true] by rw [hcl5]; rfl)
                clear hox hlk hx hcl hcc hfl hdx hg hrd hcl5 hkr hown hbel hba kat hc1 hv1 hv2 hv3 hn2 hf1 hf2 hF hr2
                go_wp2_with (first
                  | (clear tok2; go_at_call 32; refine KAT.out.mono ?_; rintro e w4 ⟨g, F, rfl, hn4, hz4⟩; have HN4 := Lib.hid hn4; clear hn4; have tok3 : True := trivial)
                  | (clear tok3; go_at_call 33; refine (rn_Keyword HN4.out hz4 HKW.out).mono ?_; rintro e w5 ⟨⟨bk, rfl⟩, hn5, hz5⟩; have HN5 := Lib.hid hn5; clear hn5; have tok4 : True := trivial)
                  | (clear tok4; go_at_call 34; refine (rn_number HN5.out hz5 HV1.out).mono ?_; rintro e w6 ⟨rfl, hn6, hz6⟩; have HN6 := Lib.hid (hn6.box hz6 v1 0 0); clear hn6; have tok5 : True := trivial)
                  | (clear tok5; go_at_call 34; refine (rnp_number HN6.out HV2.out).mono ?_; rintro e w7 ⟨rfl, hn7⟩; obtain ⟨p0, p1, p2, pf0, pf1, pf2⟩ := hn7.ph.three; have HN7 := Lib.hid (hn7.set 1 (.int .i64 v2) rfl); clear hn7; have tok6 : True := trivial)
                  | (clear tok6; go_at_call 34; refine (rnp_number HN7.out HV4.out).mono ?_; rintro e w8 ⟨rfl, hn8⟩; clear p0 p1 p2 pf0 pf1 pf2; obtain ⟨p0, p1, p2, pf0, pf1, pf2⟩ := hn8.ph.three; have HN8 := Lib.hid (hn8.set 2 (.int .i64 v3) rfl); clear hn8; have tok6b : True := trivial)
                  | (clear tok6b; go_at_call 35; have kcl := rnp_Close HN8.out; rw [HCL.out] at kcl; refine kcl.mono ?_; rintro e w9 ⟨rfl, hn9⟩; clear p0 p1 p2 pf0 pf1 pf2; obtain ⟨p0, p1, p2, pf0, pf1, pf2⟩ := hn9.ph.three; have hpz := hn9.ph.lt; have hgz := hn9.kr.lt; have gq : w9.cell? ⟨w2.heap.size, 13, none⟩ = some (.slice Ap q2.power.length cp) := hn9.kr.cell 13; have HN9 := Lib.hid hn9; clear hn9; have tok7 : True := trivial))
                have hkr9 := HK2.out.below HN9.out.bel hlt
                have hlt9 := hkr9.lt
                have HKR := Lib.hid hkr9
                have HBW := Lib.hid (HB2.out.trans (HN9.out.bel.mono (Nat.le_of_lt hlt)))
                obtain ⟨r0, r1, r2, r3, r4, r5, r6, r7, r8, r9, r10, r11, r12, r13⟩ := Blk.fourteen (show Blk _ _ _ #[.string ⟨#[]⟩, .int .i64 0, .int .i64 0, .int .i64 0, .int .i64 0, .int .i64 0, .int .i64 0, .int .i64 0, .bool false, .int .i64 0, .int .i64 0, .int .i64 0, .int .i64 0, .slice none 0 0] from hkr9)
                have f0 := Blk.frozen (show Blk _ _ _ zeroR from hkr9) 0
                have f1 := Blk.frozen (show Blk _ _ _ zeroR from hkr9) 1
                have f2 := Blk.frozen (show Blk _ _ _ zeroR from hkr9) 2
                have f3 := Blk.frozen (show Blk _ _ _ zeroR from hkr9) 3
                have f4 := Blk.frozen (show Blk _ _ _ zeroR from hkr9) 4
                have f5 := Blk.frozen (show Blk _ _ _ zeroR from hkr9) 5
                have f6 := Blk.frozen (show Blk _ _ _ zeroR from hkr9) 6
                have f7 := Blk.frozen (show Blk _ _ _ zeroR from hkr9) 7
                have f8 := Blk.frozen (show Blk _ _ _ zeroR from hkr9) 8
                have f9 := Blk.frozen (show Blk _ _ _ zeroR from hkr9) 9
                have f10 := Blk.frozen (show Blk _ _ _ zeroR from hkr9) 10
                have f11 := Blk.frozen (show Blk _ _ _ zeroR from hkr9) 11
                have f12 := Blk.frozen (show Blk _ _ _ zeroR from hkr9) 12
                have f13 := Blk.frozen (show Blk _ _ _ zeroR from hkr9) 13
                clear hkr9
                go_region
                all_goals go_wp2
                all_goals first
                  | (rw [zero_chain HKR.out]; refine rparse_ret rfl rfl (Blk.drew (((HKR.out.row _).alloc _).alloc _)) rfl (RParsePost.drew (fresh_post HR2.out (Below.alloc (HBW.out.trans ((Only.row w.heap.size w9 _).below (Nat.le_refl _) (Nat.le_of_lt hlt9))) ?_ _) ?_)); (simp; omega); simp)
                  | (rw [zero_chain (HKR.out.alloc _)]; exact rp_oneD HR2.out rfl (HBW.out.alloc HBW.out.size _) (HKR.out.alloc _) (by simp) (.inr rfl) rfl rfl rfl)
                  | (rw [zero_chain ((HKR.out.alloc _).alloc _)]; exact rp_oneD HR2.out rfl (HBW.out.alloc HBW.out.size _) (HKR.out.alloc _) (by simp) (.inl rfl) rfl rfl rfl)
            · have hke : k2 = ls.length - 12 := by omega
              have ho := HLF2.out
              rw [List.drop_eq_nil_of_le (by omega), linesR] at ho
              have hr := HR.out
              rw [← ho] at hr
              dsimp only at hr
              rw [if_neg (by omega)] at hr
              have hqm2 := HQM2.out
              have hkr := HK2.out.below HQ2.out.bel hlt
              have hltr := hkr.lt
              have HKR := Lib.hid hkr
              have hlt3i : ¬ (k2 : Int) < ((ls.length - 12 : Nat) : Int) := by omega
              obtain ⟨pv, hkq, howq, hbq⟩ := HQ2.out
              obtain ⟨Ap, cp, rfl, _, _⟩ := (howq.sl elPha_good).shape
              have hltq := hkq.lt
              have hck := ref_RCheck q2 _ wr ((howq.sl elPha_good).keep elPha_good (Same.refl _ _) fun b hb => hb.2) (by omega)
              obtain ⟨e, he⟩ : ∃ e, e = checkR q2 := ⟨_, rfl⟩
              rw [← he] at hck hr
              unfold rulV rulCells at hck
              have HCK := Lib.hid hck
              have HKQ := Lib.hid hkq
              have HOW := Lib.hid howq
              have HBW := Lib.hid (HB2.out.trans (hbq.mono (Nat.le_of_lt hlt)))
              obtain ⟨yr0, yr1, yr2, yr3, yr4, yr5, yr6, yr7, yr8, yr9, yr10, yr11, yr12, yr13⟩ := Blk.fourteen (show Blk _ _ _ #[.string (S q2.name), .int .i64 q2.side, .int .i64 q2.inns, .int .i64 q2.overs, .int .i64 q2.balls, .int .i64 q2.quota, .int .i64 q2.wide, .int .i64 q2.noball, .bool q2.free, .int .i64 q2.newball, .int .i64 q2.follow, .int .i64 q2.reviews, .int .i64 q2.outside, .slice Ap q2.power.length cp] from hkq)
              clear hck hkq howq hbq he HQ2 hkr ho HLF2
              by_cases hz : e = 0
              · rw [if_neg (by simp [hz])] at hr
                subst hz
                have HRR := Lib.hid hr
                clear hr
                go_wp2_with (go_at_call 36; refine HCK.out.mono ?_; rintro x w9 ⟨rfl, hb9⟩; clear yr0 yr1 yr2 yr3 yr4 yr5 yr6 yr7 yr8 yr9 yr10 yr11 yr12 yr13; have hkq9 := HKQ.out.below hb9 hltq; have hk9 := HKR.out.below hb9 hltr; obtain ⟨yr0, yr1, yr2, yr3, yr4, yr5, yr6, yr7, yr8, yr9, yr10, yr11, yr12, yr13⟩ := Blk.fourteen (show Blk _ _ _ #[.string (S q2.name), .int .i64 q2.side, .int .i64 q2.inns, .int .i64 q2.overs, .int .i64 q2.balls, .int .i64 q2.quota, .int .i64 q2.wide, .int .i64 q2.noball, .bool q2.free, .int .i64 q2.newball, .int .i64 q2.follow, .int .i64 q2.reviews, .int .i64 q2.outside, .slice Ap q2.power.length cp] from hkq9); obtain ⟨r0, r1, r2, r3, r4, r5, r6, r7, r8, r9, r10, r11, r12, r13⟩ := Blk.fourteen (show Blk _ _ _ #[.string ⟨#[]⟩, .int .i64 0, .int .i64 0, .int .i64 0, .int .i64 0, .int .i64 0, .int .i64 0, .int .i64 0, .bool false, .int .i64 0, .int .i64 0, .int .i64 0, .int .i64 0, .slice none 0 0] from hk9); have f0 := Blk.frozen (show Blk _ _ _ zeroR from hk9) 0; have f1 := Blk.frozen (show Blk _ _ _ zeroR from hk9) 1; have f2 := Blk.frozen (show Blk _ _ _ zeroR from hk9) 2; have f3 := Blk.frozen (show Blk _ _ _ zeroR from hk9) 3; have f4 := Blk.frozen (show Blk _ _ _ zeroR from hk9) 4; have f5 := Blk.frozen (show Blk _ _ _ zeroR from hk9) 5; have f6 := Blk.frozen (show Blk _ _ _ zeroR from hk9) 6; have f7 := Blk.frozen (show Blk _ _ _ zeroR from hk9) 7; have f8 := Blk.frozen (show Blk _ _ _ zeroR from hk9) 8; have f9 := Blk.frozen (show Blk _ _ _ zeroR from hk9) 9; have f10 := Blk.frozen (show Blk _ _ _ zeroR from hk9) 10; have f11 := Blk.frozen (show Blk _ _ _ zeroR from hk9) 11; have f12 := Blk.frozen (show Blk _ _ _ zeroR from hk9) 12; have f13 := Blk.frozen (show Blk _ _ _ zeroR from hk9) 13; have hz9 := hk9.lt; have HK9 := Lib.hid hk9; have HB9 := Lib.hid hb9; clear hb9 hk9 hkq9)
                rw [zero_chain HK9.out, HRR.out]
                have hs9 := (HOW.out.below elPha_good HB9.out).sl elPha_good
                have ho9 := fun cs => Only.row w.heap.size w9 cs
                refine rparse_ret (q := q2) (pv := .slice Ap q2.power.length cp) rfl rfl (HK9.out.row _) rfl ⟨_, _, rfl, hs9.keep elPha_good ((ho9 _).same fun b hb => ⟨hb.2, by omega⟩) fun b hb => ⟨by omega, by simpa using hb.2⟩, Sl.nil _ _, (HBW.out.trans (HB9.out.mono HBW.out.size)).trans ((ho9 _).below (Nat.le_refl _) (Nat.le_of_lt hz9))⟩
              · rw [if_pos hz] at hr
                have e9 : (e != 0) = true := by simp [hz]
                have HRR := Lib.hid hr
                clear hr hz
                go_wp2_with (go_at_call 36; refine HCK.out.mono ?_; rintro x w9 ⟨rfl, hb9⟩; clear yr0 yr1 yr2 yr3 yr4 yr5 yr6 yr7 yr8 yr9 yr10 yr11 yr12 yr13; have hk9 := HKR.out.below hb9 hltr; obtain ⟨r0, r1, r2, r3, r4, r5, r6, r7, r8, r9, r10, r11, r12, r13⟩ := Blk.fourteen (show Blk _ _ _ #[.string ⟨#[]⟩, .int .i64 0, .int .i64 0, .int .i64 0, .int .i64 0, .int .i64 0, .int .i64 0, .int .i64 0, .bool false, .int .i64 0, .int .i64 0, .int .i64 0, .int .i64 0, .slice none 0 0] from hk9); have f0 := Blk.frozen (show Blk _ _ _ zeroR from hk9) 0; have f1 := Blk.frozen (show Blk _ _ _ zeroR from hk9) 1; have f2 := Blk.frozen (show Blk _ _ _ zeroR from hk9) 2; have f3 := Blk.frozen (show Blk _ _ _ zeroR from hk9) 3; have f4 := Blk.frozen (show Blk _ _ _ zeroR from hk9) 4; have f5 := Blk.frozen (show Blk _ _ _ zeroR from hk9) 5; have f6 := Blk.frozen (show Blk _ _ _ zeroR from hk9) 6; have f7 := Blk.frozen (show Blk _ _ _ zeroR from hk9) 7; have f8 := Blk.frozen (show Blk _ _ _ zeroR from hk9) 8; have f9 := Blk.frozen (show Blk _ _ _ zeroR from hk9) 9; have f10 := Blk.frozen (show Blk _ _ _ zeroR from hk9) 10; have f11 := Blk.frozen (show Blk _ _ _ zeroR from hk9) 11; have f12 := Blk.frozen (show Blk _ _ _ zeroR from hk9) 12; have f13 := Blk.frozen (show Blk _ _ _ zeroR from hk9) 13; have hz9 := hk9.lt; have HK9 := Lib.hid hk9; have HB9 := Lib.hid hb9; clear hb9 hk9)
                first
                  | (rw [zero_chain HK9.out]; exact rp_one HRR.out rfl (HBW.out.trans (HB9.out.mono HBW.out.size)) HK9.out rfl (.inr rfl) rfl rfl rfl)
                  | (rw [zero_chain (HK9.out.alloc _)]; exact rp_one HRR.out rfl (HBW.out.trans (HB9.out.mono HBW.out.size)) HK9.out rfl (.inl rfl) rfl rfl rfl)

  · rw [if_pos hds] at hres
    have HR := Lib.hid hres
    have hpos : 0 < ds.length := List.length_pos_iff.2 hds
    have d0 : (0 : Int) < ds.length := by omega
    have tok0 : True := trivial
    clear hds hres
    go_enter Tryz.func8, Tryz.ntmps8
    go_wp2_with (go_at_call 29; refine HSP.out.mono ?_; rintro e w2 ⟨v, d, rfl, hv, hd, hb2, hk2⟩; obtain ⟨Av, cv, rfl, hcv, hcv'⟩ := hv.shape; obtain ⟨Ad, cd, rfl, hcd, hcd'⟩ := hd.shape; have hlt := hk2.lt; obtain ⟨r0, r1, r2, r3, r4, r5, r6, r7, r8, r9, r10, r11, r12, r13⟩ := Blk.fourteen (show Blk _ _ _ #[.string ⟨#[]⟩, .int .i64 0, .int .i64 0, .int .i64 0, .int .i64 0, .int .i64 0, .int .i64 0, .int .i64 0, .bool false, .int .i64 0, .int .i64 0, .int .i64 0, .int .i64 0, .slice none 0 0] from hk2); have f0 := Blk.frozen hk2 0; have f1 := Blk.frozen hk2 1; have f2 := Blk.frozen hk2 2; have f3 := Blk.frozen hk2 3; have f4 := Blk.frozen hk2 4; have f5 := Blk.frozen hk2 5; have f6 := Blk.frozen hk2 6; have f7 := Blk.frozen hk2 7; have f8 := Blk.frozen hk2 8; have f9 := Blk.frozen hk2 9; have f10 := Blk.frozen hk2 10; have f11 := Blk.frozen hk2 11; have f12 := Blk.frozen hk2 12; have f13 := Blk.frozen hk2 13; have HB2 := Lib.hid hb2; have HK2 := Lib.hid hk2; have HD := Lib.hid hd; clear hb2 hk2 hv hd)
    rw [zero_chain HK2.out, HR.out]
    exact rparse_ret rfl rfl (HK2.out.row _) rfl (zero_post rfl HB2.out hlt HD.out)
end Go.Proofs.YtglkejlimeakbaaGreatDoor

namespace Go.Proofs.YtglkejlimeakbaaGreatDoor
open Go.RowKit

theorem neq_pha (a b c : Int) (W : World) : (binOp .neq 72 (.agg #[.int .i64 a, .int .i64 b, .int .i64 c]) (.agg #[.int .i64 a, .int .i64 b, .int .i64 c])).run Tryz.prog W = .ok (.bool false) W := by
  simp [go_sem]
/-- Two rules in boxes. -/
structure TwoU (w W : World) (c1 c2 : Array Value) : Prop where
  bel : Below w.heap.size w W
  b1 : Blk W w.heap.size 25 c1
  b2 : Blk W (w.heap.size + 1) 25 c2
theorem TwoU.new (w : World) (c1 c2 : Array Value) : TwoU w ((w.alloc (.cells c1 25)).alloc (.cells c2 25)) c1 c2 := by
  have h2 := Blk.new (w.alloc (.cells c1 25)) 25 c2
  rw [World.size_alloc] at h2
  exact ⟨Below.alloc (Below.alloc (Below.refl _ _) (Nat.le_refl _) _) (by simp) _, (Blk.new w _ _).alloc _, h2⟩
theorem TwoU.below {w W W' : World} {c1 c2 : Array Value} (h : TwoU w W c1 c2) (hb : Below W.heap.size W W') : TwoU w W' c1 c2 := ⟨h.bel.trans (hb.mono h.bel.size), h.b1.below hb h.b1.lt, h.b2.below hb h.b2.lt⟩
set_option maxRecDepth 100000 in
set_option maxHeartbeats 4000000 in
theorem ref_SameU (r : Rul) (pv qv : Value) (w : World) (h : Sl 3 elPha w (· < w.heap.size) pv r.power) (h' : Sl 3 elPha w (· < w.heap.size) qv r.power) :
    Calls Tryz.prog 9 #[rulV r pv, rulV r qv] w fun e w' => e = .returned (.bool true) ∧ Below w.heap.size w w' := by
  obtain ⟨A, c, rfl, hc, hc2⟩ := h.shape
  obtain ⟨A', c', rfl, hc', hc2'⟩ := h'.shape
  have HX0 := Lib.hid (TwoU.new w #[.string (S r.name), .int .i64 r.side, .int .i64 r.inns, .int .i64 r.overs, .int .i64 r.balls, .int .i64 r.quota, .int .i64 r.wide, .int .i64 r.noball, .bool r.free, .int .i64 r.newball, .int .i64 r.follow, .int .i64 r.reviews, .int .i64 r.outside, .slice A r.power.length c] #[.string (S r.name), .int .i64 r.side, .int .i64 r.inns, .int .i64 r.overs, .int .i64 r.balls, .int .i64 r.quota, .int .i64 r.wide, .int .i64 r.noball, .bool r.free, .int .i64 r.newball, .int .i64 r.follow, .int .i64 r.reviews, .int .i64 r.outside, .slice A' r.power.length c'])
  have H := Lib.hid h
  have H' := Lib.hid h'
  clear h h'
  unfold rulV rulCells
  go_enter Tryz.func9, Tryz.ntmps9
  go_wp2
  go_loopw [16] (fun i wr => ∃ k : Nat, k ≤ r.power.length ∧ i = .int .i64 k ∧ Hid (TwoU w wr #[.string (S r.name), .int .i64 r.side, .int .i64 r.inns, .int .i64 r.overs, .int .i64 r.balls, .int .i64 r.quota, .int .i64 r.wide, .int .i64 r.noball, .bool r.free, .int .i64 r.newball, .int .i64 r.follow, .int .i64 r.reviews, .int .i64 r.outside, .slice A r.power.length c] #[.string (S r.name), .int .i64 r.side, .int .i64 r.inns, .int .i64 r.overs, .int .i64 r.balls, .int .i64 r.quota, .int .i64 r.wide, .int .i64 r.noball, .bool r.free, .int .i64 r.newball, .int .i64 r.follow, .int .i64 r.reviews, .int .i64 r.outside, .slice A' r.power.length c'])) (fun i _ => r.power.length - (intOf i).toNat)
  case atStart => exact ⟨0, Nat.zero_le _, rfl, HX0⟩
  case round =>
    clear HX0
    obtain ⟨k, hk, rfl, HX⟩ := hrel
    by_cases hlt : k < r.power.length
    · obtain ⟨b, o, rfl, hbl, yy0, yy1, yy2⟩ := pha_at H.out hlt
      obtain ⟨b', o', rfl, hbl', zz0, zz1, zz2⟩ := pha_at H'.out hlt
      have y0 := (HX.out.bel.cell (p := ⟨b, o + k * 3, none⟩) hbl).trans yy0
      have y1 := (HX.out.bel.cell (p := ⟨b, o + k * 3 + 1, none⟩) hbl).trans yy1
      have y2 := (HX.out.bel.cell (p := ⟨b, o + k * 3 + 2, none⟩) hbl).trans yy2
      have z0 := (HX.out.bel.cell (p := ⟨b', o' + k * 3, none⟩) hbl').trans zz0
      have z1 := (HX.out.bel.cell (p := ⟨b', o' + k * 3 + 1, none⟩) hbl').trans zz1
      have z2 := (HX.out.bel.cell (p := ⟨b', o' + k * 3 + 2, none⟩) hbl').trans zz2
      obtain ⟨⟨p1, p2, p3⟩, hp⟩ : ∃ p, p = r.power[k] := ⟨_, rfl⟩
      rw [← hp] at y0 y1 y2 z0 z1 z2
      dsimp only at y0 y1 y2 z0 z1 z2
      have x1 := HX.out.b1.cell 13
      have x2 := HX.out.b2.cell 13
      have hcmp := fun W => neq_pha p1 p2 p3 W
      have HBD := Lib.hid (fun nq => HX.out.below (Below.drewN_ (Below.refl _ _) nq))
      clear yy0 yy1 yy2 zz0 zz1 zz2 hp hbl hbl' HX
      go_wp2
      go_quiet (fail)
      go_wp2
      go_roundw
      case rel => exact ⟨k + 1, by omega, by go_num, Lib.hid (HBD.out _)⟩
      case measure => simp [intOf]; omega
    · obtain rfl : k = r.power.length := by omega
      obtain ⟨y0, y1, y2, y3, y4, y5, y6, y7, y8, y9, y10, y11, y12, y13⟩ := Blk.fourteen (show Blk _ _ _ #[.string (S r.name), .int .i64 r.side, .int .i64 r.inns, .int .i64 r.overs, .int .i64 r.balls, .int .i64 r.quota, .int .i64 r.wide, .int .i64 r.noball, .bool r.free, .int .i64 r.newball, .int .i64 r.follow, .int .i64 r.reviews, .int .i64 r.outside, .slice A r.power.length c] from HX.out.b1)
      obtain ⟨z0, z1, z2, z3, z4, z5, z6, z7, z8, z9, z10, z11, z12, z13⟩ := Blk.fourteen (show Blk _ _ _ #[.string (S r.name), .int .i64 r.side, .int .i64 r.inns, .int .i64 r.overs, .int .i64 r.balls, .int .i64 r.quota, .int .i64 r.wide, .int .i64 r.noball, .bool r.free, .int .i64 r.newball, .int .i64 r.follow, .int .i64 r.reviews, .int .i64 r.outside, .slice A' r.power.length c'] from HX.out.b2)
      go_wp2
      go_ret
      exact ⟨rfl, HX.out.bel⟩
set_option maxRecDepth 100000 in
set_option maxHeartbeats 2000000 in
theorem law05_diags (l : List Dia) (v v' : Value) (F F' : Nat → Prop) (w : World) (h : Sl 3 elDia w F v l) (h' : Sl 3 elDia w F' v' l) :
    Calls Tryz.prog 10 #[v, v'] w fun e w' => e = .returned (.bool true) ∧ ∃ n, w' = w.drewN n := by
  obtain ⟨A, c, rfl, hc, hc2⟩ := Sl.shape h
  obtain ⟨A', c', rfl, hc', hc2'⟩ := Sl.shape h'
  have H := Lib.hid h
  have H' := Lib.hid h'
  clear h h'
  go_enter Tryz.func10, Tryz.ntmps10
  go_wp2
  go_loopw [13] (fun i wr => ∃ k : Nat, k ≤ l.length ∧ i = .int .i64 k ∧ ∃ n, wr = w.drewN n) (fun i _ => l.length - (intOf i).toNat)
  case atStart => exact ⟨0, Nat.zero_le _, rfl, 0, rfl⟩
  case round =>
    obtain ⟨k, hk, rfl, n, rfl⟩ := hrel
    by_cases hlt : k < l.length
    · obtain ⟨b, o, cs, rfl, hbl, hcl, hcell, hel⟩ := H.out.at hlt
      obtain ⟨b', o', cs', rfl, hbl', hcl', hcell', hel'⟩ := H'.out.at hlt
      obtain ⟨⟨dl, dc, dk⟩, hd⟩ : ∃ d, d = l[k] := ⟨_, rfl⟩
      rw [← hd] at hel hel'
      have e1 : cs = [.int .i64 dl, .int .i64 dc, .int .i64 dk] := hel
      have e2 : cs' = [.int .i64 dl, .int .i64 dc, .int .i64 dk] := hel'
      subst e1 e2
      have y0 := hcell 0 _ rfl
      have y1 := hcell 1 _ rfl
      have y2 := hcell 2 _ rfl
      have z0 := hcell' 0 _ rfl
      have z1 := hcell' 1 _ rfl
      have z2 := hcell' 2 _ rfl
      rw [Nat.add_zero] at y0 z0
      clear hcell hcell' hel hel' hcl hcl' hd
      go_wp2
      go_quiet (fail)
      go_wp2
      go_roundw
      case rel => exact ⟨k + 1, by omega, by go_num, _, rfl⟩
      case measure => simp [intOf]; omega
    · obtain rfl : k = l.length := by omega
      go_wp2
      go_ret
      exact ⟨rfl, _, rfl⟩
theorem cut_700 (s : ByteArray) : ∃ t : ByteArray, t.size ≤ 700 ∧ s.extract 0 (min (s.size : Int) 700).toNat = t :=
  ⟨_, by simp [ByteArray.size_extract]; omega, rfl⟩
set_option maxRecDepth 100000 in
set_option maxHeartbeats 4000000 in
theorem law_RParses (s : ByteArray) (w : World) (hg : GlobN w) (hl : s.size ≤ maxLen) :
    Calls Tryz.prog 3 #[.string s] w fun e w' => e = .returned (.bool true) ∧ Below w.heap.size w w' := by
  unfold maxLen at hl
  have haw := law05_awake w hg
  obtain ⟨t, ht, hcut⟩ := cut_700 s
  obtain ⟨⟨q, ds⟩, hq⟩ : ∃ R, R = parseR t.data.toList := ⟨_, rfl⟩
  have k1 := fun W (hW : GlobN W) => (rul_Parse t W hW (by omega)).mono fun e w' h => pa_of (q := q) (ds := ds) (by rw [hq]; exact h)
  have k2 := fun W => (ref_RParse t W (by omega)).mono fun e w' h => pa_of (q := q) (ds := ds) (by rw [hq]; exact h)
  have k1' := fun W (hW : Below w.heap.size w W) => k1 W (hg.below hW)
  have k3 := fun W pv qv (h : Sl 3 elPha W (· < W.heap.size) pv q.power) (h' : Sl 3 elPha W (· < W.heap.size) qv q.power) => ref_SameU q pv qv W h h'
  unfold rulV rulCells at k3
  unfold PaPost at k1' k2
  have HAW := Lib.hid haw
  have K1 := Lib.hid k1'
  have K2 := Lib.hid k2
  have K3 := Lib.hid k3
  have tok0 : True := trivial
  clear haw k1 k1' k2 k3 hq ht hg
  go_enter Tryz.func3, Tryz.ntmps3
  go_wp2_with (first
    | (clear tok0; go_at_call 6; refine HAW.out.mono ?_; rintro e w1 ⟨rfl, hb1⟩; have HB1 := Lib.hid hb1; clear hb1; have tok1 : True := trivial)
    | (clear tok1; go_at_call 7; refine (K1.out _ HB1.out).mono ?_; rintro e w2 ⟨A1, n1, c1, D1, d1, rfl, hb, hs, hd⟩; have HS2 := Lib.hid (RulAt.new hs); have ha := Below.alloc hb hb.size (.cells (rulCells q (.slice A1 n1 c1)) 25); have HB2 := Lib.hid (HB1.out.trans (ha.mono HB1.out.size)); have HD2 := Lib.hid hd; clear hb hs hd ha; have tok2 : True := trivial)
    | (clear tok2; go_at_call 8; refine (K2.out _).mono ?_; rintro e w3 ⟨A2, n2, c2, D2, d2, rfl, hb, hs, hd⟩; have ha := Below.alloc hb hb.size (.cells (rulCells q (.slice A2 n2 c2)) 25); have HS3 := Lib.hid (HS2.out.below ha); have HR3 := Lib.hid (RulAt.new hs); have HB3 := Lib.hid (HB2.out.trans (ha.mono HB2.out.size)); have hz := HS2.out.below hb; obtain ⟨y0, y1, y2, y3, y4, y5, y6, y7, y8, y9, y10, y11, y12, y13⟩ := Blk.fourteen (show Blk _ _ _ #[.string (S q.name), .int .i64 q.side, .int .i64 q.inns, .int .i64 q.overs, .int .i64 q.balls, .int .i64 q.quota, .int .i64 q.wide, .int .i64 q.noball, .bool q.free, .int .i64 q.newball, .int .i64 q.follow, .int .i64 q.reviews, .int .i64 q.outside, .slice A1 n1 c1] from hz.blk); have hz3 := hz.blk.lt; have HD3 := Lib.hid hd; have HB23 := Lib.hid ha; clear hz hb hs hd ha; have tok3 : True := trivial)
    | (clear tok3; go_at_call 9; refine (K3.out _ _ _ HS3.out.sl HR3.out.sl).mono ?_; rintro e w4 ⟨rfl, hb⟩; clear y0 y1 y2 y3 y4 y5 y6 y7 y8 y9 y10 y11 y12 y13; have HB4 := Lib.hid (HB3.out.trans (hb.mono HB3.out.size)); have HB34 := Lib.hid hb; clear hb; have tok4 : True := trivial)
    | (clear tok4; go_at_call 10; refine (law05_diags ds _ _ (fun _ => True) (fun _ => True) _ (HD2.out.keep elDia_good (Same.below ((Below.alloc (Below.refl _ _) (Nat.le_refl _) _).trans ((HB23.out.trans (HB34.out.mono HB23.out.size)).mono (by simp))) fun b hb => hb) fun _ _ => trivial) (HD3.out.keep elDia_good (Same.below ((Below.alloc (Below.refl _ _) (Nat.le_refl _) _).trans (HB34.out.mono (by simp))) fun b hb => hb) fun _ _ => trivial)).mono ?_; rintro e w5 ⟨rfl, n5, rfl⟩; have HB5 := Lib.hid (Below.drewN_ HB4.out n5); have tok5 : True := trivial))
  go_ret
  exact ⟨rfl, HB5.out⟩
end Go.Proofs.YtglkejlimeakbaaGreatDoor
