/- The contract of squad.player. -/
import Derived.Test.YtfljohhocgaheaaDoorQ3
import Derived.Deep.DeepCutAuto
set_option linter.unusedSimpArgs false
set_option linter.unusedVariables false
namespace Go.Proofs.YtfljohhocgaheaaDoor
open Go.RowKit

theorem CurAt.drew {w : World} {F : Nat → Prop} {g : Nat} {c : Cur} (h : CurAt w F g c) : CurAt w.drew F g c := h.keep (G := F) (fun _ _ => rfl) rfl (Nat.le_refl _)
theorem SqAt.drew {w : World} {base g : Nat} {q : Sqd} {pv : Value} (h : SqAt w base g q pv) : SqAt w.drew base g q pv := ⟨h.1, h.2⟩
theorem Only.undrew {g : Nat} {a w : World} (h : Only g a.drew w) : Only g a w := ⟨h.os, h.tape, h.output, h.size, h.block⟩
def PlayPost (w : World) (base G B : Nat) (r : Sqd × Cur) (e : Ending) (w' : World) (F : Nat → Prop) (g : Nat) : Prop :=
  e = .returned (.tuple #[]) ∧ (∃ pv, SqAt w' base G r.1 pv) ∧ CurAt w' F g r.2 ∧ Below B w w'
theorem CurAt.ne_own {α : Type} {size base e : Nat} {R : World → (Nat → Prop) → List Value → α → Prop} {K F : Nat → Prop} {w : World} {v : Value} {l : List α} {g : Nat} {c : Cur} (h : CurAt w F g c) (ho : OwnG size R e base w v K l) (hne : e ≠ 91) : v.ownBlock ≠ some g :=
  let ⟨_, hb, _⟩ := h.blk; own_ne ho hb hne
theorem play_app {w2 w3 : World} {base G g B : Nat} {q : Sqd} {c2 : Cur} {pv v3 : Value} {F : Nat → Prop} {t : List UInt8} {o : Obj} (hs : SqAt w2 base G q pv) (hc : CurAt w2 F g c2) (hGg : G ≠ g) (hFG : ¬ F G) (hFp : ∀ b, F b → pv.ownBlock ≠ some b)
    (hb : base ≤ w2.heap.size) (hB : B ≤ base) (hBG : B ≤ G) (hg3 : (w2.alloc o).grownBy w3 pv.ownBlock) (hw3 : OwnSl 1 elStr 9 base w3 v3 (q.players ++ [t])) (hblk : Blk w3 G 24 #[.string (S q.name), pv, .int .i64 q.cap, .int .i64 q.kee]) :
    SqAt (w3.setCell ⟨G, 1, none⟩ v3) base G { q with players := q.players ++ [t] } v3 ∧ CurAt (w3.setCell ⟨G, 1, none⟩ v3) F g c2 ∧ Below B w2 (w3.setCell ⟨G, 1, none⟩ v3) := by
  have hc' : CurAt (w2.alloc o) F g c2 := hc.below (Below.alloc (Below.refl _ _) (Nat.le_refl _) _)
  have hpg := hc'.ne_own (hs.2.alloc elStr_good o) (by decide)
  have hc3 : CurAt w3 F g c2 := hc'.keep (G := F) (Same.grown hg3 fun b hb => ⟨(hc'.foot b hb).1, fun e => hFp b hb e.symm⟩) (hg3.block g hc'.lt fun e => hpg e.symm) hg3.size
  have hbel : Below B w2 w3 := below_own (Below.alloc (Below.refl B w2) (by omega) o) (hs.2.alloc elStr_good o) hg3 hB (by simp; omega)
  exact ⟨⟨hblk.set_ 1 v3, hw3.grown elStr_good ((Only.refl G w3).setCell (p := ⟨G, 1, none⟩) (.inl rfl) _) fun b hb e => own_ne hw3 hblk (by decide) (by rw [hb, e])⟩, hc3.far hGg hFG _ rfl _, Below.setCell hbel hBG _⟩
/-- While the duties of a player are read. -/
structure PI (w0 : World) (base G B : Nat) (F : Nat → Prop) (g : Nat) (W : World) (q : Sqd) (c : Cur) : Prop where
  sq : ∃ pv, SqAt W base G q pv
  cur : CurAt W F g c
  bel : Below B w0 W
  hGg : G ≠ g
  hFG : ¬ F G
  hBG : B ≤ G
  hBg : B ≤ g
section
variable {w0 : World} {base G B : Nat} {F : Nat → Prop} {g : Nat} {W W' : World} {q : Sqd} {c c' : Cur}
theorem PI.lt (h : PI w0 base G B F g W q c) : G < W.heap.size := let ⟨_, hs⟩ := h.sq; hs.1.lt
theorem PI.only (h : PI w0 base G B F g W q c) (ho : Only g W W') (hc : CurAt W' F g c') : PI w0 base G B F g W' q c' :=
  let ⟨pv, hs⟩ := h.sq
  ⟨⟨pv, hs.only ho h.hGg (h.cur.ne_own hs.2 (by decide))⟩, hc, h.bel.trans (ho.below h.hBg (by have := h.lt; have := h.hBG; omega)), h.hGg, h.hFG, h.hBG, h.hBg⟩
theorem PI.alloc (h : PI w0 base G B F g W q c) (o : Obj) : PI w0 base G B F g (W.alloc o) q c :=
  h.only ((Only.refl g W).alloc o) (h.cur.below (Below.alloc (Below.refl _ _) (Nat.le_refl _) o))
theorem PI.drewN (h : PI w0 base G B F g W q c) (n : Nat) : PI w0 base G B F g (W.drewN n) q c :=
  h.only ((Only.refl g W).drewN n) (h.cur.below (Below.drewN_ (Below.refl _ _) n))
theorem PI.set_cap (h : PI w0 base G B F g W q c) (n : Int) : PI w0 base G B F g (W.setCell ⟨G, 2, none⟩ (.int .i64 n)) { q with cap := n } c :=
  let ⟨pv, hs⟩ := h.sq
  ⟨⟨pv, hs.set_cap n⟩, h.cur.far h.hGg h.hFG _ rfl _, Below.setCell h.bel h.hBG _, h.hGg, h.hFG, h.hBG, h.hBg⟩
theorem PI.set_kee (h : PI w0 base G B F g W q c) (n : Int) : PI w0 base G B F g (W.setCell ⟨G, 3, none⟩ (.int .i64 n)) { q with kee := n } c :=
  let ⟨pv, hs⟩ := h.sq
  ⟨⟨pv, hs.set_kee n⟩, h.cur.far h.hGg h.hFG _ rfl _, Below.setCell h.bel h.hBG _, h.hGg, h.hFG, h.hBG, h.hBg⟩
theorem PI.cells (h : PI w0 base G B F g W q c) : W.cell? ⟨G, 2, none⟩ = some (.int .i64 q.cap) ∧ W.cell? ⟨G, 3, none⟩ = some (.int .i64 q.kee) ∧ W.frozen? ⟨G, 2, none⟩ = false ∧ W.frozen? ⟨G, 3, none⟩ = false :=
  let ⟨_, hs⟩ := h.sq
  ⟨hs.1.cell 2, hs.1.cell 3, hs.1.frozen 2, hs.1.frozen 3⟩
theorem pi_More (h : PI w0 base G B F g W q c) : Calls Tryd.prog 65 #[.pointer (some ⟨g, 0, none⟩)] W fun x W' => x = .returned (.bool c.more) ∧ PI w0 base G B F g W' q c := by
  refine (cur_More c F g W h.cur).mono ?_
  rintro x w' ⟨rfl, n, rfl⟩
  exact ⟨rfl, h.drewN n⟩
theorem pi_Reject (h : PI w0 base G B F g W q c) (n : Int) : Calls Tryd.prog 67 #[.pointer (some ⟨g, 0, none⟩), .int .i64 n] W fun x W' => x = .returned (.tuple #[]) ∧ PI w0 base G B F g W' q (c.reject n) := by
  refine (cur_Reject c n F g W h.cur).mono ?_
  rintro x w' ⟨rfl, h1, h2⟩
  exact ⟨rfl, h.only h2 h1⟩
theorem fresh_duties (w : World) : Sl 1 elStr (w.alloc (.cells #[.string ⟨#[67, 65, 80, 84, 65, 73, 78]⟩, .string ⟨#[75, 69, 69, 80, 69, 82]⟩] 9)) (fun b => b = w.heap.size) (.slice (some ⟨w.heap.size, 0, none⟩) 2 2) [sCAPTAIN, sKEEPER] := by
  refine ⟨_, 2, rfl, Nat.le_refl _, by decide, fun _ => ⟨w.heap.size, 0, rfl, rfl, fun i a hi => ?_⟩⟩
  have hb := Blk.new w 9 #[.string ⟨#[67, 65, 80, 84, 65, 73, 78]⟩, .string ⟨#[75, 69, 69, 80, 69, 82]⟩]
  have hlt := (List.getElem?_eq_some_iff.1 hi).1
  have : i = 0 ∨ i = 1 := by simp at hlt; omega
  rcases this with rfl | rfl
  · simp at hi; subst hi
    refine ⟨[.string (S sCAPTAIN)], rfl, fun j u hu => ?_, rfl⟩
    have : j = 0 := by have := (List.getElem?_eq_some_iff.1 hu).1; simp at this; exact this
    subst this
    simp at hu; subst hu
    exact hb.cell 0
  · simp at hi; subst hi
    refine ⟨[.string (S sKEEPER)], rfl, fun j u hu => ?_, rfl⟩
    have : j = 0 := by have := (List.getElem?_eq_some_iff.1 hu).1; simp at this; exact this
    subst this
    simp at hu; subst hu
    exact hb.cell 1
theorem pi_OneOf (h : PI w0 base G B F g W q c) : Calls Tryd.prog 66 #[.pointer (some ⟨g, 0, none⟩), .slice (some ⟨W.heap.size, 0, none⟩) 2 2] (W.alloc (.cells #[.string ⟨#[67, 65, 80, 84, 65, 73, 78]⟩, .string ⟨#[75, 69, 69, 80, 69, 82]⟩] 9)) fun x W' => x = .returned (.int .i64 (c.oneOf [sCAPTAIN, sKEEPER]).2) ∧ PI w0 base G B F g W' q (c.oneOf [sCAPTAIN, sKEEPER]).1 := by
  refine (cur_OneOf c _ [sCAPTAIN, sKEEPER] (fun b => b = W.heap.size) F g _ (h.alloc _).cur (fresh_duties W) (fun b hb => ⟨by rw [hb]; simp, by have := h.cur.lt; omega⟩)).mono ?_
  rintro x w' ⟨rfl, h1, h2⟩
  exact ⟨rfl, (h.alloc _).only h2 h1⟩
theorem pi_OneOf2 {c4 : Cur} {i : Int} (h : PI w0 base G B F g W q c) (ho : c.oneOf [sCAPTAIN, sKEEPER] = (c4, i)) : Calls Tryd.prog 66 #[.pointer (some ⟨g, 0, none⟩), .slice (some ⟨W.heap.size, 0, none⟩) 2 2] (W.alloc (.cells #[.string ⟨#[67, 65, 80, 84, 65, 73, 78]⟩, .string ⟨#[75, 69, 69, 80, 69, 82]⟩] 9)) fun x W' => x = .returned (.int .i64 i) ∧ PI w0 base G B F g W' q c4 := by
  have := pi_OneOf h
  rw [ho] at this
  exact this
end
set_option maxRecDepth 100000 in
set_option maxHeartbeats 4000000 in
theorem sq_player (q : Sqd) (c : Cur) (pv : Value) (F : Nat → Prop) (base G g B : Nat) (w : World) (h : SqAt w base G q pv) (hc : CurAt w F g c) (hGg : G ≠ g) (hFG : ¬ F G) (hFp : ∀ b, F b → pv.ownBlock ≠ some b)
    (hlen : ∀ f ∈ c.fields, f.text.length ≤ 1000000000) (hn : q.players.length ≤ 1000000000) (hb : base ≤ w.heap.size) (hB : B ≤ base) (hBG : B ≤ G) (hBg : B ≤ g) :
    Calls Tryd.prog 34 #[.pointer (some ⟨G, 0, none⟩), .pointer (some ⟨g, 0, none⟩)] w fun e w' => PlayPost w base G B (playerS q c) e w' F g := by
  obtain ⟨res, hres⟩ : ∃ r, r = playerS q c := ⟨_, rfl⟩
  rw [← hres]
  unfold playerS at hres
  have hkw := cur_Keyword c ⟨#[80, 76, 65, 89, 69, 82]⟩ F g w hc
  obtain ⟨c1, hc1e⟩ : ∃ x, x = (c.keyword sPLAYER).1 := ⟨_, rfl⟩
  have hkw' : Calls Tryd.prog 32 #[.pointer (some ⟨g, 0, none⟩), .string ⟨#[80, 76, 65, 89, 69, 82]⟩] w fun x w1 => (∃ b, x = .returned (.bool b)) ∧ CurAt w1 F g c1 ∧ Only g w w1 ∧ SqAt w1 base G q pv ∧ base ≤ w1.heap.size := by
    refine hkw.mono ?_
    rintro e w1 ⟨rfl, k1, k2⟩
    exact ⟨⟨_, rfl⟩, by rw [hc1e]; exact k1, k2, h.only k2 hGg (hc.ne_own h.2 (by decide)), Nat.le_trans hb k2.size⟩
  have hl1 : ∀ f ∈ c1.fields, f.text.length ≤ 1000000000 := by rw [hc1e, Cur.keyword_fields]; exact hlen
  have hid : ∀ W, CurAt W F g c1 → SqAt W base G q pv → base ≤ W.heap.size → Calls Tryd.prog 33 #[.pointer (some ⟨g, 0, none⟩)] W fun x W' => x = .returned (.string (S c1.ident.2)) ∧ CurAt W' F g c1.ident.1 ∧ Only g W W' ∧ SqAt W' base G q pv ∧ base ≤ W'.heap.size := by
    intro W k1 k2 k5
    refine (cur_Ident c1 F g W k1 hl1).mono ?_
    rintro e w1 ⟨rfl, k3, k4⟩
    exact ⟨rfl, k3, k4, k2.only k4 hGg (k1.ne_own k2.2 (by decide)), Nat.le_trans k5 k4.size⟩
  rw [← hc1e] at hres
  obtain ⟨⟨c2, t⟩, hte⟩ : ∃ x, x = c1.ident := ⟨_, rfl⟩
  rw [← hte] at hres hid
  have hl2 : c2.fields = c.fields := by
    have := Cur.ident_fields c1
    rw [← hte] at this
    rw [this, hc1e, Cur.keyword_fields]
  simp only at hres hid
  have HK := Lib.hid hkw'
  have HI := Lib.hid hid
  have HR := Lib.hid hres
  have H := Lib.hid h
  have HC := Lib.hid hc
  clear h hc hkw hkw' hid hres hte hc1e hl1 hlen
  go_enter Tryd.func34, Tryd.ntmps34
  go_wp2_with (go_at_call 32; refine HK.out.mono ?_; rintro e w1 ⟨⟨bk, rfl⟩, hc1, ho1, hs1, hz1⟩; have y1 : w1.cell? ⟨G, 1, none⟩ = some pv := hs1.1.cell 1; have HC1 := Lib.hid hc1; have HO1 := Lib.hid ho1; have HS1 := Lib.hid hs1; clear hc1 ho1 hs1)
  go_cut [4] from 7 (fun n wx => (∃ g3 cap3, SqAt wx base G { q with players := q.players ++ [t] } (.slice (some ⟨g3, 0, none⟩) (q.players.length + 1) cap3)) ∧ CurAt wx F g c2 ∧ Below B w wx)
  case first =>
    have y1d : w1.drew.cell? ⟨G, 1, none⟩ = some pv := y1
    go_region_law (first | (go_simp; go_at_call 33; refine (HI.out _ HC1.out.drew HS1.out.drew hz1).mono ?_; rintro e w2 ⟨rfl, hc2, ho2, hs2, hz2⟩; have y2 : w2.cell? ⟨G, 1, none⟩ = some pv := hs2.1.cell 1; have y3 : (w2.alloc (Obj.cells #[.string (S t)] 9)).cell? ⟨G, 1, none⟩ = some pv := (hs2.1.alloc _).cell 1; have HC2 := Lib.hid hc2; have HO2 := Lib.hid ho2; have HS2 := Lib.hid hs2; clear hc2 ho2 hs2) | (refine step_append_el rfl (.tmp 11) (.tmp 14) _ rfl E_str elStr_good base pv q.players rfl (HS2.out.2.alloc elStr_good _) ⟨w2.heap.size, 0, none⟩ 1 [.string (S t)] rfl t rfl (cells_new _ _ _ _) (oneCells rfl) rfl (by simp only [maxLen]; omega) (by omega) (by simp; omega) ?_; intro g3 cap3 w3 hown3 hg3 hat3; have hblk3 := (HS2.out.1.alloc (Obj.cells #[.string (S t)] 9)).grown hg3 (own_ne HS2.out.2 HS2.out.1 (by decide)); have y4 : w3.cell? ⟨G, 1, none⟩ = some pv := hblk3.cell 1; have f4 : w3.frozen? ⟨G, 1, none⟩ = false := hblk3.frozen 1; have HBL := Lib.hid hblk3; have HG3 := Lib.hid hg3; have HW3 := Lib.hid hown3; have HA3 := Lib.hid hat3; clear hblk3 hg3 hown3 hat3))
    all_goals
      go_wp2_with fail
      go_meet
    all_goals
      have hp := play_app HS2.out HC2.out hGg hFG hFp hz2 hB hBG HG3.out HW3.out HBL.out
      exact ⟨⟨_, _, hp.1⟩, hp.2.1, ((HO1.out.below hBg (by omega)).trans (HO2.out.undrew.below hBg (by omega))).trans hp.2.2⟩
  case rest =>
    obtain ⟨⟨g3, cap3, hsx⟩, hcx, hbx⟩ := hcut
    have y1 : wc.cell? ⟨G, 1, none⟩ = some (.slice (some ⟨g3, 0, none⟩) (q.players.length + 1) cap3) := hsx.1.cell 1
    have hpi : PI w base G B F g wc { q with players := q.players ++ [t] } c2 := ⟨⟨_, hsx⟩, hcx, hbx, hGg, hFG, hBG, hBg⟩
    have HPI := Lib.hid hpi
    clear hsx hcx hbx hpi HK HI H HC
    go_wp2
    have HN := Lib.hid hn
    have hl2' : ∀ f ∈ c2.fields, True := fun _ _ => trivial
    clear hl2' hl2
    obtain ⟨q2, hq2⟩ : ∃ x, x = ({ q with players := q.players ++ [t] } : Sqd) := ⟨_, rfl⟩
    rw [← hq2] at HPI HR
    go_loopg [] c2.left (fun k wr => ∃ qr cr, PI w base G B F g wr qr cr ∧ Hid (dutiesS ((q.players.length : Int) + 1) qr cr = res) ∧ k = cr.left)
    case atStart => exact ⟨_, _, HPI.out, by unfold Hid; exact HR.out.symm, rfl⟩
    case round =>
      obtain ⟨qr, cr, hp, hd, hk⟩ := hrel
      have HP := Lib.hid hp
      clear hp
      cases hmo : cr.more
      · have hde := hd.out
        rw [dutiesS_end hmo] at hde
        have HDE := Lib.hid hde
        clear hde
        go_wp2_with (first | (go_at_call 65; refine (pi_More HP.out).mono ?_; rintro e wm ⟨rfl, hm⟩; have HM := Lib.hid hm; clear hm))
        go_end0
        rw [← HDE.out]
        exact ⟨rfl, HM.out.sq, HM.out.cur, HM.out.bel⟩
      · have hds := hd.out
        have hleft := (dutyS_left ((q.players.length : Int) + 1) qr cr).1 hmo
        rw [dutiesS_more hmo] at hds
        unfold dutyS at hds hleft
        obtain ⟨⟨c4, i⟩, ho⟩ : ∃ r, r = cr.oneOf [sCAPTAIN, sKEEPER] := ⟨_, rfl⟩
        have hoi := ho.symm
        rw [← ho] at hds hleft
        simp only at hds hleft
        have HO := Lib.hid hoi
        clear ho hoi hd
        by_cases h0 : i = 0
        · rw [if_pos h0] at hds hleft
          subst h0
          by_cases hc0 : qr.cap = 0
          · rw [if_neg (fun h => h hc0)] at hds hleft
            have e1 : (qr.cap != 0) = false := by simp [hc0]
            by_cases hk0 : qr.kee = (q.players.length : Int) + 1
            · rw [if_pos hk0] at hds hleft
              have e2 : (qr.kee == (q.players.length : Int) + 1) = true := beq_iff_eq.2 hk0
              have HDS := Lib.hid hds
              have HL := Lib.hid hleft
              clear hds hleft hc0 hk0
              go_wp2_with (first | (go_at_call 65; refine (pi_More HP.out).mono ?_; rintro e wm ⟨rfl, hm⟩; have HM := Lib.hid hm; clear hm) | (go_at_call 66; refine (pi_OneOf2 HM.out HO.out).mono ?_; rintro e w4 ⟨rfl, hp4⟩; obtain ⟨z2, z3, f2, f3⟩ := hp4.cells; have HP4 := Lib.hid hp4; clear hp4) | (go_at_call 67; refine (pi_Reject HP4.out 8).mono ?_; rintro e w5 ⟨rfl, hp5⟩; obtain ⟨x2, x3, j2, j3⟩ := hp5.cells; have HP5 := Lib.hid hp5; clear hp5))
              go_roundg (c4.reject 8).left
              case measure => rw [hk]; exact HL.out
              case rel => exact ⟨_, _, HP5.out.set_cap _, HDS.out, rfl⟩
            · rw [if_neg hk0] at hds hleft
              have e2 : (qr.kee == (q.players.length : Int) + 1) = false := beq_eq_false_iff_ne.2 hk0
              have HDS := Lib.hid hds
              have HL := Lib.hid hleft
              clear hds hleft hc0 hk0
              go_wp2_with (first | (go_at_call 65; refine (pi_More HP.out).mono ?_; rintro e wm ⟨rfl, hm⟩; have HM := Lib.hid hm; clear hm) | (go_at_call 66; refine (pi_OneOf2 HM.out HO.out).mono ?_; rintro e w4 ⟨rfl, hp4⟩; obtain ⟨z2, z3, f2, f3⟩ := hp4.cells; have HP4 := Lib.hid hp4; clear hp4))
              go_roundg c4.left
              case measure => rw [hk]; exact HL.out
              case rel => exact ⟨_, _, HP4.out.set_cap _, HDS.out, rfl⟩
          · rw [if_pos hc0] at hds hleft
            have e1 : (qr.cap != 0) = true := by simp [hc0]
            have HDS := Lib.hid hds
            have HL := Lib.hid hleft
            clear hds hleft hc0
            go_wp2_with (first | (go_at_call 65; refine (pi_More HP.out).mono ?_; rintro e wm ⟨rfl, hm⟩; have HM := Lib.hid hm; clear hm) | (go_at_call 66; refine (pi_OneOf2 HM.out HO.out).mono ?_; rintro e w4 ⟨rfl, hp4⟩; obtain ⟨z2, z3, f2, f3⟩ := hp4.cells; have HP4 := Lib.hid hp4; clear hp4) | (go_at_call 67; refine (pi_Reject HP4.out 7).mono ?_; rintro e w5 ⟨rfl, hp5⟩; obtain ⟨x2, x3, j2, j3⟩ := hp5.cells; have HP5 := Lib.hid hp5; clear hp5))
            go_roundg (c4.reject 7).left
            case measure => rw [hk]; exact HL.out
            case rel => exact ⟨_, _, HP5.out.set_cap _, HDS.out, rfl⟩
        · rw [if_neg h0] at hds hleft
          have e0 : (i == 0) = false := beq_eq_false_iff_ne.2 h0
          by_cases h1 : i = 1
          · rw [if_pos h1] at hds hleft
            subst h1
            by_cases hc0 : qr.kee = 0
            · rw [if_neg (fun h => h hc0)] at hds hleft
              have e1 : (qr.kee != 0) = false := by simp [hc0]
              have HDS := Lib.hid hds
              have HL := Lib.hid hleft
              clear hds hleft hc0
              go_wp2_with (first | (go_at_call 65; refine (pi_More HP.out).mono ?_; rintro e wm ⟨rfl, hm⟩; have HM := Lib.hid hm; clear hm) | (go_at_call 66; refine (pi_OneOf2 HM.out HO.out).mono ?_; rintro e w4 ⟨rfl, hp4⟩; obtain ⟨z2, z3, f2, f3⟩ := hp4.cells; have HP4 := Lib.hid hp4; clear hp4))
              go_roundg c4.left
              case measure => rw [hk]; exact HL.out
              case rel => exact ⟨_, _, HP4.out.set_kee _, HDS.out, rfl⟩
            · rw [if_pos hc0] at hds hleft
              have e1 : (qr.kee != 0) = true := by simp [hc0]
              have HDS := Lib.hid hds
              have HL := Lib.hid hleft
              clear hds hleft hc0
              go_wp2_with (first | (go_at_call 65; refine (pi_More HP.out).mono ?_; rintro e wm ⟨rfl, hm⟩; have HM := Lib.hid hm; clear hm) | (go_at_call 66; refine (pi_OneOf2 HM.out HO.out).mono ?_; rintro e w4 ⟨rfl, hp4⟩; obtain ⟨z2, z3, f2, f3⟩ := hp4.cells; have HP4 := Lib.hid hp4; clear hp4) | (go_at_call 67; refine (pi_Reject HP4.out 7).mono ?_; rintro e w5 ⟨rfl, hp5⟩; obtain ⟨x2, x3, j2, j3⟩ := hp5.cells; have HP5 := Lib.hid hp5; clear hp5))
              go_roundg (c4.reject 7).left
              case measure => rw [hk]; exact HL.out
              case rel => exact ⟨_, _, HP5.out.set_kee _, HDS.out, rfl⟩
          · rw [if_neg h1] at hds hleft
            have e1 : (i == 1) = false := beq_eq_false_iff_ne.2 h1
            have HDS := Lib.hid hds
            have HL := Lib.hid hleft
            clear hds hleft h0 h1
            go_wp2_with (first | (go_at_call 65; refine (pi_More HP.out).mono ?_; rintro e wm ⟨rfl, hm⟩; have HM := Lib.hid hm; clear hm) | (go_at_call 66; refine (pi_OneOf2 HM.out HO.out).mono ?_; rintro e w4 ⟨rfl, hp4⟩; obtain ⟨z2, z3, f2, f3⟩ := hp4.cells; have HP4 := Lib.hid hp4; clear hp4))
            go_roundg c4.left
            case measure => rw [hk]; exact HL.out
            case rel => exact ⟨_, _, HP4.out, HDS.out, rfl⟩
end Go.Proofs.YtfljohhocgaheaaDoor
