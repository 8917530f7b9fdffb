/- The contract of the law's awake: the examples of the office. -/
import Derived.Test.YtajcnjehjkpieaaE13
import Derived.Test.YtajcnjehjkpieaaS
set_option linter.unusedSimpArgs false
set_option linter.unusedVariables false
namespace Go.Proofs.Ytajcnjehjkpieaa
open Go.RowKit

/-- A slice that lies below. -/
theorem sl_low {α : Type} {size : Nat} {R : World → (Nat → Prop) → List Value → α → Prop} {w w' : World} {v : Value} {l : List α} (hR : Good R) (h : Sl size R w (· < w.heap.size) v l) (hb : Below w.heap.size w w') : Sl size R w' (· < w'.heap.size) v l :=
  h.keep hR (Same.of_below hb) fun _ h => Nat.lt_of_lt_of_le h hb.size
theorem low_alloc (w : World) (o : Obj) : Below w.heap.size w (w.alloc o) := Below.alloc (Below.refl _ _) (Nat.le_refl _) o
theorem lt_alloc (w : World) (o : Obj) : w.heap.size < (w.alloc o).heap.size := by simp
def awLC : Obj := .cells #[.string ⟨#[65, 78, 78]⟩, .string ⟨#[82, 69, 68, 83]⟩, .int .i64 5, .string ⟨#[65, 78, 78]⟩, .string ⟨#[66, 76, 85, 69, 83]⟩, .int .i64 103] 40
def awOC : Obj := .cells #[.int .i64 1, .string ⟨#[65, 78, 78]⟩, .int .i64 10, .int .i64 3, .int .i64 2, .string ⟨#[65, 78, 78]⟩, .int .i64 20, .int .i64 1, .int .i64 3, .string ⟨#[65, 78, 78]⟩, .int .i64 21, .int .i64 2] 35
def awWC : Obj := .cells #[.int .i64 100, .int .i64 110] 48
def awMC : Obj := .cells #[.int .i64 15, .int .i64 20, .int .i64 25, .int .i64 30, .int .i64 35] 2
def awXC : Obj := .cells #[.int .i64 25, .int .i64 30] 2
def awSC : Obj := .cells #[.string ⟨#[65, 78, 78]⟩] 9
theorem aw_rowL (W : World) (g : Nat) (hg : g = W.heap.size) : Sl 3 elTra (W.alloc awLC) (· < (W.alloc awLC).heap.size) (.slice (some ⟨g, 0, none⟩) 2 2) awL := by
  subst hg
  exact fresh_row W 40 [[.string (S aANN), .string (S aREDS), .int .i64 5], [.string (S aANN), .string (S aBLUES), .int .i64 103]] awL (by simp) rfl (by decide) (by simp) (by
    intro i a cs h1 h2
    match i, h1, h2 with
    | 0, h1, h2 => cases h1; cases h2; exact ⟨rfl, by decide, by decide⟩
    | 1, h1, h2 => cases h1; cases h2; exact ⟨rfl, by decide, by decide⟩)
theorem aw_rowO (W : World) (g : Nat) (hg : g = W.heap.size) : Sl 4 elOff (W.alloc awOC) (· < (W.alloc awOC).heap.size) (.slice (some ⟨g, 0, none⟩) 3 3) awO := by
  subst hg
  exact fresh_row W 35 [[.int .i64 1, .string (S aANN), .int .i64 10, .int .i64 3], [.int .i64 2, .string (S aANN), .int .i64 20, .int .i64 1], [.int .i64 3, .string (S aANN), .int .i64 21, .int .i64 2]] awO (by simp) rfl (by decide) (by simp) (by
    intro i a cs h1 h2
    match i, h1, h2 with
    | 0, h1, h2 => cases h1; cases h2; exact ⟨rfl, by decide⟩
    | 1, h1, h2 => cases h1; cases h2; exact ⟨rfl, by decide⟩
    | 2, h1, h2 => cases h1; cases h2; exact ⟨rfl, by decide⟩)
theorem aw_rowW (W : World) (g : Nat) (hg : g = W.heap.size) : Sl 2 elWin (W.alloc awWC) (· < (W.alloc awWC).heap.size) (.slice (some ⟨g, 0, none⟩) 1 1) awW := by
  subst hg
  exact fresh_row W 48 [[.int .i64 100, .int .i64 110]] awW (by simp) rfl (by decide) (by simp) (by
    intro i a cs h1 h2
    match i, h1, h2 with
    | 0, h1, h2 => cases h1; cases h2; rfl)
theorem aw_rowM (W : World) (g : Nat) (hg : g = W.heap.size) : Sl 1 elInt (W.alloc awMC) (· < (W.alloc awMC).heap.size) (.slice (some ⟨g, 0, none⟩) 5 5) awM := by
  subst hg
  exact fresh_row W 2 [[.int .i64 15], [.int .i64 20], [.int .i64 25], [.int .i64 30], [.int .i64 35]] awM (by simp) rfl (by decide) (by simp) (by
    intro i a cs h1 h2
    match i, h1, h2 with
    | 0, h1, h2 => cases h1; cases h2; rfl
    | 1, h1, h2 => cases h1; cases h2; rfl
    | 2, h1, h2 => cases h1; cases h2; rfl
    | 3, h1, h2 => cases h1; cases h2; rfl
    | 4, h1, h2 => cases h1; cases h2; rfl)
theorem aw_rowX (W : World) (g : Nat) (hg : g = W.heap.size) : Sl 1 elInt (W.alloc awXC) (· < (W.alloc awXC).heap.size) (.slice (some ⟨g, 0, none⟩) 2 2) [25, 30] := by
  subst hg
  exact fresh_row W 2 [[.int .i64 25], [.int .i64 30]] [25, 30] (by simp) rfl (by decide) (by simp) (by
    intro i a cs h1 h2
    match i, h1, h2 with
    | 0, h1, h2 => cases h1; cases h2; rfl
    | 1, h1, h2 => cases h1; cases h2; rfl)
theorem aw_rowS (W : World) (g : Nat) (hg : g = W.heap.size) : Sl 1 elStr (W.alloc awSC) (· < (W.alloc awSC).heap.size) (.slice (some ⟨g, 0, none⟩) 1 1) [aANN] := by
  subst hg
  exact fresh_row W 9 [[.string (S aANN)]] [aANN] (by simp) rfl (by decide) (by simp) (by
    intro i a cs h1 h2
    match i, h1, h2 with
    | 0, h1, h2 => cases h1; cases h2; rfl)
theorem aw_check (W : World) (wv v : Value) (hw : Sl 2 elWin W (· < W.heap.size) wv awW) (h : Sl 3 elTra W (· < W.heap.size) v awL) :
    Calls Try.prog 5 #[wv, v] W fun e w' => e = .returned (.tuple #[.int .i64 (-1), .int .i64 0]) ∧ Below W.heap.size W w' := by
  refine (reg_Check awW awL wv v W hw h).mono ?_
  rintro e w' ⟨rfl, hb⟩
  rw [aw_reg]
  exact ⟨rfl, hb⟩
theorem aw_susp (W : World) (lv mv : Value) (hl : Sl 4 elOff W (· < W.heap.size) lv awO) (hm : Sl 1 elInt W (· < W.heap.size) mv awM) :
    Calls Try.prog 6 #[lv, .string ⟨#[65, 78, 78]⟩, mv] W fun e w' => ∃ A c, e = .returned (.tuple #[.slice A 2 c, .int .i64 0]) ∧ Sl 1 elInt w' (· < w'.heap.size) (.slice A 2 c) [25, 30] ∧ Below W.heap.size W w' := by
  refine (con_Suspensions awO lv aANN awM mv W hl hm).mono ?_
  rintro e w' ⟨A, n, c, rfl, hs, hb⟩
  rw [aw_sus] at hs ⊢
  obtain ⟨A', c', he, _⟩ := hs.shape
  cases he
  exact ⟨A, c, rfl, hs.keep elInt_good (Same.refl _ _) fun _ h => h.2, hb⟩
theorem aw_squadC (W : World) (v : Value) (h : Sl 3 elTra W (· < W.heap.size) v awL) :
    Calls Try.prog 11 #[v, .string ⟨#[82, 69, 68, 83]⟩, .int .i64 102] W fun e w' => ∃ A c, e = .returned (.slice A 1 c) ∧ Sl 1 elStr w' (· < w'.heap.size) (.slice A 1 c) [aANN] ∧ Below W.heap.size W w' := by
  refine (reg_Squad awL v aREDS 102 W h (by decide)).mono ?_
  rintro e w' ⟨A, n, c, rfl, hs, hb⟩
  rw [aw_squad] at hs
  obtain ⟨A', c', he, _⟩ := hs.shape
  cases he
  exact ⟨A, c, rfl, hs.keep elStr_good (Same.refl _ _) fun _ h => h.2, hb⟩
theorem aw_eligC (W : World) (v : Value) (h : Sl 3 elTra W (· < W.heap.size) v awL) :
    Calls Try.prog 9 #[v, .string ⟨#[65, 78, 78]⟩, .string ⟨#[82, 69, 68, 83]⟩, .int .i64 5] W fun e w' => e = .returned (.bool true) ∧ Below W.heap.size W w' := by
  refine (reg_Eligible awL v aANN aREDS 5 W h).mono ?_
  rintro e w' ⟨rfl, hb⟩
  rw [aw_elig]
  exact ⟨rfl, hb⟩
theorem aw_eqI (W : World) (v v' : Value) (h : Sl 1 elInt W (· < W.heap.size) v [25, 30]) (h' : Sl 1 elInt W (· < W.heap.size) v' [25, 30]) :
    Calls Try.prog 13 #[v, v'] W fun e w' => e = .returned (.bool true) ∧ Below W.heap.size W w' := by
  refine (i64_Equal [25, 30] v v' _ _ W h h').mono ?_
  rintro e w' ⟨rfl, n, rfl⟩
  exact ⟨rfl, Below.drewN_ (Below.refl _ _) n⟩
theorem aw_eqS (W : World) (v v' : Value) (h : Sl 1 elStr W (· < W.heap.size) v [aANN]) (h' : Sl 1 elStr W (· < W.heap.size) v' [aANN]) :
    Calls Try.prog 14 #[v, v'] W fun e w' => e = .returned (.bool true) ∧ Below W.heap.size W w' := by
  refine (str_Equal v v' [aANN] [aANN] _ _ W h h').mono ?_
  rintro e w' ⟨rfl, n, rfl⟩
  exact ⟨rfl, Below.drewN_ (Below.refl _ _) n⟩
set_option maxRecDepth 100000 in
set_option maxHeartbeats 2000000 in
theorem off_awake (w : World) : Calls Try.prog 4 #[] w fun e w' => e = .returned (.bool true) ∧ Below w.heap.size w w' := by
  have HL := Lib.hid (sl_low elTra_good (sl_low elTra_good (aw_rowL w _ rfl) (low_alloc _ awOC)) (low_alloc _ awWC))
  have HO := Lib.hid (sl_low elOff_good (aw_rowO (w.alloc awLC) (w.heap.size + 1) (by simp)) (low_alloc _ awWC))
  have HW := Lib.hid (aw_rowW ((w.alloc awLC).alloc awOC) (w.heap.size + 1 + 1) (by simp))
  have HB := Lib.hid (((low_alloc w awLC).trans ((low_alloc (w.alloc awLC) awOC).mono (by simp))).trans ((low_alloc ((w.alloc awLC).alloc awOC) awWC).mono (by simp; omega)))
  unfold awLC awOC awWC at *
  go_enter Try.func4, Try.ntmps4
  go_wp2_with (first
    | (go_at_call 5; refine (aw_check _ _ _ HW.out HL.out).mono ?_; rintro e w1 ⟨rfl, hb⟩; have HB1 := Lib.hid ((HB.out.trans (hb.mono HB.out.size)).trans ((low_alloc w1 awMC).mono (HB.out.trans (hb.mono HB.out.size)).size)); have HL1 := Lib.hid (sl_low elTra_good (sl_low elTra_good HL.out hb) (low_alloc w1 awMC)); have HO1 := Lib.hid (sl_low elOff_good (sl_low elOff_good HO.out hb) (low_alloc w1 awMC)); have HM1 := Lib.hid (aw_rowM w1 _ rfl); clear hb HL HO HW HB; unfold awMC at *)
    | (go_at_call 6; refine (aw_susp _ _ _ HO1.out HM1.out).mono ?_; rintro e w2 ⟨A2, c2, rfl, hs, hb⟩; have HB2 := Lib.hid ((HB1.out.trans (hb.mono HB1.out.size)).trans ((low_alloc w2 awXC).mono (HB1.out.trans (hb.mono HB1.out.size)).size)); have HL2 := Lib.hid (sl_low elTra_good (sl_low elTra_good HL1.out hb) (low_alloc w2 awXC)); have HS2 := Lib.hid (sl_low elInt_good hs (low_alloc w2 awXC)); have HX2 := Lib.hid (aw_rowX w2 _ rfl); clear hb hs HL1 HO1 HM1 HB1; unfold awXC at *)
    | (go_at_call 13; refine (aw_eqI _ _ _ HS2.out HX2.out).mono ?_; rintro e w3 ⟨rfl, hb⟩; have HB3 := Lib.hid (HB2.out.trans (hb.mono HB2.out.size)); have HL3 := Lib.hid (sl_low elTra_good HL2.out hb); clear hb HL2 HS2 HX2 HB2)
    | (go_at_call 11; refine (aw_squadC _ _ HL3.out).mono ?_; rintro e w4 ⟨A4, c4, rfl, hs, hb⟩; have HB4 := Lib.hid ((HB3.out.trans (hb.mono HB3.out.size)).trans ((low_alloc w4 awSC).mono (HB3.out.trans (hb.mono HB3.out.size)).size)); have HL4 := Lib.hid (sl_low elTra_good (sl_low elTra_good HL3.out hb) (low_alloc w4 awSC)); have HS4 := Lib.hid (sl_low elStr_good hs (low_alloc w4 awSC)); have HX4 := Lib.hid (aw_rowS w4 _ rfl); clear hb hs HL3 HB3; unfold awSC at *)
    | (go_at_call 14; refine (aw_eqS _ _ _ HS4.out HX4.out).mono ?_; rintro e w5 ⟨rfl, hb⟩; have HB5 := Lib.hid (HB4.out.trans (hb.mono HB4.out.size)); have HL5 := Lib.hid (sl_low elTra_good HL4.out hb); clear hb HL4 HS4 HX4 HB4)
    | (go_at_call 9; refine (aw_eligC _ _ HL5.out).mono ?_; rintro e w6 ⟨rfl, hb⟩; have HB6 := Lib.hid (HB5.out.trans (hb.mono HB5.out.size)); clear hb HL5 HB5))
  go_ret
  exact ⟨rfl, HB6.out⟩
end Go.Proofs.Ytajcnjehjkpieaa
