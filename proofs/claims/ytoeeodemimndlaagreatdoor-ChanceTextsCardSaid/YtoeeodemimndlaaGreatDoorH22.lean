/- The walk of ChanceTexts: the texts of a distribution agree, and read again they are what they were made of. -/
import Derived.Test.YtoeeodemimndlaaGreatDoorH21
import Derived.Test.YtoeeodemimndlaaGreatDoorP53
import Derived.Test.YtoeeodemimndlaaGreatDoorP1
import Derived.Test.YtoeeodemimndlaaGreatDoorH11
set_option linter.unusedSimpArgs false
set_option linter.unusedVariables false
namespace Go.Proofs.YtoeeodemimndlaaGreatDoor
open Go.RowKit


theorem pieces_no (c : UInt8) : ∀ l : List UInt8, c ∉ l → pieces c l = [l] := by
  intro l
  induction l with
  | nil => intro _; rfl
  | cons b l ih =>
    intro h
    rw [pieces, if_neg (by rintro rfl; simp at h), ih (by simp at h; exact h.2)]
theorem pieces_app (c : UInt8) : ∀ (l r : List UInt8), c ∉ l → pieces c (l ++ c :: r) = l :: pieces c r := by
  intro l
  induction l with
  | nil => intro r _; rw [List.nil_append, pieces, if_pos rfl]
  | cons b l ih =>
    intro r h
    rw [List.cons_append, pieces, if_neg (by rintro rfl; simp at h), ih r (by simp at h; exact h.2)]
theorem pieces_join (c : UInt8) : ∀ (xs : List (List UInt8)), xs ≠ [] → (∀ x ∈ xs, c ∉ x) → pieces c (Lib.join xs [c]) = xs := by
  intro xs
  induction xs with
  | nil => intro h; exact absurd rfl h
  | cons x r ih =>
    intro _ h
    cases r with
    | nil => rw [Lib.join_one]; exact pieces_no c x (h x (by simp))
    | cons y r =>
      have e : Lib.join (x :: y :: r) [c] = x ++ c :: Lib.join (y :: r) [c] := by
        rw [Lib.join_cons, Lib.join_cons]; unfold Lib.joinTail; simp
      rw [e, pieces_app c x _ (h x (by simp)), ih (by simp) fun z hz => h z (by simp [hz])]
def otcGood (r t : Nat) (b : Bool) : Bool := pieceOk (otcW ⟨(r : Int), b, (t : Int)⟩) && decide ((pieceO (otcW ⟨(r : Int), b, (t : Int)⟩)).runs = (r : Int)) && ((pieceO (otcW ⟨(r : Int), b, (t : Int)⟩)).wick == b) && decide ((pieceO (otcW ⟨(r : Int), b, (t : Int)⟩)).wt = (t : Int)) && !((otcW ⟨(r : Int), b, (t : Int)⟩).contains 32)
theorem otcGood_all : (List.range 8).all (fun r => (List.range 16).all fun t => otcGood r (t + 1) true && otcGood r (t + 1) false) = true := by kernel_rfl
theorem otc_read {o : Otc} (h : OkO o) : pieceOk (otcW o) = true ∧ pieceO (otcW o) = o ∧ (32 : UInt8) ∉ otcW o := by
  obtain ⟨r, b, t⟩ := o
  have h1 := h.r0
  have h2 := h.r7
  have h3 := h.w1
  have h4 := h.w16
  dsimp only at h1 h2 h3 h4
  obtain ⟨r, rfl⟩ : ∃ n : Nat, r = (n : Int) := ⟨r.toNat, by omega⟩
  obtain ⟨t, rfl⟩ : ∃ n : Nat, t = (n : Int) := ⟨t.toNat, by omega⟩
  have k1 := List.all_eq_true.1 otcGood_all r (List.mem_range.2 (by omega))
  have k2 := List.all_eq_true.1 k1 (t - 1) (List.mem_range.2 (by omega))
  rw [show t - 1 + 1 = t by omega, Bool.and_eq_true] at k2
  have k3 : otcGood r t b = true := by cases b; exact k2.2; exact k2.1
  unfold otcGood at k3
  simp only [Bool.and_eq_true, decide_eq_true_eq, beq_iff_eq, Bool.not_eq_true', List.contains_eq_mem, decide_eq_false_iff_not] at k3
  obtain ⟨⟨⟨⟨a, e1⟩, e2⟩, e3⟩, e4⟩ := k3
  refine ⟨a, ?_, e4⟩
  generalize pieceO (otcW ⟨(r : Int), b, (t : Int)⟩) = p at *
  obtain ⟨p1, p2, p3⟩ := p
  dsimp only at e1 e2 e3
  rw [e1, e2, e3]
theorem parse_text {d : List Otc} (h : checkD d = 0) : parseC (textC d).1 = (d, 0) := by
  have hok := checkD_ok h
  have ht : textC d = (Lib.join (d.map otcW) [32], 0) := by unfold textC; rw [if_neg (fun k => k h)]
  have hne : d.map otcW ≠ [] := by intro e; have := hok.len.1; have e2 := congrArg List.length e; rw [List.length_map] at e2; simp at e2; rw [e2] at this; simp at this
  have hp : pieces 32 (Lib.join (d.map otcW) [32]) = d.map otcW := pieces_join 32 _ hne fun x hx => by
    obtain ⟨o, ho, rfl⟩ := List.mem_map.1 hx
    exact (otc_read (hok.each o ho)).2.2
  have hm : (d.map otcW).map pieceO = d := by
    rw [List.map_map]
    conv => rhs; rw [← List.map_id d]
    exact List.map_congr_left fun o ho => (otc_read (hok.each o ho)).2.1
  have ha : (d.map otcW).all pieceOk = true := List.all_eq_true.2 fun x hx => by
    obtain ⟨o, ho, rfl⟩ := List.mem_map.1 hx
    exact (otc_read (hok.each o ho)).1
  unfold parseC
  rw [ht]
  dsimp only
  rw [hp, ha, if_neg (by simp), hm, ht, if_neg (by simp)]
theorem parse_none : parseC [] = ([], 4) := by kernel_rfl
set_option maxRecDepth 100000 in
set_option maxHeartbeats 2000000 in
theorem law_CTexts (d : List Otc) (v : Value) (w : World) (hg : GlobN w) (h : Sl 3 elOtc w (· < w.heap.size) v d) :
    Calls Tryz.prog 5 #[v] w fun e w' => e = .returned (.bool true) ∧ Below w.heap.size w w' := by
  obtain ⟨A, c, rfl, hc, hc2⟩ := h.shape
  have HAW := Lib.hid (law42_awake w hg)
  have hin : ∀ W, Below w.heap.size w W → Sl 3 elOtc W (· < W.heap.size) (.slice A d.length c) d := fun W hW => otc_below h hW
  have k1 := fun W (hW : Below w.heap.size w W) => ch_Text d _ W (hg.below hW) (hin W hW)
  have k2 := fun W (hW : Below w.heap.size w W) => ref_Text d _ W (hin W hW)
  have HIN := Lib.hid hin
  have tok0 : True := trivial
  clear h hin
  by_cases h200 : 200 < d.length
  · have hl : (200 : Int) < (d.length : Int) := by omega
    clear k1 k2 hg h200
    go_enter Tryz.func5, Tryz.ntmps5
    go_wp2_with (clear tok0; go_at_call 11; refine HAW.out.mono ?_; rintro e w1 ⟨rfl, hb1⟩; have HB1 := Lib.hid hb1; clear hb1; have tok1 : True := trivial)
    go_ret
    exact ⟨rfl, HB1.out⟩
  have hl : ¬ (200 : Int) < (d.length : Int) := by omega
  clear h200
  by_cases h0 : checkD d = 0
  · have hok := checkD_ok h0
    have ht : textC d = (Lib.join (d.map otcW) [32], 0) := by unfold textC; rw [if_neg (fun k => k h0)]
    have hpt := parse_text h0
    have hlen : (textC d).1.length ≤ 1000 := by
      rw [ht]
      have := join_len (xs := d.map otcW) (sep := [32]) (B := 50) fun x hx => by
        obtain ⟨o, ho, rfl⟩ := List.mem_map.1 hx
        exact otcW_len (hok.each o ho)
      rw [List.length_map] at this
      have := hok.len.2
      simp only [List.length_cons, List.length_nil] at *
      omega
    have he : (textC d).2 = 0 := by rw [ht]
    generalize textC d = z at *
    obtain ⟨t, e0⟩ := z
    dsimp only at k1 k2 hpt hlen he
    subst he
    have k3 := fun W (hW : Below w.heap.size w W) => ch_Parse (S t) W (hg.below hW) (by rw [S_size]; omega)
    rw [S_data, hpt] at k3
    have K1 := Lib.hid k1
    have K2 := Lib.hid k2
    have K3 := Lib.hid k3
    clear k1 k2 k3 hg hok ht hpt hlen h0
    go_enter Tryz.func5, Tryz.ntmps5
    go_wp2_with (first
      | (clear tok0; go_at_call 11; refine HAW.out.mono ?_; rintro e w1 ⟨rfl, hb1⟩; have HB1 := Lib.hid hb1; clear hb1; have tok1 : True := trivial)
      | (clear tok1; go_at_call 19; refine (K1.out _ HB1.out).mono ?_; rintro e w2 ⟨rfl, hb2⟩; have HB2 := Lib.hid (HB1.out.trans (hb2.mono HB1.out.size)); clear hb2; have tok2 : True := trivial)
      | (clear tok2; go_at_call 20; refine (K2.out _ HB2.out).mono ?_; rintro e w3 ⟨rfl, hb3⟩; have HB3 := Lib.hid (HB2.out.trans (hb3.mono HB2.out.size)); clear hb3; have tok3 : True := trivial)
      | (clear tok3; go_at_call 21; refine (K3.out _ HB3.out).mono ?_; rintro e w4 ⟨v4, rfl, hs4, hb4⟩; obtain ⟨A4, c4, rfl, _⟩ := hs4.shape; have HS4 := Lib.hid hs4; have HB4 := Lib.hid (HB3.out.trans (hb4.mono HB3.out.size)); clear hs4 hb4; have tok4 : True := trivial)
      | (clear tok4; go_at_call 22; refine (law_equal d _ _ _ _ _ HS4.out (HIN.out _ HB4.out)).mono ?_; rintro e w5 ⟨rfl, hb5⟩; have HB5 := Lib.hid (HB4.out.trans (hb5.mono HB4.out.size)); clear hb5; have tok5 : True := trivial))
    go_ret
    exact ⟨rfl, HB5.out⟩
  · have ht : textC d = ([], checkD d) := by unfold textC; rw [if_pos h0]
    rw [ht] at k1 k2
    obtain ⟨z9, hz9⟩ : ∃ z9, z9 = checkD d := ⟨_, rfl⟩
    rw [← hz9] at k1 k2 h0
    have k3 := fun W (hW : Below w.heap.size w W) => ch_Parse (S []) W (hg.below hW) (by rw [S_size]; simp)
    rw [S_data, parse_none] at k3
    obtain ⟨t, het⟩ : ∃ t, t = S [] := ⟨_, rfl⟩
    rw [← het] at k1 k2 k3
    have g1 : (z9 != 0) = true := by rw [bne_iff_ne]; exact h0
    have g2 : (z9 == 0) = false := by rw [beq_eq_false_iff_ne]; exact h0
    have K1 := Lib.hid k1
    have K2 := Lib.hid k2
    have K3 := Lib.hid k3
    clear k1 k2 k3 hg ht h0 hz9 het
    dsimp only at K1 K2
    go_enter Tryz.func5, Tryz.ntmps5
    go_wp2_with (first
      | (clear tok0; go_at_call 11; refine HAW.out.mono ?_; rintro e w1 ⟨rfl, hb1⟩; have HB1 := Lib.hid hb1; clear hb1; have tok1 : True := trivial)
      | (clear tok1; go_at_call 19; refine (K1.out _ HB1.out).mono ?_; rintro e w2 ⟨rfl, hb2⟩; have HB2 := Lib.hid (HB1.out.trans (hb2.mono HB1.out.size)); clear hb2; have tok2 : True := trivial)
      | (clear tok2; go_at_call 20; refine (K2.out _ HB2.out).mono ?_; rintro e w3 ⟨rfl, hb3⟩; have HB3 := Lib.hid (HB2.out.trans (hb3.mono HB2.out.size)); clear hb3; have tok3 : True := trivial)
      | (clear tok3; go_at_call 21; refine (K3.out _ HB3.out).mono ?_; rintro e w4 ⟨v4, rfl, hs4, hb4⟩; obtain ⟨A4, c4, rfl, _⟩ := hs4.shape; have HS4 := Lib.hid hs4; have HB4 := Lib.hid (HB3.out.trans (hb4.mono HB3.out.size)); clear hs4 hb4; have tok4 : True := trivial))
    go_ret
    exact ⟨rfl, HB4.out⟩
end Go.Proofs.YtoeeodemimndlaaGreatDoor
