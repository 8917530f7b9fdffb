/- The contracts of the law's helpers: oaks. -/
import Derived.Test.YtfljohhocgaheaaDoorQ7
import Derived.Test.YtfljohhocgaheaaDoorQ5
import Derived.Deep.RegionHeld3
set_option linter.unusedSimpArgs false
set_option linter.unusedVariables false
namespace Go.Proofs.YtfljohhocgaheaaDoor
open Go.RowKit

def oaksQ : Sqd := ⟨[79, 65, 75, 83], [[65, 78, 78], [66, 69, 78]], 1, 2⟩
def sOaks : List UInt8 := [83, 73, 68, 69, 32, 79, 65, 75, 83, 10, 80, 76, 65, 89, 69, 82, 32, 65, 78, 78, 32, 67, 65, 80, 84, 65, 73, 78, 10, 80, 76, 65, 89, 69, 82, 32, 66, 69, 78, 32, 75, 69, 69, 80, 69, 82, 10]
theorem oaks_text : textS oaksQ = (sOaks, 0) := by kernel_rfl
theorem oaks_parse : parseS sOaks = (oaksQ, []) := by kernel_rfl
theorem oaks_check : checkS oaksQ = 0 := by kernel_rfl
theorem oaks_title : titleS oaksQ 1 = [65, 78, 78, 32, 40, 99, 41] := by kernel_rfl
theorem oaks_same : sameS oaksQ oaksQ = true := by kernel_rfl
@[go_sem] theorem build_sq4 (n : ByteArray) (A : Option Addr) (l c : Nat) (a b : Int) (w : World) : (Instr.build 24 #[(0, .string n), (1, .slice A l c), (2, .int .i64 a), (3, .int .i64 b)]).run Tryd.prog w = .ok (.agg #[.string n, .slice A l c, .int .i64 a, .int .i64 b]) w := run_build w 24 _ _ (by kernel_rfl)
theorem own_strs (w : World) (l : List (List UInt8)) (hm : l.length ≤ maxLen) : OwnSl 1 elStr 9 w.heap.size (w.alloc (.cells (l.map fun s => Value.string (S s)).toArray 9)) (.slice (some ⟨w.heap.size, 0, none⟩) l.length l.length) l := by
  have hf : (l.map fun s => [Value.string (S s)]).flatten = l.map fun s => Value.string (S s) := by
    induction l with
    | nil => rfl
    | cons a l ih => rw [List.map_cons, List.map_cons, List.flatten_cons, ih (by simp at hm; omega)]; rfl
  have := own_lit (R := elStr) (size := 1) (e := 9) w (l.map fun s => [Value.string (S s)]) l (by simp) (by simp) hm (fun i a cs h1 h2 => by
    rw [List.getElem?_map, h1] at h2
    simp at h2; subst h2; rfl)
  rw [hf] at this
  exact this
/-- A new side. -/
def SqPost (w : World) (q : Sqd) (e : Ending) (w' : World) : Prop :=
  ∃ pv, e = .returned (sqV q pv) ∧ Sl 1 elStr w' (fun b => w.heap.size ≤ b ∧ b < w'.heap.size) pv q.players ∧ Below w.heap.size w w'
set_option maxRecDepth 100000 in
set_option maxHeartbeats 1000000 in
theorem law_oaks (w : World) : Calls Tryd.prog 27 #[] w (SqPost w oaksQ) := by
  go_enter Tryd.func27, Tryd.ntmps27
  go_wp2
  have hz : (w.alloc (.cells #[.string ⟨#[79, 65, 75, 83]⟩, .slice (some ⟨w.heap.size + 1, 0, none⟩) 2 2, .int .i64 1, .int .i64 2] 24)).heap.size = w.heap.size + 1 := by simp
  have ho := own_strs (w.alloc (.cells #[.string ⟨#[79, 65, 75, 83]⟩, .slice (some ⟨w.heap.size + 1, 0, none⟩) 2 2, .int .i64 1, .int .i64 2] 24)) oaksQ.players (by decide)
  rw [hz] at ho
  refine bodyPost_ret (v := .agg #[.string ⟨#[79, 65, 75, 83]⟩, .slice (some ⟨w.heap.size + 1, 0, none⟩) 2 2, .int .i64 1, .int .i64 2]) (by simp [results, Tryd.results27, go_sem]) rfl ⟨_, rfl, (ho.sl elStr_good).keep elStr_good (Same.refl _ _) (fun b hb => ⟨by have := hb.1; omega, hb.2⟩), Below.alloc (Below.alloc (Below.refl _ _) (Nat.le_refl _) _) (by simp) _⟩

/-- A side that lies below. -/
def Lies (w : World) (q : Sqd) (pv : Value) : Prop := Sl 1 elStr w (· < w.heap.size) pv q.players
theorem Lies.below {w w' : World} {q : Sqd} {pv : Value} (h : Lies w q pv) (hb : Below w.heap.size w w') : Lies w' q pv :=
  h.keep elStr_good (Same.below hb fun _ h => h) fun b h => Nat.lt_of_lt_of_le h hb.size
set_option maxRecDepth 100000 in
set_option maxHeartbeats 4000000 in
theorem law_awake (w : World) (hg : Glob w) : Calls Tryd.prog 10 #[] w fun e w' => e = .returned (.bool true) ∧ Below w.heap.size w w' := by
  have hoaks : ∀ W, Below w.heap.size w W → Calls Tryd.prog 27 #[] W fun e w' => ∃ A c, e = .returned (.agg #[.string ⟨#[79, 65, 75, 83]⟩, .slice A 2 c, .int .i64 1, .int .i64 2]) ∧ Lies w' oaksQ (.slice A 2 c) ∧ Below W.heap.size W w' := fun W hW => by
    refine (law_oaks W).mono ?_
    rintro e w' ⟨pv, rfl, hs, hb⟩
    obtain ⟨A, c, rfl, _⟩ := hs.shape
    exact ⟨A, c, rfl, hs.keep elStr_good (Same.refl _ _) fun b h => h.2, hb⟩
  have htext : ∀ W A c, Below w.heap.size w W → Lies W oaksQ (.slice A 2 c) → Calls Tryd.prog 12 #[.agg #[.string ⟨#[79, 65, 75, 83]⟩, .slice A 2 c, .int .i64 1, .int .i64 2]] W fun e w' => e = .returned (.tuple #[.string ⟨#[83, 73, 68, 69, 32, 79, 65, 75, 83, 10, 80, 76, 65, 89, 69, 82, 32, 65, 78, 78, 32, 67, 65, 80, 84, 65, 73, 78, 10, 80, 76, 65, 89, 69, 82, 32, 66, 69, 78, 32, 75, 69, 69, 80, 69, 82, 10]⟩, .int .i64 0]) ∧ Below W.heap.size W w' := fun W A c hW hs => by
    refine (sq_Text oaksQ (.slice A 2 c) W (hg.below (hW.mono (Nat.le_refl _))) hs (by decide) (by decide) (fun _ => by decide +kernel) (fun _ => by decide)).mono ?_
    rintro e w' ⟨rfl, hb⟩
    rw [oaks_text]
    exact ⟨rfl, hb⟩
  have hparse : ∀ W, Below w.heap.size w W → Calls Tryd.prog 14 #[.string ⟨#[83, 73, 68, 69, 32, 79, 65, 75, 83, 10, 80, 76, 65, 89, 69, 82, 32, 65, 78, 78, 32, 67, 65, 80, 84, 65, 73, 78, 10, 80, 76, 65, 89, 69, 82, 32, 66, 69, 78, 32, 75, 69, 69, 80, 69, 82, 10]⟩] W fun e w' => ∃ A c D d, e = .returned (.tuple #[.agg #[.string ⟨#[79, 65, 75, 83]⟩, .slice A 2 c, .int .i64 1, .int .i64 2], .slice D 0 d]) ∧ Lies w' oaksQ (.slice A 2 c) ∧ Below W.heap.size W w' := fun W hW => by
    refine (sq_Parse (S sOaks) W (hg.below (hW.mono (Nat.le_refl _))) (by decide)).mono ?_
    rintro e w' ⟨pv, dv, rfl, hs, hd, hb⟩
    rw [S_data, oaks_parse] at hs hd ⊢
    obtain ⟨A, c, rfl, _⟩ := hs.shape
    obtain ⟨D, d, rfl, _⟩ := hd.shape
    exact ⟨A, c, D, d, rfl, hs.keep elStr_good (Same.refl _ _) fun b h => h.2, hb⟩
  have hsame : ∀ W A c A' c', Below w.heap.size w W → Lies W oaksQ (.slice A 2 c) → Lies W oaksQ (.slice A' 2 c') → Calls Tryd.prog 19 #[.agg #[.string ⟨#[79, 65, 75, 83]⟩, .slice A 2 c, .int .i64 1, .int .i64 2], .agg #[.string ⟨#[79, 65, 75, 83]⟩, .slice A' 2 c', .int .i64 1, .int .i64 2]] W fun e w' => e = .returned (.bool true) ∧ Below W.heap.size W w' := fun W A c A' c' hW h h' => by
    refine (sq_Same oaksQ oaksQ _ _ W h h').mono ?_
    rintro e w' ⟨rfl, hb⟩
    rw [oaks_same]
    exact ⟨rfl, hb⟩
  have htitle : ∀ W A c, Below w.heap.size w W → Lies W oaksQ (.slice A 2 c) → Calls Tryd.prog 23 #[.agg #[.string ⟨#[79, 65, 75, 83]⟩, .slice A 2 c, .int .i64 1, .int .i64 2], .int .i64 1] W fun e w' => e = .returned (.string ⟨#[65, 78, 78, 32, 40, 99, 41]⟩) ∧ Below W.heap.size W w' := fun W A c hW h => by
    refine (sq_Title oaksQ _ 1 W h (by decide)).mono ?_
    rintro e w' ⟨rfl, hb⟩
    rw [oaks_title]
    exact ⟨rfl, hb⟩
  have HSM := Lib.hid hsame
  have HTI := Lib.hid htitle
  clear hsame htitle
  have HO := Lib.hid hoaks
  have HT := Lib.hid htext
  have HP := Lib.hid hparse
  clear hoaks htext hparse hg
  go_enter Tryd.func10, Tryd.ntmps10
  go_wp2_with (first | (go_at_call 27; refine (HO.out _ (Below.refl _ _)).mono ?_; rintro e w1 ⟨A1, c1, rfl, hl1, hb1⟩; have HL1 := Lib.hid hl1; have HB1 := Lib.hid hb1; clear hl1 hb1) | (go_at_call 12; refine (HT.out _ _ _ HB1.out HL1.out).mono ?_; rintro e w2 ⟨rfl, hb2⟩; have HB2 := Lib.hid (HB1.out.trans (hb2.mono HB1.out.size)); clear hb2) | (go_at_call 14; refine (HP.out _ HB2.out).mono ?_; rintro e w3 ⟨A3, c3, D3, d3, rfl, hl3, hb3⟩; have HL3 := Lib.hid hl3; have HB3 := Lib.hid (HB2.out.trans (hb3.mono HB2.out.size)); clear hl3 hb3))
  have hb4 : Below w.heap.size w (w3.alloc (.cells #[.string ⟨#[79, 65, 75, 83]⟩, .slice A3 2 c3, .int .i64 1, .int .i64 2] 24)) := Below.alloc HB3.out HB3.out.size _
  have hl4 : Lies (w3.alloc (.cells #[.string ⟨#[79, 65, 75, 83]⟩, .slice A3 2 c3, .int .i64 1, .int .i64 2] 24)) oaksQ (.slice A3 2 c3) := HL3.out.below (Below.alloc (Below.refl _ _) (Nat.le_refl _) _)
  have hk4 := Blk.new w3 24 #[.string ⟨#[79, 65, 75, 83]⟩, .slice A3 2 c3, .int .i64 1, .int .i64 2]
  obtain ⟨w4, hw4⟩ : ∃ x, x = w3.alloc (.cells #[.string ⟨#[79, 65, 75, 83]⟩, .slice A3 2 c3, .int .i64 1, .int .i64 2] 24) := ⟨_, rfl⟩
  rw [← hw4] at hb4 hl4 hk4 ⊢
  obtain ⟨g, hg⟩ : ∃ g, g = w3.heap.size := ⟨_, rfl⟩
  rw [← hg] at hk4 ⊢
  obtain ⟨y0, y1, y2, y3, _⟩ := hk4.four
  have HB4 := Lib.hid hb4
  have HL4 := Lib.hid hl4
  have HK4 := Lib.hid hk4
  clear hb4 hl4 hk4 hw4 hg HL1 HL3
  go_region_held3 (fun w' => w'.cell? ⟨g, 0, none⟩ = some (.string ⟨#[79, 65, 75, 83]⟩) ∧ w'.cell? ⟨g, 1, none⟩ = some (.slice A3 2 c3) ∧ w'.cell? ⟨g, 2, none⟩ = some (.int .i64 1) ∧ w'.cell? ⟨g, 3, none⟩ = some (.int .i64 2)) (first | exact ⟨y0, y1, y2, y3⟩ | go_keep) (first | (have _t := tokS; go_at_call 27; refine (HO.out _ HB6.out).mono ?_; rintro e w7 ⟨A7, c7, rfl, hl7, hb7⟩; have hk7 := HK6.out.below hb7 HK6.out.lt; obtain ⟨y0, y1, y2, y3, _⟩ := hk7.four; have HK7 := Lib.hid hk7; clear hk7; have HL7 := Lib.hid hl7; have HB7 := Lib.hid (HB6.out.trans (hb7.mono HB6.out.size)); clear hl7 hb7) | (go_at_call 27; refine (HO.out _ (Below.drew HB4.out)).mono ?_; rintro e w5 ⟨A5, c5, rfl, hl5, hb5⟩; have hk5 := Blk.below (w := w4.drew) HK4.out hb5 HK4.out.lt; obtain ⟨y0, y1, y2, y3, _⟩ := hk5.four; have HK5 := Lib.hid hk5; clear hk5; have HL5 := Lib.hid hl5; have HL45 := Lib.hid (Lies.below (w := w4.drew) HL4.out hb5); have HB5 := Lib.hid ((Below.drew HB4.out).trans (hb5.mono HB4.out.size)); clear hl5 hb5) | (go_at_call 19; refine (HSM.out _ _ _ _ _ HB5.out HL45.out HL5.out).mono ?_; rintro e w6 ⟨rfl, hb6⟩; have hk6 := HK5.out.below hb6 HK5.out.lt; obtain ⟨y0, y1, y2, y3, _⟩ := hk6.four; have HK6 := Lib.hid hk6; clear hk6; have HB6 := Lib.hid (HB5.out.trans (hb6.mono HB5.out.size)); have tokS : True := trivial; clear hb6) | (go_at_call 23; refine (HTI.out _ _ _ HB7.out HL7.out).mono ?_; rintro e w8 ⟨rfl, hb8⟩; have hk8 := HK7.out.below hb8 HK7.out.lt; obtain ⟨y0, y1, y2, y3, _⟩ := hk8.four; clear hk8; have HB8 := Lib.hid (HB7.out.trans (hb8.mono HB7.out.size)); clear hb8))
  all_goals go_wp2
  all_goals go_ret
  all_goals exact ⟨rfl, HB8.out⟩
end Go.Proofs.YtfljohhocgaheaaDoor
