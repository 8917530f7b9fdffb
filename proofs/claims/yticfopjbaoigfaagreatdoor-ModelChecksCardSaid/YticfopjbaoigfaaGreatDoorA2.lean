/- The contract of text.At. -/
import Derived.Test.YticfopjbaoigfaaGreatDoorA
set_option linter.unusedSimpArgs false
set_option linter.unusedVariables false
namespace Go.Proofs.YticfopjbaoigfaaGreatDoor
open Go.RowKit

@[go_sem] theorem build_cur (x : Int) (A : Option Addr) (n c : Nat) (w : World) : (Instr.build 133 #[(0, .agg #[.int .i64 x, .slice A n c])]).run Tryz.prog w = .ok (.agg #[.int .i64 x, .slice A n c, .int .i64 0, .int .i64 0, .int .i64 0, .int .i64 0]) w := run_build w 133 _ _ (by kernel_rfl)
def AtPost (w : World) (x : Lin) (e : Ending) (w' : World) : Prop :=
  ∃ g, e = .returned (.pointer (some ⟨g, 0, none⟩)) ∧ w.heap.size ≤ g ∧ CurAt w' (fun b => w.heap.size ≤ b ∧ b < w'.heap.size ∧ b ≠ g) g (Cur.start x) ∧ Below w.heap.size w w'
set_option maxRecDepth 100000 in
set_option maxHeartbeats 2000000 in
theorem text_At (x : Lin) (v : Value) (F : Nat → Prop) (w : World) (h : Sl 3 elFld w F v x.fields) (hF : ∀ b, F b → b < w.heap.size) (hl : x.fields.length ≤ 1000000000) :
    Calls Tryz.prog 66 #[.agg #[.int .i64 x.num, v]] w (AtPost w x) := by
  obtain ⟨A, c, rfl, hc, hc'⟩ := h.shape
  obtain ⟨m, hm⟩ : ∃ m, m = x.fields.length := ⟨_, rfl⟩
  rw [← hm] at h hl hc ⊢
  have hcl : Calls Tryz.prog 101 #[.slice A m c] (w.alloc (.cells #[.int .i64 x.num, .slice A m c] 78)) (SlPost 3 elFld (w.alloc (.cells #[.int .i64 x.num, .slice A m c] 78)) x.fields) :=
    fld_Clone _ x.fields F _ (h.keep elFld_good (Same.below (Below.alloc (Below.refl w.heap.size w) (Nat.le_refl _) _) hF) fun _ h => h) (fun b hb => by have := hF b hb; simp; omega) (by omega)
  have hb0 := Blk.new w 78 #[.int .i64 x.num, .slice A m c]
  have HCL := Lib.hid hcl
  have HB := Lib.hid hb0
  have HM := Lib.hid hm
  clear h hcl hb0 hm
  go_enter Tryz.func66, Tryz.ntmps66
  go_wp2_with (go_at_call 101; refine HCL.out.mono ?_; rintro e w2 ⟨v2, rfl, hs2, hb2⟩; obtain ⟨A2, c2, rfl, hc2, hd2⟩ := hs2.shape; have hblk := HB.out.below hb2 (by simp); have y0 := hblk.cell 0; have y1 := hblk.cell 1; have f1 := hblk.frozen 1; simp only [List.getElem?_toArray, List.getElem?_cons_zero, List.getElem?_cons_succ] at y0 y1; have HBK := Lib.hid hblk; have HS2 := Lib.hid hs2; have HB2 := Lib.hid hb2; clear hblk hs2 hb2)
  have hs2 := HS2.out
  have hb2 := HB2.out
  have hz : (w.alloc (.cells #[.int .i64 x.num, .slice A m c] 78)).heap.size = w.heap.size + 1 := by simp
  obtain ⟨W1, hW1⟩ : ∃ W, W = w2.setCell ⟨w.heap.size, 1, none⟩ (.slice A2 x.fields.length c2) := ⟨_, rfl⟩
  have hsz : W1.heap.size = w2.heap.size := by rw [hW1]; simp [World.setCell]
  rw [← hW1, ← hsz]
  obtain ⟨W2, hW2⟩ : ∃ W, W = W1.alloc (.cells #[.int .i64 x.num, .slice A2 x.fields.length c2, .int .i64 0, .int .i64 0, .int .i64 0, .int .i64 0] 133) := ⟨_, rfl⟩
  have hsz2 : W2.heap.size = W1.heap.size + 1 := by rw [hW2]; simp
  have hg := hb2.size
  rw [hz] at hg hs2 hb2
  have hsame : Same (fun b => w.heap.size + 1 ≤ b ∧ b < w2.heap.size) w2 W2 := fun b hb => by
    rw [hW2, Below.heap_alloc W1 _ b (by omega), hW1]
    exact Below.heap_setCell w2 _ _ b (by show b ≠ w.heap.size; omega)
  have hbel : Below w.heap.size w W2 := by
    rw [hW2, hW1]
    have h1 : Below w.heap.size w w2 := ⟨hb2.os, hb2.tape, hb2.output, by omega, fun k hk => (hb2.block k (by omega)).trans (Below.heap_alloc w _ k hk)⟩
    exact Below.alloc (Below.setCell h1 (Nat.le_refl _) _) (by simp [World.setCell]; omega) _
  rw [← hW2]
  refine bodyPost_ret (v := .pointer (some ⟨W1.heap.size, 0, none⟩)) (by simp [results, Tryz.results66, go_sem]) rfl ⟨_, rfl, by omega, ⟨Nat.zero_le _, ⟨.slice A2 x.fields.length c2, by rw [hW2]; exact Blk.new W1 _ _, hs2.keep elFld_good hsame fun b hb => ⟨by omega, by omega, by omega⟩⟩, fun b hb => ⟨hb.2.1, hb.2.2⟩⟩, hbel⟩
end Go.Proofs.YticfopjbaoigfaaGreatDoor
