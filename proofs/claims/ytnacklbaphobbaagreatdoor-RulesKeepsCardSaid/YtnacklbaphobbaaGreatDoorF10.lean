/- The reference's cursor: Reject, Close. -/
import Derived.Test.YtnacklbaphobbaaGreatDoorF9
set_option linter.unusedSimpArgs false
set_option linter.unusedVariables false
namespace Go.Proofs.YtnacklbaphobbaaGreatDoor
open Go.RowKit

set_option maxRecDepth 100000 in
set_option maxHeartbeats 2000000 in
theorem rcur_Close (c : Cur) (F : Nat → Prop) (g : Nat) (w : World) (h : RCurAt w F g c) :
    Calls Tryz.prog 55 #[.pointer (some ⟨g, 0, none⟩)] w fun x w' => x = .returned (closeV c.close) ∧ Below w.heap.size w w' := by
  obtain ⟨q, hq⟩ : ∃ q, q = c.close := ⟨_, rfl⟩
  rw [← hq]
  unfold Cur.close at hq
  obtain ⟨fv, hb, hf⟩ := h.blk
  obtain ⟨A, cp, rfl, hc1, hc2⟩ := hf.shape
  have hgl := h.lt
  have HFO := Lib.hid fun b hF => (h.foot b hF).1
  have hcur0 := h.below ((Below.refl w.heap.size w).alloc (Nat.le_refl _) (Obj.cells #[.int .i64 0, .int .i64 0, .int .i64 0] 70))
  have hb0 : Blk (w.alloc (Obj.cells #[.int .i64 0, .int .i64 0, .int .i64 0] 70)) g 106 (rcurCells c (.slice A c.fields.length cp)) := hb.alloc _
  have c0 : (w.alloc (Obj.cells #[.int .i64 0, .int .i64 0, .int .i64 0] 70)).cell? ⟨g, 0, none⟩ = some (.int .i64 c.num) := hb0.cell 0
  have c1 : (w.alloc (Obj.cells #[.int .i64 0, .int .i64 0, .int .i64 0] 70)).cell? ⟨g, 1, none⟩ = some (.slice A c.fields.length cp) := hb0.cell 1
  have c2 : (w.alloc (Obj.cells #[.int .i64 0, .int .i64 0, .int .i64 0] 70)).cell? ⟨g, 2, none⟩ = some (.int .i64 c.next) := hb0.cell 2
  have c4 : (w.alloc (Obj.cells #[.int .i64 0, .int .i64 0, .int .i64 0] 70)).cell? ⟨g, 3, none⟩ = some (.int .i64 c.err) := hb0.cell 3
  have c5 : (w.alloc (Obj.cells #[.int .i64 0, .int .i64 0, .int .i64 0] 70)).cell? ⟨g, 4, none⟩ = some (.int .i64 c.pos) := hb0.cell 4
  have HC0 := Lib.hid hcur0
  have HB0 := Lib.hid hb0
  have HF := Lib.hid hf
  have hok : c.next ≤ c.fields.length := h.ok
  clear hcur0 hb0 hf hb h
  by_cases he : c.err = 0
  · have e0 : (c.err != 0) = false := by rw [he]; rfl
    rw [if_neg (fun h => h he)] at hq
    have HE := Lib.hid he
    have HQ := Lib.hid hq
    clear he hq
    by_cases hlt : c.next < c.fields.length
    · have hm : c.more = true := by unfold Cur.more; rw [decide_eq_true HE.out, decide_eq_true hlt]; rfl
      have HM := Lib.hid hm
      clear hm
      obtain ⟨b, o, cs, rfl, hF, hcl, hcc, hel⟩ := HF.out.at hlt
      obtain ⟨⟨ft, fc, fq⟩, hfe⟩ : ∃ f, f = c.fields[c.next] := ⟨_, rfl⟩
      have HQ' := HQ.out
      rw [List.getElem?_eq_getElem hlt, ← hfe] at HQ'
      rw [← hfe] at hel
      have hel' : cs = [.string (S ft), .int .i64 fc, .bool fq] := hel
      subst hel'
      have y1 : (w.alloc (Obj.cells #[.int .i64 0, .int .i64 0, .int .i64 0] 70)).cell? ⟨b, o + c.next * 3 + 1, none⟩ = some (.int .i64 fc) := (World.cell?_alloc_lt w _ ⟨b, o + c.next * 3 + 1, none⟩ (by have := (HFO.out b hF); exact this)).trans (hcc 1 _ rfl)
      have HQF := Lib.hid HQ'
      clear hfe HQ' HQ hcc hel hcl
      go_enter Tryz.func55, Tryz.ntmps55
      go_wp2_with (go_at_call 83; refine (rcur_More c F g _ HC0.out).mono ?_; rintro e w2 ⟨rfl, n, rfl⟩; rw [HM.out])
      go_region
      go_wp2
      refine bodyPost_ret (v := .tuple #[.agg #[.int .i64 c.num, .int .i64 fc, .int .i64 4], .bool true]) (by simp [results, Tryz.results55, go_sem]) rfl ⟨?_, ?_⟩
      · rw [HQF.out]; rfl
      · (repeat (first | exact Below.refl _ _ | refine Below.setCell ?_ (by simp) _ | refine Below.drewN_ ?_ _ | refine Below.drew ?_ | refine Below.alloc ?_ (by simp) _))
    · have hm : c.more = false := by unfold Cur.more; rw [decide_eq_false hlt, Bool.and_false]
      have HM := Lib.hid hm
      clear hm
      go_enter Tryz.func55, Tryz.ntmps55
      go_wp2_with (go_at_call 83; refine (rcur_More c F g _ HC0.out).mono ?_; rintro e w2 ⟨rfl, n, rfl⟩; rw [HM.out])
      refine bodyPost_ret (v := .tuple #[.agg #[.int .i64 0, .int .i64 0, .int .i64 0], .bool false]) (by simp [results, Tryz.results55, go_sem]) rfl ⟨?_, ?_⟩
      · have := HQ.out
        rw [List.getElem?_eq_none (by omega)] at this
        rw [this]; rfl
      · (repeat (first | exact Below.refl _ _ | refine Below.setCell ?_ (by simp) _ | refine Below.drewN_ ?_ _ | refine Below.drew ?_ | refine Below.alloc ?_ (by simp) _))
  · have e0 : (c.err != 0) = true := by rw [bne_iff_ne]; exact he
    rw [if_pos he] at hq
    have HQ := Lib.hid hq
    clear hq he
    go_enter Tryz.func55, Tryz.ntmps55
    go_wp2
    go_region
    go_wp2
    refine bodyPost_ret (v := .tuple #[.agg #[.int .i64 c.num, .int .i64 c.pos, .int .i64 c.err], .bool true]) (by simp [results, Tryz.results55, go_sem]) rfl ⟨?_, ?_⟩
    · rw [HQ.out]; rfl
    · exact (((Below.refl _ _).alloc (Nat.le_refl _) _).drew)
end Go.Proofs.YtnacklbaphobbaaGreatDoor
