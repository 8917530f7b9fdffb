/- The reference's cursor: Reject, Close. -/
import Derived.Test.YtdgejeiiiholnaaGreatDoorF9
set_option linter.unusedSimpArgs false
set_option linter.unusedVariables false
namespace Go.Proofs.YtdgejeiiiholnaaGreatDoor
open Go.RowKit

set_option maxRecDepth 100000 in
set_option maxHeartbeats 2000000 in
theorem rcur_Reject (c : Cur) (n : Int) (F : Nat → Prop) (g : Nat) (w : World) (h : RCurAt w F g c) :
    Calls Tryz.prog 61 #[.pointer (some ⟨g, 0, none⟩), .int .i64 n] w fun x w' => x = .returned (.tuple #[]) ∧ RCurAt w' F g (c.reject n) ∧ Only g w w' := by
  have H := Lib.hid h
  obtain ⟨fv, hb, hf⟩ := h.blk
  obtain ⟨A, cp, rfl, hc1, hc2⟩ := hf.shape
  have d1 : w.cell? ⟨g, 1, none⟩ = some (.slice A c.fields.length cp) := hb.cell 1
  have d2 : w.cell? ⟨g, 2, none⟩ = some (.int .i64 c.next) := hb.cell 2
  have d3 : w.cell? ⟨g, 3, none⟩ = some (.int .i64 c.err) := hb.cell 3
  have hok : c.next ≤ c.fields.length := h.ok
  have hla := h.last
  unfold lastOf at hla
  have HLA := Lib.hid hla
  have HF := Lib.hid hf
  clear h hb hf hla
  by_cases he : c.err = 0
  · have e1 : (c.err != 0) = false := by rw [he]; rfl
    have HE := Lib.hid he
    clear he
    by_cases hn : n = 0
    · have e0 : (n == 0) = true := by rw [hn]; rfl
      have HN := Lib.hid hn
      clear hn HF
      go_enter Tryz.func61, Tryz.ntmps61
      go_wp2
      refine bodyPost_ret (v := .tuple #[]) (by simp [results, Tryz.results61, go_sem]) rfl ?_
      exact ⟨rfl, by unfold Cur.reject; rw [if_pos HN.out]; exact H.out, Only.refl _ _⟩
    · have e0 : (n == 0) = false := beq_eq_false_iff_ne.2 hn
      have HN := Lib.hid hn
      clear hn
      by_cases hz : c.next = 0
      · have hl0 : c.last = 0 := by rw [HLA.out, if_pos hz]
        have HL0 := Lib.hid hl0
        have e2 : decide ((c.next : Int) > 0) = false := by simp [hz]
        have e3 : (c.next : Int) = 0 := by omega
        rw [e3] at d2
        clear hl0 hz HF e2 e3 hok
        go_enter Tryz.func61, Tryz.ntmps61
        go_wp2_with (go_at_call 97; refine (rcur_fail c n 0 F g w H.out HE.out).mono ?_; rintro e w2 ⟨rfl, hc2, ho2⟩)
        go_end0
        exact ⟨rfl, by unfold Cur.reject; rw [if_neg HN.out, HL0.out]; exact hc2, ho2⟩
      · have hlt : c.next - 1 < c.fields.length := by omega
        obtain ⟨b, o, cs, rfl, hF, hcl, hcc, hel⟩ := HF.out.at hlt
        obtain ⟨⟨ft, fc, fq⟩, hfe⟩ : ∃ f, f = c.fields[c.next - 1] := ⟨_, rfl⟩
        have hlv : c.last = fc := by rw [HLA.out, if_neg hz, List.getElem?_eq_getElem hlt, ← hfe]; rfl
        rw [← hfe] at hel
        have hel' : cs = [.string (S ft), .int .i64 fc, .bool fq] := hel
        subst hel'
        have y1 : w.cell? ⟨b, o + (c.next - 1) * 3 + 1, none⟩ = some (.int .i64 fc) := hcc 1 _ rfl
        obtain ⟨k, hk⟩ : ∃ k, c.next = k + 1 := ⟨c.next - 1, by omega⟩
        rw [hk, Nat.add_sub_cancel] at y1
        rw [hk] at d2 hok
        have e2 : ((k + 1 : Nat) : Int) = (k : Int) + 1 := rfl
        have HLV := Lib.hid hlv
        clear hlv hfe hcc hel hcl hlt hz hk
        go_enter Tryz.func61, Tryz.ntmps61
        go_wp2
        go_region
        go_wp2_with (go_at_call 97; refine (rcur_fail c n fc F g _ (H.out.drewN 1) HE.out).mono ?_; rintro e w2 ⟨rfl, hc2, ho2⟩)
        go_end0
        exact ⟨rfl, by unfold Cur.reject; rw [if_neg HN.out, HLV.out]; exact hc2, (Only.refl g w).drew.trans ho2⟩
  · have e1 : (c.err != 0) = true := by rw [bne_iff_ne]; exact he
    have HE := Lib.hid he
    clear he HF
    go_enter Tryz.func61, Tryz.ntmps61
    go_wp2
    refine bodyPost_ret (v := .tuple #[]) (by simp [results, Tryz.results61, go_sem]) rfl ?_
    exact ⟨rfl, by unfold Cur.reject; split; exact H.out; unfold Cur.fail; rw [if_neg HE.out]; exact H.out, Only.refl _ _⟩

set_option maxRecDepth 100000 in
set_option maxHeartbeats 2000000 in
theorem rcur_Close (c : Cur) (F : Nat → Prop) (g : Nat) (w : World) (h : RCurAt w F g c) :
    Calls Tryz.prog 22 #[.pointer (some ⟨g, 0, none⟩)] w fun x w' => x = .returned (closeV c.close) ∧ Below w.heap.size w w' := by
  obtain ⟨q, hq⟩ : ∃ q, q = c.close := ⟨_, rfl⟩
  rw [← hq]
  unfold Cur.close at hq
  obtain ⟨fv, hb, hf⟩ := h.blk
  obtain ⟨A, cp, rfl, hc1, hc2⟩ := hf.shape
  have hgl := h.lt
  have HFO := Lib.hid fun b hF => (h.foot b hF).1
  have hcur0 := h.below ((Below.refl w.heap.size w).alloc (Nat.le_refl _) (Obj.cells #[.int .i64 0, .int .i64 0, .int .i64 0] 31))
  have hb0 : Blk (w.alloc (Obj.cells #[.int .i64 0, .int .i64 0, .int .i64 0] 31)) g 84 (rcurCells c (.slice A c.fields.length cp)) := hb.alloc _
  have c0 : (w.alloc (Obj.cells #[.int .i64 0, .int .i64 0, .int .i64 0] 31)).cell? ⟨g, 0, none⟩ = some (.int .i64 c.num) := hb0.cell 0
  have c1 : (w.alloc (Obj.cells #[.int .i64 0, .int .i64 0, .int .i64 0] 31)).cell? ⟨g, 1, none⟩ = some (.slice A c.fields.length cp) := hb0.cell 1
  have c2 : (w.alloc (Obj.cells #[.int .i64 0, .int .i64 0, .int .i64 0] 31)).cell? ⟨g, 2, none⟩ = some (.int .i64 c.next) := hb0.cell 2
  have c4 : (w.alloc (Obj.cells #[.int .i64 0, .int .i64 0, .int .i64 0] 31)).cell? ⟨g, 3, none⟩ = some (.int .i64 c.err) := hb0.cell 3
  have c5 : (w.alloc (Obj.cells #[.int .i64 0, .int .i64 0, .int .i64 0] 31)).cell? ⟨g, 4, none⟩ = some (.int .i64 c.pos) := hb0.cell 4
  have HC0 := Lib.hid hcur0
  have HB0 := Lib.hid hb0
  have HF := Lib.hid hf
  have hok : c.next ≤ c.fields.length := h.ok
  clear hcur0 hb0 hf hb h
  by_cases he : c.err = 0
  · have e0 : (c.err != 0) = false := by rw [he]; rfl
    rw [if_neg (fun h => h he)] at hq
    have HE := Lib.hid he
    have HQ := Lib.hid hq
    clear he hq
    by_cases hlt : c.next < c.fields.length
    · have hm : c.more = true := by unfold Cur.more; rw [decide_eq_true HE.out, decide_eq_true hlt]; rfl
      have HM := Lib.hid hm
      clear hm
      obtain ⟨b, o, cs, rfl, hF, hcl, hcc, hel⟩ := HF.out.at hlt
      obtain ⟨⟨ft, fc, fq⟩, hfe⟩ : ∃ f, f = c.fields[c.next] := ⟨_, rfl⟩
      have HQ' := HQ.out
      rw [List.getElem?_eq_getElem hlt, ← hfe] at HQ'
      rw [← hfe] at hel
      have hel' : cs = [.string (S ft), .int .i64 fc, .bool fq] := hel
      subst hel'
      have y1 : (w.alloc (Obj.cells #[.int .i64 0, .int .i64 0, .int .i64 0] 31)).cell? ⟨b, o + c.next * 3 + 1, none⟩ = some (.int .i64 fc) := (World.cell?_alloc_lt w _ ⟨b, o + c.next * 3 + 1, none⟩ (by have := (HFO.out b hF); exact this)).trans (hcc 1 _ rfl)
      have HQF := Lib.hid HQ'
      clear hfe HQ' HQ hcc hel hcl
      go_enter Tryz.func22, Tryz.ntmps22
      go_wp2_with (go_at_call 20; refine (rcur_More c F g _ HC0.out).mono ?_; rintro e w2 ⟨rfl, n, rfl⟩; rw [HM.out])
      go_region
      go_wp2
      refine bodyPost_ret (v := .tuple #[.agg #[.int .i64 c.num, .int .i64 fc, .int .i64 4], .bool true]) (by simp [results, Tryz.results22, go_sem]) rfl ⟨?_, ?_⟩
      · rw [HQF.out]; rfl
      · (repeat (first | exact Below.refl _ _ | refine Below.setCell ?_ (by simp) _ | refine Below.drewN_ ?_ _ | refine Below.drew ?_ | refine Below.alloc ?_ (by simp) _))
    · have hm : c.more = false := by unfold Cur.more; rw [decide_eq_false hlt, Bool.and_false]
      have HM := Lib.hid hm
      clear hm
      go_enter Tryz.func22, Tryz.ntmps22
      go_wp2_with (go_at_call 20; refine (rcur_More c F g _ HC0.out).mono ?_; rintro e w2 ⟨rfl, n, rfl⟩; rw [HM.out])
      refine bodyPost_ret (v := .tuple #[.agg #[.int .i64 0, .int .i64 0, .int .i64 0], .bool false]) (by simp [results, Tryz.results22, go_sem]) rfl ⟨?_, ?_⟩
      · have := HQ.out
        rw [List.getElem?_eq_none (by omega)] at this
        rw [this]; rfl
      · (repeat (first | exact Below.refl _ _ | refine Below.setCell ?_ (by simp) _ | refine Below.drewN_ ?_ _ | refine Below.drew ?_ | refine Below.alloc ?_ (by simp) _))
  · have e0 : (c.err != 0) = true := by rw [bne_iff_ne]; exact he
    rw [if_pos he] at hq
    have HQ := Lib.hid hq
    clear hq he
    go_enter Tryz.func22, Tryz.ntmps22
    go_wp2
    go_region
    go_wp2
    refine bodyPost_ret (v := .tuple #[.agg #[.int .i64 c.num, .int .i64 c.pos, .int .i64 c.err], .bool true]) (by simp [results, Tryz.results22, go_sem]) rfl ⟨?_, ?_⟩
    · rw [HQ.out]; rfl
    · exact (((Below.refl _ _).alloc (Nat.le_refl _) _).drew)
end Go.Proofs.YtdgejeiiiholnaaGreatDoor
