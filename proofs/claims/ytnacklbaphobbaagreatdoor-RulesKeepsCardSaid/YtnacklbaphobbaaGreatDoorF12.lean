/- The reference's cursor: At. -/
import Derived.Test.YtnacklbaphobbaaGreatDoorF11
import Derived.Test.YtnacklbaphobbaaGreatDoorA2
import Derived.Deep.AppendSrc
import Derived.Deep.Upon
set_option linter.unusedSimpArgs false
set_option linter.unusedVariables false
namespace Go.Proofs.YtnacklbaphobbaaGreatDoor
open Go.RowKit

/-- append of a whole slice onto an empty row just made. -/
theorem step_append_all {P : Program} {ops : Array Oper} {o : Oper} {a : Act} {w : World} {K : Act → World → Prop} {Q : Exit → Act → World → Prop} {E : Prop} (hgd : o.guard = none) (s x : Operand) (t : TypeId)
    (ho : o.op = .call { callee := .builtin .append, args := #[s, x], argTypes := #[t, t] })
    {e : TypeId} {size bytes : Nat} (hE : ElemOf P t e size bytes) {α : Type} {R : World → (Nat → Prop) → List Value → α → Prop} (hR : Good R)
    (base : Nat) (ad0 : Addr) (l' : List α) (hs : a.eval s = .slice (some ad0) 0 0) (hown : OwnG size R e base w (.slice (some ad0) 0 0) NoG [])
    (F : Nat → Prop) (A : Option Addr) (n c : Nat) (hx : a.eval x = .slice A n c) (hsl : Sl size R w F (.slice A n c) l')
    (hRF : ∀ w G G' cs x, R w G cs x → R w G' cs x)
    (h1 : ∀ w F cs x, R w F cs x → ∀ u ∈ cs, u.oneCell' = true)
    (h63 : l'.length ≤ maxLen) (hbytes : l'.length * bytes ≤ 140737488355328) (hbase : base ≤ w.heap.size)
    (h : ∀ A' c' w', Sl size R w' (fun b => base ≤ b ∧ b < w'.heap.size) (.slice A' n c') l' → Below base w w' → K (a.put o.dst (.slice A' n c')) w') :
    if Region.wanted o (yielded ops a.tmps) = true then Oper.wp P o a w K Q else E := by
  have hw : Region.wanted o (yielded ops a.tmps) = true := by simp [Region.wanted, hgd]
  rw [if_pos hw]
  have hown0 := hown
  obtain ⟨i, z, e1, e2, e3, e4, e5, e6, e7⟩ := hE
  obtain ⟨A', c', hv, hlc, hcm, hA⟩ := hsl
  injection hv with hv1 hv2 hv3
  subst hv2; subst hv3
  by_cases h0 : 0 < l'.length
  · obtain ⟨b, o', hab, hFb, _⟩ := hA h0
    obtain ⟨css', hl', hsz', hcell', hel''⟩ := Sl.rows (l := l') (b := b) (o := o') (n := l'.length) (c := c) ⟨A', c, by rw [← hab], hlc, hcm, hA⟩ e7
    rw [hv1, hab] at hx
    obtain ⟨css, hlen, ho', hsz, hel'⟩ := hown
    have hcss : css = [] := List.eq_nil_of_length_eq_zero (by simpa using hlen)
    subst hcss
    obtain ⟨v', w', hr, h2, h3, _, h4⟩ := run_append_own_at (P := P) w base t o.type e i z size bytes e1 e2 e3 e4 e5 e6 e7 (.slice (some ad0) 0 0) 0 [] ho' ⟨b, o', none⟩ l'.length c css'.flatten (by rw [flat_len hsz', hl'])
      (fun j u hu => by rw [show (⟨b, o', none⟩ : Addr).add j = ⟨b, o' + j, none⟩ from Addr.add_lit b o' j]; exact hcell' j u hu) (fun u hu => by
        obtain ⟨cs, hc, hu'⟩ := List.mem_flatten.1 hu
        obtain ⟨k, hk⟩ := List.mem_iff_getElem?.1 hc
        have hil : k < l'.length := by have := (List.getElem?_eq_some_iff.1 hk).1; omega
        exact h1 w F cs _ (hel'' k l'[k] cs (List.getElem?_eq_getElem hil) hk) u hu') (by omega) (by simpa using hbytes) hbase
    have hnew : OwnSl size R e base w' v' l' := by
      refine ⟨css', hl', by simpa using h2, hsz', fun k x cs hk hc => ?_⟩
      exact hR.keep (G := NoG) (hRF _ F NoG _ _ (hel'' k x cs hk hc)) (fun _ h => h.elim) fun _ h => h
    have hsl' := hnew.sl hR
    obtain ⟨A2, c2, hv2, _⟩ := hsl'.shape
    subst hv2
    unfold Oper.wp execOp
    simp only [ho, resolve, invoke, builtin, Sem.run_bind, Sem.run_pure, Result.andThen_ok, List.map_toArray, List.map_cons, List.map_nil, hs, hx, hr]
    exact h _ _ _ hsl' (below_own (Below.refl base w) hown0 h3 (Nat.le_refl _) hbase)
  · have hn : l' = [] := List.eq_nil_of_length_eq_zero (by omega)
    subst hn
    have hr : (Builtin.append_ #[t, t] o.type #[.slice (some ad0) 0 0, .slice A 0 c]).run P w = .ok (.slice (some ad0) 0 0) w := by
      cases A with
      | none => exact run_append_nothing w t t o.type e i e1 e2 (some ad0) 0 0 (Nat.le_refl _) _ (Src.ofNil w e1 c)
      | some ad => exact run_append_nothing w t t o.type e i e1 e2 (some ad0) 0 0 (Nat.le_refl _) _ (Src.ofSlice w e1 ad 0 c [] (by simp) (by simp) (by simp))
    simp only [List.length_nil] at hx h hr ⊢
    unfold Oper.wp execOp
    simp only [ho, resolve, invoke, builtin, Sem.run_bind, Sem.run_pure, Result.andThen_ok, List.map_toArray, List.map_cons, List.map_nil, hs, hx, hr]
    exact h (some ad0) 0 w ⟨some ad0, 0, rfl, Nat.le_refl _, by decide, fun h => absurd h (by simp)⟩ (Below.refl _ _)
@[go_sem] theorem build_rcur (x : Int) (A : Option Addr) (n c : Nat) (w : World) : (Instr.build 106 #[(0, .agg #[.int .i64 x, .slice A n c])]).run Tryz.prog w = .ok (.agg #[.int .i64 x, .slice A n c, .int .i64 0, .int .i64 0, .int .i64 0]) w := run_build w 106 _ _ (by kernel_rfl)
theorem elFld_F : ∀ w (G G' : Nat → Prop) cs x, elFld w G cs x → elFld w G' cs x := fun _ _ _ _ _ h => h
def RAtPost (w : World) (x : Lin) (e : Ending) (w' : World) : Prop :=
  ∃ g, e = .returned (.pointer (some ⟨g, 0, none⟩)) ∧ w.heap.size ≤ g ∧ RCurAt w' (fun b => w.heap.size ≤ b ∧ b < w'.heap.size ∧ b ≠ g) g (Cur.start x) ∧ Below w.heap.size w w'
set_option maxRecDepth 100000 in
set_option maxHeartbeats 2000000 in
theorem ref_At (x : Lin) (v : Value) (F : Nat → Prop) (w : World) (h : Sl 3 elFld w F v x.fields) (hF : ∀ b, F b → b < w.heap.size) (hl : x.fields.length ≤ 1000000000) :
    Calls Tryz.prog 52 #[.agg #[.int .i64 x.num, v]] w (RAtPost w x) := by
  obtain ⟨A, c, rfl, hc, hc'⟩ := h.shape
  have hb0 := Blk.new w 55 #[.int .i64 x.num, .slice A x.fields.length c]
  obtain ⟨wp, hwp⟩ : ∃ y, y = w.alloc (.cells #[.int .i64 x.num, .slice A x.fields.length c] 55) := ⟨_, rfl⟩
  have hz : wp.heap.size = w.heap.size + 1 := by rw [hwp]; simp
  have hown : OwnG 3 elFld 83 (w.heap.size + 1) (wp.alloc (.cells #[] 83)).drew (.slice (some ⟨w.heap.size + 1, 0, none⟩) 0 0) NoG [] := by
    have := World.ownsRow_made (base := w.heap.size + 1) (e := 83) (size := 3) wp #[] 0 (by omega) (by decide) rfl
    rw [hz] at this
    exact ⟨[], rfl, this, by simp, by simp⟩
  have hb1 : Below w.heap.size w wp := by rw [hwp]; exact Below.alloc (Below.refl _ _) (Nat.le_refl _) _
  have hb2 : Below w.heap.size w (wp.alloc (.cells #[] 83)).drew := Below.drew (Below.alloc hb1 (by omega) _)
  have hsl : Sl 3 elFld (wp.alloc (.cells #[] 83)).drew F (.slice A x.fields.length c) x.fields := h.keep elFld_good (Same.below hb2 hF) fun _ h => h
  have hzz : w.heap.size + 1 ≤ (wp.alloc (.cells #[] 83)).drew.heap.size := by simp; omega
  have hbk : Blk (wp.alloc (.cells #[] 83)).drew w.heap.size 55 #[.int .i64 x.num, .slice A x.fields.length c] := by rw [hwp]; exact (hb0.alloc _).drew
  rw [hwp] at hown hsl hb2 hzz hbk
  have HBK := Lib.hid hbk
  have HO := Lib.hid hown
  have HS := Lib.hid hsl
  have HB := Lib.hid hb2
  have HZ := Lib.hid hzz
  have h63 : x.fields.length ≤ maxLen := by simp only [maxLen]; omega
  have h64 := hl
  clear h hb0 hF hown hsl hb1 hb2 hz hwp hzz hbk
  go_enter Tryz.func52, Tryz.ntmps52
  go_wp2
  go_region_law (refine step_append_all rfl (.tmp 5) (.tmp 7) _ rfl E_fld elFld_good (w.heap.size + 1) ⟨w.heap.size + 1, 0, none⟩ x.fields rfl HO.out F A x.fields.length c rfl HS.out elFld_F elFld_one h63 (by omega) HZ.out ?_; intro A1 c1 w1 hs1 hb1; have hblk : Blk w1 w.heap.size 55 #[.int .i64 x.num, .slice A x.fields.length c] := (hb1.block _ (by omega)).trans HBK.out; have k0 := hblk.cell 0; have k1 := hblk.cell 1; simp only [List.getElem?_toArray, List.getElem?_cons_zero, List.getElem?_cons_succ] at k0 k1; have HS1 := Lib.hid hs1; have HB1 := Lib.hid hb1; clear hs1 hb1 hblk)
  all_goals
    go_wp2_with fail
    obtain ⟨W2, hW2⟩ : ∃ W, W = w1.alloc (.cells #[.int .i64 x.num, .slice A1 x.fields.length c1, .int .i64 0, .int .i64 0, .int .i64 0] 106) := ⟨_, rfl⟩
    rw [← hW2]
    have hz1 := HB1.out.size
    have hz0 := HZ.out
    have hz2 : W2.heap.size = w1.heap.size + 1 := by rw [hW2]; simp
    have hbl : Below w.heap.size w W2 := by rw [hW2]; exact (HB.out.trans (HB1.out.mono (by omega))).alloc (by omega) _
    have hsm : Sl 3 elFld W2 (fun b => w.heap.size ≤ b ∧ b < W2.heap.size ∧ b ≠ w1.heap.size) (.slice A1 x.fields.length c1) x.fields := by
      rw [hW2]
      exact HS1.out.keep elFld_good (fun b hb => Below.heap_alloc w1 _ b hb.2) fun b hb => ⟨by omega, by simp; omega, by omega⟩
    have hblk : Blk W2 w1.heap.size 106 (rcurCells (Cur.start x) (.slice A1 x.fields.length c1)) := by rw [hW2]; exact Blk.new w1 _ _
    refine bodyPost_ret (v := .pointer (some ⟨w1.heap.size, 0, none⟩)) (by simp [results, Tryz.results52, go_sem]) rfl ⟨_, rfl, by omega, ⟨Nat.zero_le _, ⟨_, hblk, hsm⟩, fun b hb => ⟨hb.2.1, hb.2.2⟩, rfl⟩, hbl⟩
end Go.Proofs.YtnacklbaphobbaaGreatDoor
