/- Several texts of this family in one: A A2 S Q1 Q2 T3 T4 T6 QG Q3 H10 H11 S2 J1 J2 J3 J5 P62 P64 J6 J7 J8 J9 J10. -/
import Derived.Test.YtglkejlimeakbaaGreatDoorGM1
import Derived.Test.YtglkejlimeakbaaGreatDoorGM0
import Derived.Deep.RegionLaw
import Derived.Deep.AppendSrc
import Derived.Deep.Upon
import Derived.Test.YtglkejlimeakbaaGreatDoorSort
import Derived.Deep.RegionHeld3
import Derived.Deep.CutBlock
import Derived.Deep.DeepCutAuto
import Derived.BigQuiet
set_option linter.unusedSimpArgs false
set_option linter.unusedVariables false
namespace Go.Proofs.YtglkejlimeakbaaGreatDoor
open Go.RowKit

theorem flat_len {css : List (List Value)} {size : Nat} (h : ∀ cs ∈ css, cs.length = size) : css.flatten.length = css.length * size := by
  induction css with
  | nil => simp
  | cons x css ih => rw [List.flatten_cons, List.length_append, ih (fun cs hc => h cs (by simp [hc])), h x (by simp), List.length_cons, Nat.succ_mul]; omega

/-- The cells of a slice that is not empty. -/
theorem Sl.rows {α : Type} {size : Nat} {R : World → (Nat → Prop) → List Value → α → Prop} {w : World} {F : Nat → Prop} {b o n c : Nat} {l : List α} (h : Sl size R w F (.slice (some ⟨b, o, none⟩) n c) l) (hs : 0 < size) :
    ∃ css : List (List Value), css.length = l.length ∧ (∀ cs ∈ css, cs.length = size) ∧ (∀ j u, css.flatten[j]? = some u → w.cell? ⟨b, o + j, none⟩ = some u) ∧
      (∀ (i : Nat) (a : α) (cs : List Value), l[i]? = some a → css[i]? = some cs → R w F cs a) := by
  have key : ∀ m, m ≤ l.length → ∃ css : List (List Value), css.length = m ∧ (∀ cs ∈ css, cs.length = size) ∧ (∀ j u, css.flatten[j]? = some u → w.cell? ⟨b, o + j, none⟩ = some u) ∧
      (∀ (i : Nat) (a : α) (cs : List Value), l[i]? = some a → css[i]? = some cs → R w F cs a) := by
    intro m
    induction m with
    | zero => intro _; exact ⟨[], rfl, by simp, by simp, by simp⟩
    | succ m ih =>
      intro hm
      obtain ⟨css, h1, h2, h3, h4⟩ := ih (by omega)
      obtain ⟨b', o', cs, e, hF, hcl, hcc, hel⟩ := h.at (k := m) (by omega)
      simp only [Option.some.injEq, Addr.mk.injEq] at e
      obtain ⟨rfl, rfl, _⟩ := e
      have hfl : css.flatten.length = m * size := by
        rw [flat_len h2, h1]
      refine ⟨css ++ [cs], by simp [h1], ?_, ?_, ?_⟩
      · intro c hc
        rcases List.mem_append.1 hc with hc | hc
        · exact h2 c hc
        · simp at hc; subst hc; exact hcl
      · intro j u hu
        rw [List.flatten_append, List.flatten_singleton] at hu
        by_cases hj : j < css.flatten.length
        · rw [List.getElem?_append_left hj] at hu; exact h3 j u hu
        · rw [List.getElem?_append_right (by omega)] at hu
          have := hcc (j - css.flatten.length) u hu
          rw [hfl] at this hj
          rw [show o + m * size + (j - m * size) = o + j from by omega] at this
          exact this
      · intro i a c hi hc
        by_cases hil : i < css.length
        · rw [List.getElem?_append_left hil] at hc; exact h4 i a c hi hc
        · have hi2 := (List.getElem?_eq_some_iff.1 hc).1
          have : i = m := by simp at hi2; omega
          subst this
          rw [List.getElem?_append_right (by omega)] at hc
          rw [h1, Nat.sub_self] at hc
          simp at hc; subst hc
          rw [List.getElem?_eq_getElem (by omega)] at hi
          obtain rfl := Option.some.inj hi
          exact hel
  exact key l.length (Nat.le_refl _)

/-- append of all elements of a slice that is not nil. -/
theorem wpList_append_all {P : Program} (w : World) {ops : Array Oper} {rest : List Oper} {o : Oper} {a : Act} {Q : Exit → Act → World → Prop} (hgd : o.guard = none) (s x : Operand) (t : TypeId)
    (ho : o.op = .call { callee := .builtin .append, args := #[s, x], argTypes := #[t, t] })
    {e : TypeId} {size bytes : Nat} (hE : ElemOf P t e size bytes) {α : Type} {R : World → (Nat → Prop) → List Value → α → Prop} (hR : Good R)
    (base : Nat) (v : Value) (G : Nat → Prop) (l l' : List α) (hs : a.eval s = v) (hown : OwnG size R e base w v G l)
    (F : Nat → Prop) (ad : Addr) (n c : Nat) (hx : a.eval x = .slice (some ad) n c) (hsl : Sl size R w F (.slice (some ad) n c) l') (hF : ∀ b, F b → G b)
    (h1 : ∀ w F cs x, R w F cs x → ∀ u ∈ cs, u.oneCell' = true) (hG : ∀ b, G b → b < w.heap.size ∧ v.ownBlock ≠ some b)
    (h63 : l.length + l'.length ≤ maxLen) (hbytes : (l.length + l'.length) * bytes ≤ 140737488355328) (hbase : base ≤ w.heap.size)
    (h : ∀ v' w', OwnG size R e base w' v' G (l ++ l') → w.grownBy w' v.ownBlock → (v'.ownBlock = v.ownBlock ∨ v'.ownBlock = some w.heap.size) → wpList P ops Q rest (a.put o.dst v') w') : wpList P ops Q (o :: rest) a w := by
  obtain ⟨i, z, e1, e2, e3, e4, e5, e6, e7⟩ := hE
  obtain ⟨css, hlen, ho', hsz, hel'⟩ := hown
  obtain ⟨A', c', hv, hlc, hcm, hA⟩ := hsl
  injection hv with hv1 hv2 hv3
  subst hv2; subst hv3
  obtain ⟨css', hl', hsz', hcell', hel''⟩ : ∃ css' : List (List Value), css'.length = l'.length ∧ (∀ cs ∈ css', cs.length = size) ∧ (∀ j u, css'.flatten[j]? = some u → w.cell? (ad.add j) = some u) ∧
      (∀ (i : Nat) (a : α) (cs : List Value), l'[i]? = some a → css'[i]? = some cs → R w F cs a) := by
    by_cases h0 : 0 < l'.length
    · obtain ⟨b, o, hab, hFb, _⟩ := hA h0
      have hab' : ad = ⟨b, o, none⟩ := Option.some.inj (hv1.trans hab)
      subst hab'
      obtain ⟨css', a1, a2, a3, a4⟩ := Sl.rows (l := l') (b := b) (o := o) (n := l'.length) (c := c) ⟨A', c, by rw [hv1], hlc, hcm, hA⟩ e7
      refine ⟨css', a1, a2, fun j u hu => ?_, a4⟩
      have hadd : (⟨b, o, none⟩ : Addr).add j = ⟨b, o + j, none⟩ := Addr.add_lit b o j
      rw [hadd]; exact a3 j u hu
    · have : l' = [] := List.eq_nil_of_length_eq_zero (by omega)
      subst this
      exact ⟨[], rfl, by simp, by simp, by simp⟩
  obtain ⟨v', w', hr, h2, h3, _, h4⟩ := run_append_own_at (P := P) w base t o.type e i z size bytes e1 e2 e3 e4 e5 e6 e7 v l.length css.flatten ho' ad l'.length c css'.flatten (by rw [flat_len hsz', hl'])
    hcell' (fun u hu => by
      obtain ⟨cs, hc, hu'⟩ := List.mem_flatten.1 hu
      obtain ⟨i, hi⟩ := List.mem_iff_getElem?.1 hc
      have hil : i < l'.length := by have := (List.getElem?_eq_some_iff.1 hi).1; omega
      exact h1 w F cs _ (hel'' i l'[i] cs (List.getElem?_eq_getElem hil) hi) u hu') h63 hbytes hbase
  have hS : Same G w w' := Same.grown h3 fun b hb => ⟨(hG b hb).1, fun e => (hG b hb).2 e.symm⟩
  refine wpList_plain hgd fun K hK => ?_
  unfold Oper.wp execOp
  simp only [ho, resolve, invoke, builtin, Sem.run_bind, Sem.run_pure, Result.andThen_ok, List.map_toArray, List.map_cons, List.map_nil, hs, hx, hr]
  refine hK _ _ (h v' w' ⟨css ++ css', by simp [hlen, hl'], ?_, ?_, ?_⟩ h3 h4)
  · rw [List.length_append, List.flatten_append]; exact h2
  · intro cs hc
    rcases List.mem_append.1 hc with hc | hc
    · exact hsz cs hc
    · exact hsz' cs hc
  · intro i x cs hi hc
    by_cases hil : i < l.length
    · rw [List.getElem?_append_left hil] at hi
      rw [List.getElem?_append_left (by omega)] at hc
      exact hR.keep (hel' i x cs hi hc) hS fun _ h => h
    · rw [List.getElem?_append_right (by omega)] at hi
      rw [List.getElem?_append_right (by omega), hlen] at hc
      exact hR.keep (hR.keep (hel'' _ x cs hi hc) (Same.refl _ _) hF) hS fun _ h => h

def SlPost {α : Type} (size : Nat) (R : World → (Nat → Prop) → List Value → α → Prop) (w : World) (l : List α) (e : Ending) (w' : World) : Prop :=
  ∃ v, e = .returned v ∧ Sl size R w' (fun b => w.heap.size ≤ b ∧ b < w'.heap.size) v l ∧ Below w.heap.size w w'
theorem elFld_one : ∀ w F cs x, elFld w F cs x → ∀ u ∈ cs, u.oneCell' = true := by
  rintro w F cs x rfl
  exact oneCells rfl
theorem elFld_any {size base e : Nat} {w : World} {v : Value} {G : Nat → Prop} {l : List Fld} (h : OwnG size elFld e base w v G l) : OwnSl size elFld e base w v l := h
set_option maxRecDepth 100000 in
set_option maxHeartbeats 2000000 in
theorem fld_Clone (v : Value) (l : List Fld) (F : Nat → Prop) (w : World) (h : Sl 3 elFld w F v l) (hF : ∀ b, F b → b < w.heap.size) (hl : l.length ≤ 1000000000) :
    Calls Tryz.prog 57 #[v] w (SlPost 3 elFld w l) := by
  obtain ⟨A, c, rfl, hc, hc'⟩ := h.shape
  have H := Lib.hid h
  clear h
  cases A with
  | none =>
    have h0 : l = [] := by
      obtain ⟨A', c', hv, _, _, hA⟩ := H.out
      injection hv with hv1
      cases l with
      | nil => rfl
      | cons a l => obtain ⟨b, o, he, _⟩ := hA (by simp); rw [← hv1] at he; cases he
    subst h0
    have HE := fun W => @Lib.run_eql_slice_nil (P := Tryz.prog) W 54 87 none 0 c 0 0 rfl
    go_enter Tryz.func57, Tryz.ntmps57
    go_wp2
    refine bodyPost_ret (v := .slice none 0 0) (by simp [results, Tryz.results57, go_sem]) rfl ⟨_, rfl, Sl.nil _ _, Below.refl _ _⟩
  | some ad =>
    have HE := fun W => @Lib.run_eql_slice_nil (P := Tryz.prog) W 54 87 (some ad) l.length c 0 0 rfl
    have hown : OwnG 3 elFld 87 w.heap.size (w.alloc (.cells #[] 87)) (.slice (some ⟨w.heap.size, 0, none⟩) 0 0) F [] := ⟨[], rfl, World.ownsRow_made w #[] 0 (Nat.le_refl _) (by decide) rfl, by simp, by simp⟩
    have hsz : (w.alloc (.cells #[] 87)).heap.size = w.heap.size + 1 := by simp
    have hsl : Sl 3 elFld (w.alloc (.cells #[] 87)) F (.slice (some ad) l.length c) l := H.out.keep elFld_good (Same.below (Below.alloc (Below.refl w.heap.size w) (Nat.le_refl _) _) hF) fun _ h => h
    have hGG : ∀ b, F b → b < (w.alloc (.cells #[] 87)).heap.size ∧ (Value.slice (some ⟨w.heap.size, 0, none⟩) 0 0).ownBlock ≠ some b := fun b hb => by
      have h1 := hF b hb
      refine ⟨by omega, fun e => ?_⟩
      have h2 : w.heap.size = b := by injection e
      omega
    have HO := Lib.hid hown
    have HS := Lib.hid hsl
    clear hown hsl
    go_enter Tryz.func57, Tryz.ntmps57
    go_wp2_with (at_builtin; go_loud (refine wpList_append_all _ rfl (.tmp 5) (.tmp 6) _ rfl E_fld elFld_good w.heap.size _ F [] l rfl HO.out F ad l.length c rfl HS.out (fun _ h => h) elFld_one hGG (by simp [maxLen]; omega) (by simp; omega) (by omega) ?_); intro v1 w1 hown1 hg1 hat1)
    refine bodyPost_ret (v := v1) (by simp [results, Tryz.results57, go_sem]) rfl ⟨_, rfl, ?_, ?_⟩
    · exact (elFld_any hown1).sl elFld_good
    · exact below_own (Below.alloc (Below.refl w.heap.size w) (Nat.le_refl _) _) HO.out hg1 (Nat.le_refl _) (by omega)
end Go.Proofs.YtglkejlimeakbaaGreatDoor

namespace Go.Proofs.YtglkejlimeakbaaGreatDoor
open Go.RowKit

@[go_sem] theorem build_cur (x : Int) (A : Option Addr) (n c : Nat) (w : World) : (Instr.build 101 #[(0, .agg #[.int .i64 x, .slice A n c])]).run Tryz.prog w = .ok (.agg #[.int .i64 x, .slice A n c, .int .i64 0, .int .i64 0, .int .i64 0, .int .i64 0]) w := run_build w 101 _ _ (by kernel_rfl)
def AtPost (w : World) (x : Lin) (e : Ending) (w' : World) : Prop :=
  ∃ g, e = .returned (.pointer (some ⟨g, 0, none⟩)) ∧ w.heap.size ≤ g ∧ CurAt w' (fun b => w.heap.size ≤ b ∧ b < w'.heap.size ∧ b ≠ g) g (Cur.start x) ∧ Below w.heap.size w w'
set_option maxRecDepth 100000 in
set_option maxHeartbeats 2000000 in
theorem text_At (x : Lin) (v : Value) (F : Nat → Prop) (w : World) (h : Sl 3 elFld w F v x.fields) (hF : ∀ b, F b → b < w.heap.size) (hl : x.fields.length ≤ 1000000000) :
    Calls Tryz.prog 25 #[.agg #[.int .i64 x.num, v]] w (AtPost w x) := by
  obtain ⟨A, c, rfl, hc, hc'⟩ := h.shape
  obtain ⟨m, hm⟩ : ∃ m, m = x.fields.length := ⟨_, rfl⟩
  rw [← hm] at h hl hc ⊢
  have hcl : Calls Tryz.prog 57 #[.slice A m c] (w.alloc (.cells #[.int .i64 x.num, .slice A m c] 56)) (SlPost 3 elFld (w.alloc (.cells #[.int .i64 x.num, .slice A m c] 56)) x.fields) :=
    fld_Clone _ x.fields F _ (h.keep elFld_good (Same.below (Below.alloc (Below.refl w.heap.size w) (Nat.le_refl _) _) hF) fun _ h => h) (fun b hb => by have := hF b hb; simp; omega) (by omega)
  have hb0 := Blk.new w 56 #[.int .i64 x.num, .slice A m c]
  have HCL := Lib.hid hcl
  have HB := Lib.hid hb0
  have HM := Lib.hid hm
  clear h hcl hb0 hm
  go_enter Tryz.func25, Tryz.ntmps25
  go_wp2_with (go_at_call 57; refine HCL.out.mono ?_; rintro e w2 ⟨v2, rfl, hs2, hb2⟩; obtain ⟨A2, c2, rfl, hc2, hd2⟩ := hs2.shape; have hblk := HB.out.below hb2 (by simp); have y0 := hblk.cell 0; have y1 := hblk.cell 1; have f1 := hblk.frozen 1; simp only [List.getElem?_toArray, List.getElem?_cons_zero, List.getElem?_cons_succ] at y0 y1; have HBK := Lib.hid hblk; have HS2 := Lib.hid hs2; have HB2 := Lib.hid hb2; clear hblk hs2 hb2)
  have hs2 := HS2.out
  have hb2 := HB2.out
  have hz : (w.alloc (.cells #[.int .i64 x.num, .slice A m c] 56)).heap.size = w.heap.size + 1 := by simp
  obtain ⟨W1, hW1⟩ : ∃ W, W = w2.setCell ⟨w.heap.size, 1, none⟩ (.slice A2 x.fields.length c2) := ⟨_, rfl⟩
  have hsz : W1.heap.size = w2.heap.size := by rw [hW1]; simp [World.setCell]
  rw [← hW1, ← hsz]
  obtain ⟨W2, hW2⟩ : ∃ W, W = W1.alloc (.cells #[.int .i64 x.num, .slice A2 x.fields.length c2, .int .i64 0, .int .i64 0, .int .i64 0, .int .i64 0] 101) := ⟨_, rfl⟩
  have hsz2 : W2.heap.size = W1.heap.size + 1 := by rw [hW2]; simp
  have hg := hb2.size
  rw [hz] at hg hs2 hb2
  have hsame : Same (fun b => w.heap.size + 1 ≤ b ∧ b < w2.heap.size) w2 W2 := fun b hb => by
    rw [hW2, Below.heap_alloc W1 _ b (by omega), hW1]
    exact Below.heap_setCell w2 _ _ b (by show b ≠ w.heap.size; omega)
  have hbel : Below w.heap.size w W2 := by
    rw [hW2, hW1]
    have h1 : Below w.heap.size w w2 := ⟨hb2.os, hb2.tape, hb2.output, by omega, fun k hk => (hb2.block k (by omega)).trans (Below.heap_alloc w _ k hk)⟩
    exact Below.alloc (Below.setCell h1 (Nat.le_refl _) _) (by simp [World.setCell]; omega) _
  rw [← hW2]
  refine bodyPost_ret (v := .pointer (some ⟨W1.heap.size, 0, none⟩)) (by simp [results, Tryz.results25, go_sem]) rfl ⟨_, rfl, by omega, ⟨Nat.zero_le _, ⟨.slice A2 x.fields.length c2, by rw [hW2]; exact Blk.new W1 _ _, hs2.keep elFld_good hsame fun b hb => ⟨by omega, by omega, by omega⟩⟩, fun b hb => ⟨hb.2.1, hb.2.2⟩⟩, hbel⟩
end Go.Proofs.YtglkejlimeakbaaGreatDoor

namespace Go.Proofs.YtglkejlimeakbaaGreatDoor
open Go.RowKit

end Go.Proofs.YtglkejlimeakbaaGreatDoor

namespace Go.Proofs.YtglkejlimeakbaaGreatDoor
open Go.RowKit

end Go.Proofs.YtglkejlimeakbaaGreatDoor

namespace Go.Proofs.YtglkejlimeakbaaGreatDoor
open Go.RowKit

end Go.Proofs.YtglkejlimeakbaaGreatDoor

namespace Go.Proofs.YtglkejlimeakbaaGreatDoor
open Go.RowKit

theorem ret_q {q : List UInt8 × Nat × Bool} (x : List UInt8) (m : Nat) (b : Bool) {n : Int} (h : q = (x, m, b)) (hn : n = m) : Ending.returned (.tuple #[.string (S x), .int .i64 n, .bool b]) = .returned (.tuple #[.string (S q.1), .int .i64 q.2.1, .bool q.2.2]) := by rw [h, hn]
theorem byte_eq {c : UInt8} (n : UInt8) (h : (c.toNat : Int) = (n.toNat : Int)) : c = n := UInt8.toNat_inj.1 (by omega)
set_option maxRecDepth 100000 in
set_option maxHeartbeats 1000000 in
theorem text_quoted (s : ByteArray) (i : Nat) (w : World) (hi : i < s.size) (hs : s.size ≤ 140737488351232) :
    Calls Tryz.prog 104 #[.string s, .int .i64 i] w fun e w' =>
      e = .returned (.tuple #[.string (S (quotedAt s (i + 1) []).1), .int .i64 (quotedAt s (i + 1) []).2.1, .bool (quotedAt s (i + 1) []).2.2]) ∧ Below w.heap.size w w' := by
  have HQ : ∃ q, q = quotedAt s (i + 1) [] := ⟨_, rfl⟩
  obtain ⟨q, hq⟩ := HQ
  rw [← hq]
  have HQ := Lib.hid hq
  clear hq
  go_enter Tryz.func104, Tryz.ntmps104
  go_wp2
  go_loopw [7, 8] (fun v j wr => ∃ (k : Nat) (acc : List UInt8), k ≤ s.size ∧ j = .int .i64 k ∧ OwnSl 1 elByte 5 w.heap.size wr v acc ∧ acc.length ≤ k ∧ Hid (quotedAt s k acc = q) ∧ Below w.heap.size w wr)
    (fun _ j _ => s.size - (intOf j).toNat)
  case atStart => exact ⟨i + 1, [], by omega, by go_num, OwnSl.nil _, by simp, HQ.out.symm, Below.refl _ _⟩
  case round =>
    obtain ⟨k, acc, hk, rfl, hown, hacc, hqk, hbel⟩ := hrel
    have hbs := hbel.size
    by_cases hlt : k < s.size
    · by_cases hc : s[k] = 34
      · have c34 : ((s[k].toNat : Int) == 34) = true := by rw [hc]; rfl
        have Hc := Lib.hid hc
        clear hc
        have hconv := run_string_of Tryz.underlying131 Tryz.underlying9 Tryz.underlying5 wr (hown.sl elByte_good)
        by_cases h2 : k + 1 < s.size
        · have e2 : ((k : Int) + 1 == (s.size : Int)) = false := beq_eq_false_iff_ne.2 (by omega)
          by_cases hd : s[k + 1] = 34
          · have d34 : ((s[k + 1].toNat : Int) != 34) = false := by rw [hd]; rfl
            have Hd := Lib.hid hd
            clear hd hconv
            go_wp2_with (at_builtin; refine wpList_append_sl _ rfl (.tmp 54) (.tmp 58) _ rfl E_byte elByte_good w.heap.size _ acc rfl (hown.alloc elByte_good _) ⟨wr.heap.size, 0, none⟩ 1 [.int .u8 _] rfl s[k + 1] rfl (cell_one_new _ _ _) (oneCells rfl) rfl (by simp only [maxLen]; omega) (by omega) (by simp; omega) ?_; intro v1 w1 hown1 hg1 hat1)
            have hb1 := below_own (hbel.alloc (by omega) _) (hown.alloc elByte_good _) hg1 (Nat.le_refl _) (by simp; omega)
            go_wp2
            go_roundw
            case rel => exact ⟨k + 2, _, by omega, by go_num, hown1, by simp; omega, by unfold Hid; rw [Hd.out, ← quoted_two s k acc hlt Hc.out h2 Hd.out]; exact hqk.out, hb1⟩
            case measure => simp [intOf]; omega
          · have d34 : ((s[k + 1].toNat : Int) != 34) = true := by rw [bne_iff_ne]; exact fun e => hd (byte_eq 34 e)
            have Hd := Lib.hid hd
            clear hd
            go_wp2
            go_ret3
            exact ⟨ret_q acc (k + 1) true (by rw [← hqk.out, quoted_close s k acc hlt Hc.out h2 Hd.out]) (by omega), hbel⟩
        · have e2 : ((k : Int) + 1 == (s.size : Int)) = true := beq_iff_eq.2 (by omega)
          go_wp2
          go_ret3
          exact ⟨ret_q acc (k + 1) true (by rw [← hqk.out, quoted_last s k acc hlt Hc.out (by omega)]) (by omega), hbel⟩
      · have c34 : ((s[k].toNat : Int) == 34) = false := beq_eq_false_iff_ne.2 fun e => hc (byte_eq 34 e)
        have Hc := Lib.hid hc
        clear hc
        cases hp : printedB s[k]
        · have Hp := Lib.hid hp
          go_wp2_with (go_at_call 136; refine (text_printed _ _).mono ?_; rintro e w' ⟨rfl, rfl⟩)
          go_ret3
          exact ⟨ret_q [] k false (by rw [← hqk.out, quoted_bad s k acc hlt Hc.out Hp.out]) rfl, hbel⟩
        · have Hp := Lib.hid hp
          go_wp2_with (first | (go_at_call 136; refine (text_printed _ _).mono ?_; rintro e w' ⟨rfl, rfl⟩) | (at_builtin; refine wpList_append_sl _ rfl (.tmp 54) (.tmp 58) _ rfl E_byte elByte_good w.heap.size _ acc rfl (hown.alloc elByte_good _) ⟨wr.heap.size, 0, none⟩ 1 [.int .u8 _] rfl s[k] rfl (cell_one_new _ _ _) (oneCells rfl) rfl (by simp only [maxLen]; omega) (by omega) (by simp; omega) ?_; intro v1 w1 hown1 hg1 hat1))
          have hb1 := below_own (hbel.alloc (by omega) _) (hown.alloc elByte_good _) hg1 (Nat.le_refl _) (by simp; omega)
          go_wp2
          go_roundw
          case rel => exact ⟨k + 1, _, by omega, by go_num, hown1, by simp; omega, by unfold Hid; rw [← quoted_step s k acc hlt Hc.out Hp.out]; exact hqk.out, hb1⟩
          case measure => simp [intOf]; omega
    · go_wp2
      go_ret3
      exact ⟨ret_q [] s.size false (by rw [← hqk.out, quoted_end s k acc (by omega)]) rfl, hbel⟩
end Go.Proofs.YtglkejlimeakbaaGreatDoor

namespace Go.Proofs.YtglkejlimeakbaaGreatDoor
open Go.RowKit

/-- What a function that hands back fields and a column leaves. -/
def FieldsPost (w : World) (q : List Fld × Nat) (e : Ending) (w' : World) : Prop :=
  ∃ v, e = .returned (.tuple #[v, .int .i64 q.2]) ∧ Sl 3 elFld w' (fun b => w.heap.size ≤ b ∧ b < w'.heap.size) v q.1 ∧ Below w.heap.size w w'
theorem fields_done {w w' : World} {q : List Fld × Nat} {v : Value} {n : Int} (x : List Fld) (m : Nat) (h : q = (x, m)) (hv : Sl 3 elFld w' (fun b => w.heap.size ≤ b ∧ b < w'.heap.size) v x) (hn : n = m) (hb : Below w.heap.size w w') :
    FieldsPost w q (.returned (.tuple #[v, .int .i64 n])) w' := ⟨v, by rw [h, hn], by rw [h]; exact hv, hb⟩

set_option maxRecDepth 100000 in
set_option maxHeartbeats 2000000 in
theorem text_fields (s : ByteArray) (w : World) (hs : s.size ≤ 1000000) :
    Calls Tryz.prog 56 #[.string s] w (FieldsPost w (fieldsS s.data.toList)) := by
  obtain ⟨q, hq⟩ : ∃ q, q = fieldsS s.data.toList := ⟨_, rfl⟩
  rw [← hq]
  have HQ := Lib.hid hq
  clear hq
  go_enter Tryz.func56, Tryz.ntmps56
  go_wp2
  go_loopw [4, 5, 6] (fun v a j wr => ∃ (k : Nat) (after : Bool) (out : List Fld), k ≤ s.size ∧ a = .bool after ∧ j = .int .i64 k ∧ OwnSl 3 elFld 87 w.heap.size wr v out ∧ out.length ≤ k ∧ Hid (fieldsAt s k after out = q) ∧ Below w.heap.size w wr)
    (fun _ _ j _ => s.size - (intOf j).toNat)
  case atStart => exact ⟨0, false, [], by omega, rfl, by go_num, OwnSl.nil _, by simp, (fieldsAt_zero s).trans HQ.out.symm, Below.refl _ _⟩
  case round =>
    obtain ⟨k, after, out, hk, rfl, rfl, hown, hout, hqk, hbel⟩ := hrel
    have hbs := hbel.size
    by_cases hlt : k < s.size
    · have hat := Lib.hid (fieldsAt_cons s k after out hlt)
      cases hw : whiteB s[k]
      · have Hw := Lib.hid hw
        by_cases h59 : s[k] = 59
        · have c59 : ((s[k].toNat : Int) == 59) = true := by rw [h59]; rfl
          have H59 := Lib.hid h59
          clear h59
          go_wp2_with (go_at_call 103; refine (text_white _ _).mono ?_; rintro e w' ⟨rfl, rfl⟩)
          go_ret2
          exact fields_done out 0 (by rw [← hqk.out, hat.out, if_neg (by rw [Hw.out]; simp), if_pos H59.out]) (hown.sl elFld_good) rfl hbel
        · have c59 : ((s[k].toNat : Int) == 59) = false := beq_eq_false_iff_ne.2 fun e => h59 (byte_eq 59 e)
          have H59 := Lib.hid h59
          clear h59
          cases after
          · by_cases h34 : s[k] = 34
            · have c34 : ((s[k].toNat : Int) == 34) = true := by rw [h34]; rfl
              have H34 := Lib.hid h34
              clear h34
              have HL := Lib.hid (quotedAt_len s (k + 1) [] hlt)
              obtain ⟨p, hp⟩ : ∃ p, p = quotedAt s (k + 1) [] := ⟨_, rfl⟩
              have HP := Lib.hid hp
              clear hp
              have hcq : ∀ W, Calls Tryz.prog 104 #[.string s, .int .i64 k] W fun e w' => e = .returned (.tuple #[.string (S p.1), .int .i64 p.2.1, .bool p.2.2]) ∧ Below W.heap.size W w' := by
                intro W; rw [HP.out]; exact text_quoted s k W hlt (by omega)
              have HCQ := Lib.hid hcq
              clear hcq
              obtain ⟨px, pn, pb⟩ := p
              have hpl : pn ≤ s.size ∧ (pb = true → k + 2 ≤ pn) := by
                have h1 := HL.out
                rw [← HP.out] at h1
                exact ⟨h1.2.1, h1.2.2⟩
              cases pb
              · go_wp2_with (first | (go_at_call 103; refine (text_white _ _).mono ?_; rintro e w' ⟨rfl, rfl⟩) | (go_at_call 104; refine (HCQ.out _).mono ?_; rintro e w2 ⟨rfl, hb2⟩))
                go_ret2
                exact fields_done [] (pn + 1) (by rw [← hqk.out, hat.out, if_neg (by rw [Hw.out]; simp), if_neg H59.out, if_neg (by simp), if_pos H34.out, ← HP.out]; rfl) (Sl.nil _ _) (by omega) (hbel.trans (hb2.mono hbs))
              · have hpn := hpl.2 rfl
                go_wp2_with (first | (go_at_call 103; refine (text_white _ _).mono ?_; rintro e w' ⟨rfl, rfl⟩) | (go_at_call 104; refine (HCQ.out _).mono ?_; rintro e w2 ⟨rfl, hb2⟩) | (at_builtin; refine wpList_append_sl _ rfl (.tmp 89) (.tmp 94) _ rfl E_fld elFld_good w.heap.size _ out rfl ((hown.below elFld_good hb2).alloc elFld_good _) ⟨w2.heap.size, 0, none⟩ 1 [.string (S px), .int .i64 ((k : Int) + 1), .bool true] rfl ⟨px, (k : Int) + 1, true⟩ rfl (cells_new _ _ _ _) (oneCells rfl) rfl (by simp only [maxLen]; omega) (by omega) (by have := hb2.size; simp; omega) ?_; intro v1 w1 hown1 hg1 hat1))
                have hb1 := below_own ((hbel.trans (hb2.mono hbs)).alloc (by have := hb2.size; omega) _) ((hown.below elFld_good hb2).alloc elFld_good _) hg1 (Nat.le_refl _) (by have := hb2.size; simp; omega)
                go_roundw
                case rel => exact ⟨pn, true, _, hpl.1, rfl, rfl, hown1, by simp; omega, by unfold Hid; rw [← hqk.out, hat.out, if_neg (by rw [Hw.out]; simp), if_neg H59.out, if_neg (by simp), if_pos H34.out, ← HP.out]; rfl, hb1⟩
                case measure => simp [intOf]; omega
            · have c34 : ((s[k].toNat : Int) == 34) = false := beq_eq_false_iff_ne.2 fun e => h34 (byte_eq 34 e)
              have H34 := Lib.hid h34
              clear h34
              go_wp2_with (go_at_call 103; refine (text_white _ _).mono ?_; rintro e w' ⟨rfl, rfl⟩)
              go_loop [10] (fun x => ∃ j : Nat, k ≤ j ∧ j ≤ s.size ∧ x = .int .i64 j ∧ Hid (j - k ≤ wordLen s k)) (fun x => s.size - (intOf x).toNat)
              case atStart => exact ⟨k, Nat.le_refl _, hk, rfl, by unfold Hid; omega⟩
              case round =>
                obtain ⟨j, hkj, hjs, rfl, hjw⟩ := hrel
                by_cases hjl : j < s.size
                · cases hwb : wordB s[j]
                  · have hst := Lib.hid (word_stop s k j hkj hjl hjw.out hwb)
                    have hhd := Lib.hid ((head_drop s j).trans (dif_pos hjl))
                    by_cases hjk : j = k
                    · have e1 : ((j : Int) == (k : Int)) = true := beq_iff_eq.2 (by omega)
                      have Hjk := Lib.hid hjk
                      clear hjk
                      go_wp2_with (go_at_call 105; refine (text_wordByte _ _).mono ?_; rintro e w' ⟨rfl, rfl⟩)
                      go_ret2
                      exact fields_done [] (j + 1) (by rw [← hqk.out, fieldsAt_word_bad s k out j hlt Hw.out H59.out H34.out hst.out (.inl Hjk.out)]) (Sl.nil _ _) (by omega) hbel
                    · have e1 : ((j : Int) == (k : Int)) = false := beq_eq_false_iff_ne.2 (by omega)
                      have hkj' : k < j := by omega
                      have Hjk := Lib.hid hjk
                      clear hjk
                      by_cases hj34 : s[j] = 34
                      · have c34j : ((s[j].toNat : Int) == 34) = true := by rw [hj34]; rfl
                        have H34j := Lib.hid hj34
                        clear hj34
                        go_wp2_with (go_at_call 105; refine (text_wordByte _ _).mono ?_; rintro e w' ⟨rfl, rfl⟩)
                        go_ret2
                        exact fields_done [] (j + 1) (by rw [← hqk.out, fieldsAt_word_bad s k out j hlt Hw.out H59.out H34.out hst.out (.inr (by rw [hhd.out, H34j.out]))]) (Sl.nil _ _) (by omega) hbel
                      · have c34j : ((s[j].toNat : Int) == 34) = false := beq_eq_false_iff_ne.2 fun e => hj34 (byte_eq 34 e)
                        have H34j := Lib.hid hj34
                        clear hj34
                        go_wp2_with (first | (go_at_call 105; refine (text_wordByte _ _).mono ?_; rintro e w' ⟨rfl, rfl⟩) | (at_builtin; refine wpList_append_sl _ rfl (.tmp 45) (.tmp 53) _ rfl E_fld elFld_good w.heap.size _ out rfl (hown.alloc elFld_good _) ⟨wr.heap.size, 0, none⟩ 1 [.string (s.extract k j), .int .i64 ((k : Int) + 1), .bool false] rfl ⟨(s.extract k j).data.toList, (k : Int) + 1, false⟩ rfl (cells_new _ _ _ _) (oneCells rfl) rfl (by simp only [maxLen]; omega) (by omega) (by simp; omega) ?_; intro v1 w1 hown1 hg1 hat1))
                        have hb1 := below_own (hbel.alloc (by omega) _) (hown.alloc elFld_good _) hg1 (Nat.le_refl _) (by simp; omega)
                        go_roundw
                        case rel => exact ⟨j, false, _, hjs, rfl, rfl, hown1, by simp; omega, by unfold Hid; rw [← hqk.out, fieldsAt_word s k out j hlt Hw.out H59.out H34.out hst.out Hjk.out (by rw [hhd.out]; exact fun e => H34j.out (Option.some.inj e)), word_text s k j hst.out], hb1⟩
                        case measure => simp [intOf]; omega
                  · have hnx := Lib.hid (word_next s k j hkj hjl hjw.out hwb)
                    go_wp2_with (go_at_call 105; refine (text_wordByte _ _).mono ?_; rintro e w' ⟨rfl, rfl⟩)
                    go_round
                    case rel => exact ⟨j + 1, by omega, by omega, by go_num, hnx.out⟩
                    case measure => simp [intOf]; omega
                · obtain rfl : j = s.size := by omega
                  have hst := Lib.hid (word_full s k hk hjw.out)
                  have hhd := Lib.hid ((head_drop s s.size).trans (dif_neg (by omega)))
                  have e1 : ((s.size : Int) == (k : Int)) = false := beq_eq_false_iff_ne.2 (by omega)
                  go_wp2_with (first | (go_at_call 105; refine (text_wordByte _ _).mono ?_; rintro e w' ⟨rfl, rfl⟩) | (at_builtin; refine wpList_append_sl _ rfl (.tmp 45) (.tmp 53) _ rfl E_fld elFld_good w.heap.size _ out rfl (hown.alloc elFld_good _) ⟨wr.heap.size, 0, none⟩ 1 [.string (s.extract k s.size), .int .i64 ((k : Int) + 1), .bool false] rfl ⟨(s.extract k s.size).data.toList, (k : Int) + 1, false⟩ rfl (cells_new _ _ _ _) (oneCells rfl) rfl (by simp only [maxLen]; omega) (by omega) (by simp; omega) ?_; intro v1 w1 hown1 hg1 hat1))
                  have hb1 := below_own (hbel.alloc (by omega) _) (hown.alloc elFld_good _) hg1 (Nat.le_refl _) (by simp; omega)
                  go_roundw
                  case rel => exact ⟨s.size, false, _, Nat.le_refl _, rfl, rfl, hown1, by simp; omega, by unfold Hid; rw [← hqk.out, fieldsAt_word s k out s.size hlt Hw.out H59.out H34.out hst.out (by omega) (by rw [hhd.out]; simp), word_text s k s.size hst.out], hb1⟩
                  case measure => simp [intOf]; omega
          · go_wp2_with (go_at_call 103; refine (text_white _ _).mono ?_; rintro e w' ⟨rfl, rfl⟩)
            go_ret2
            exact fields_done [] (k + 1) (by rw [← hqk.out, hat.out, if_neg (by rw [Hw.out]; simp), if_neg H59.out, if_pos trivial]) (Sl.nil _ _) (by omega) hbel
      · have Hw := Lib.hid hw
        go_wp2_with (go_at_call 103; refine (text_white _ _).mono ?_; rintro e w' ⟨rfl, rfl⟩)
        go_roundw
        case rel => exact ⟨k + 1, false, out, by omega, rfl, by go_num, hown, by omega, by unfold Hid; rw [← hqk.out, hat.out, if_pos Hw.out], hbel⟩
        case measure => simp [intOf]; omega
    · go_wp2
      go_ret2
      exact fields_done out 0 (by rw [← hqk.out, fieldsAt_end s k after out (by omega)]) (hown.sl elFld_good) rfl hbel
end Go.Proofs.YtglkejlimeakbaaGreatDoor

namespace Go.Proofs.YtglkejlimeakbaaGreatDoor
open Go.RowKit

/-- What a function that hands back one slice of strings leaves. -/
def StrsPost (w : World) (l : List (List UInt8)) (e : Ending) (w' : World) : Prop :=
  ∃ v, e = .returned v ∧ Sl 1 elStr w' (fun b => w.heap.size ≤ b ∧ b < w'.heap.size) v l ∧ Below w.heap.size w w'
theorem str_Split (c : UInt8) (s : ByteArray) (w : World) (hg : Glob w) (hs : s.size < 4294967281) :
    Calls Tryz.prog 55 #[.string s, .string ⟨#[c]⟩] w (StrsPost w (pieces c s.data.toList)) := by
  refine (Tryz.strings_Split_shaped s ⟨#[c]⟩ w hg.shaped hs (Nat.le_refl 1)).mono ?_
  rintro e w' ⟨rfl, rfl⟩
  have hp := splitB_pieces c _ s rfl
  have hlen := Lib.splitB_all ⟨#[c]⟩ (Nat.le_refl 1) 0 _ s rfl
  have hcnt := Lib.countB_le ⟨#[c]⟩ (Nat.le_refl 1) _ s (Nat.le_refl _)
  generalize Lib.splitB ⟨#[c]⟩ 0 (Lib.countB s ⟨#[c]⟩) s = l at *
  refine ⟨_, rfl, ?_, (Below.refl _ _).alloc (Nat.le_refl _) _⟩
  rw [← hp, ← hlen]
  have hlm : (l.map (·.data.toList)).length = l.length := by simp
  refine ⟨_, l.length, by rw [hlm], by simp, by unfold maxLen; omega, fun h0 => ⟨w.heap.size, 0, rfl, by simp, fun i a hi => ?_⟩⟩
  rw [List.getElem?_map] at hi
  obtain ⟨b, hb, rfl⟩ := Option.map_eq_some_iff.1 hi
  refine ⟨[.string b], rfl, fun j u hu => ?_, rfl⟩
  have hj : j = 0 := by have := (List.getElem?_eq_some_iff.1 hu).1; simp at this; exact this
  subst hj
  simp at hu; subst hu
  have := cells_new w (l.map Value.string) 9 (0, 0) i (.string b) (by simp [hb])
  have hadd : (⟨w.heap.size, 0, none⟩ : Addr).add i = ⟨w.heap.size, i, none⟩ := by unfold Addr.add; split <;> simp_all
  rw [hadd] at this
  rw [Nat.zero_add, Nat.mul_one, Nat.add_zero]; exact this

/-- The loop's two rows. -/
def lineG (base : Nat) (w : World) (v d : Value) : Nat → Prop := fun b => base ≤ b ∧ b < w.heap.size ∧ v.ownBlock ≠ some b ∧ d.ownBlock ≠ some b
structure SplitInv (base : Nat) (w1 w : World) (v d : Value) (out : List Lin) (ds : List Dia) : Prop where
  hv : OwnG 2 elLin 56 base w v (lineG base w v d) out
  hd : OwnSl 3 elDia 41 base w d ds
  hb : Below base w1 w
  hz : base ≤ w.heap.size
section
variable {base : Nat} {w1 w w' : World} {v d v' d' : Value} {out : List Lin} {ds : List Dia}
theorem SplitInv.below (h : SplitInv base w1 w v d out ds) (hb : Below w.heap.size w w') : SplitInv base w1 w' v d out ds :=
  ⟨h.hv.keep elLin_good (Same.below hb fun b hb => hb.2.1) (fun b ⟨a1, a2, a3, a4⟩ => ⟨a1, Nat.lt_of_lt_of_le a2 hb.size, a3, a4⟩) fun b hv => hb.block b (h.hv.block b hv).2,
   h.hd.below elDia_good hb, h.hb.trans (hb.mono h.hz), Nat.le_trans h.hz hb.size⟩
theorem SplitInv.line {x : Lin} (h : SplitInv base w1 w v d out ds) (ho : OwnG 2 elLin 56 base w' v' (lineG base w v d) (out ++ [x])) (hg : w.grownBy w' v.ownBlock) (hat : v'.ownBlock = v.ownBlock ∨ v'.ownBlock = some w.heap.size) :
    SplitInv base w1 w' v' d (out ++ [x]) ds := by
  have hap := h.hv.apart h.hd (by decide)
  refine ⟨ho.keep elLin_good (Same.refl _ _) (fun b ⟨a1, a2, a3, a4⟩ => ⟨a1, Nat.lt_of_lt_of_le a2 hg.size, ?_, a4⟩) (fun _ _ => rfl), h.hd.grown elDia_good hg fun b hb e => hap b e hb, below_own h.hb h.hv hg (Nat.le_refl _) h.hz, Nat.le_trans h.hz hg.size⟩
  rcases hat with e | e <;> rw [e]
  · exact a3
  · intro e'; injection e' with e'; omega
theorem SplitInv.diag {x : Dia} (h : SplitInv base w1 w v d out ds) (ho : OwnSl 3 elDia 41 base w' d' (ds ++ [x])) (hg : w.grownBy w' d.ownBlock) (hat : d'.ownBlock = d.ownBlock ∨ d'.ownBlock = some w.heap.size) :
    SplitInv base w1 w' v d' out (ds ++ [x]) := by
  have hap := h.hv.apart h.hd (by decide)
  refine ⟨h.hv.keep elLin_good (Same.grown hg fun b hb => ⟨hb.2.1, fun e => hb.2.2.2 e.symm⟩) (fun b ⟨a1, a2, a3, a4⟩ => ⟨a1, Nat.lt_of_lt_of_le a2 hg.size, a3, ?_⟩) fun b hb => hg.block b (h.hv.block b hb).2 fun e => hap b hb e.symm, ho, below_own h.hb h.hd hg (Nat.le_refl _) h.hz, Nat.le_trans h.hz hg.size⟩
  rcases hat with e | e <;> rw [e]
  · exact a4
  · intro e'; injection e' with e'; omega
/-- The fields of a new line, as an element of the row of lines. -/
theorem SplitInv.fields_el {w2 : World} {A : Option Addr} {n c : Nat} {x : Int} {fl : List Fld} (h : SplitInv base w1 w v d out ds) (hb : Below w.heap.size w w2) (hv : Sl 3 elFld w2 (fun b => w.heap.size ≤ b ∧ b < w2.heap.size) (.slice A n c) fl) (o : Obj) :
    elLin (w2.alloc o) (lineG base (w2.alloc o) v d) [.int .i64 x, .slice A n c] ⟨x, fl⟩ := by
  refine ⟨_, rfl, hv.keep elFld_good (Same.below ((Below.refl w2.heap.size w2).alloc (Nat.le_refl _) o) fun b hb => hb.2) fun b ⟨h1, h2⟩ => ⟨by have := h.hz; omega, by simp; omega, fun e => ?_, fun e => ?_⟩⟩
  · have := (h.hv.block b e).2; omega
  · have := (OwnSl.block h.hd b e).2; omega
end

/-- The same, and where no diagnostic stands, the row of diagnostics is nil. -/
structure SplitInvN (base : Nat) (w1 w : World) (v d : Value) (out : List Lin) (ds : List Dia) : Prop extends SplitInv base w1 w v d out ds where
  hn : ds = [] → d = .slice none 0 0
section
variable {base : Nat} {w1 w w' : World} {v d v' d' : Value} {out : List Lin} {ds : List Dia}
theorem SplitInvN.below (h : SplitInvN base w1 w v d out ds) (hb : Below w.heap.size w w') : SplitInvN base w1 w' v d out ds := ⟨h.toSplitInv.below hb, h.hn⟩
theorem SplitInvN.line {x : Lin} (h : SplitInvN base w1 w v d out ds) (ho : OwnG 2 elLin 56 base w' v' (lineG base w v d) (out ++ [x])) (hg : w.grownBy w' v.ownBlock) (hat : v'.ownBlock = v.ownBlock ∨ v'.ownBlock = some w.heap.size) :
    SplitInvN base w1 w' v' d (out ++ [x]) ds := ⟨h.toSplitInv.line ho hg hat, h.hn⟩
theorem SplitInvN.diag {x : Dia} (h : SplitInvN base w1 w v d out ds) (ho : OwnSl 3 elDia 41 base w' d' (ds ++ [x])) (hg : w.grownBy w' d.ownBlock) (hat : d'.ownBlock = d.ownBlock ∨ d'.ownBlock = some w.heap.size) :
    SplitInvN base w1 w' v d' out (ds ++ [x]) := ⟨h.toSplitInv.diag ho hg hat, fun e => by simp at e⟩
end
def SplitPostN (w : World) (q : List Lin × List Dia) (e : Ending) (w' : World) : Prop :=
  ∃ v d, e = .returned (.tuple #[v, d]) ∧ Sl 2 elLin w' (fun b => w.heap.size ≤ b ∧ b < w'.heap.size) v q.1 ∧ Sl 3 elDia w' (fun b => w.heap.size ≤ b ∧ b < w'.heap.size) d q.2 ∧ Below w.heap.size w w' ∧ (q.2 = [] → d = .slice none 0 0)
theorem split_doneN {w w' : World} {q : List Lin × List Dia} {v d : Value} (h1 : Sl 2 elLin w' (fun b => w.heap.size ≤ b ∧ b < w'.heap.size) v q.1) (h2 : Sl 3 elDia w' (fun b => w.heap.size ≤ b ∧ b < w'.heap.size) d q.2) (hb : Below w.heap.size w w') (hn : q.2 = [] → d = .slice none 0 0) :
    SplitPostN w q (.returned (.tuple #[v, d])) w' := ⟨v, d, rfl, h1, h2, hb, hn⟩
set_option maxRecDepth 100000 in
set_option maxHeartbeats 2000000 in
theorem text_SplitN (s : ByteArray) (w : World) (hg : Glob w) (hs : s.size ≤ 140737488351232) :
    Calls Tryz.prog 24 #[.string s] w (SplitPostN w (splitS s.data.toList)) := by
  obtain ⟨q, hq⟩ : ∃ q, q = splitS s.data.toList := ⟨_, rfl⟩
  rw [← hq]
  have HQ := Lib.hid hq
  clear hq
  have HG := Lib.hid hg
  clear hg
  have hL : s.data.toList.length = s.size := by simp
  have HL := Lib.hid hL
  clear hL
  go_enter Tryz.func24, Tryz.ntmps24
  by_cases hbig : (262144 : Int) < (s.size : Int)
  · go_wp2
    go_ret2
    refine split_doneN (by rw [HQ.out, splitS, if_pos (by rw [HL.out]; omega)]; exact Sl.nil _ _) ?_ ((Below.refl _ _).alloc (Nat.le_refl _) _) (by rw [HQ.out, splitS, if_pos (by rw [HL.out]; omega)]; intro e; cases e)
    rw [HQ.out, splitS, if_pos (by rw [HL.out]; omega)]
    exact Sl.fresh1 w _ [.int .i64 1, .int .i64 1, .int .i64 9] _ _ rfl (by simp) rfl
  · have HP := Lib.hid (pieces_len 10 s.data.toList)
    obtain ⟨ps, hps⟩ : ∃ ps, ps = pieces 10 s.data.toList := ⟨_, rfl⟩
    have hpl : ps.length ≤ 300000 := by have := HP.out; rw [← hps, HL.out] at this; omega
    have HPS := Lib.hid hps
    have hcs : Calls Tryz.prog 55 #[.string s, .string ⟨#[10]⟩] w (StrsPost w ps) := by rw [hps]; exact str_Split 10 s w HG.out (by omega)
    have HCS := Lib.hid hcs
    clear hcs hps
    go_wp2_with (go_at_call 55; refine HCS.out.mono ?_; rintro e w1 ⟨v1, rfl, hv1, hb1⟩; obtain ⟨A1, c1, rfl, hc1, hc2⟩ := hv1.shape)
    have HV1 := Lib.hid hv1
    clear hv1
    have hs1 := hb1.size
    go_loopw [4, 5, 19] (fun v d i wr => ∃ (k : Nat) (out : List Lin) (ds : List Dia), k ≤ ps.length ∧ i = .int .i64 k ∧ SplitInvN w1.heap.size w1 wr v d out ds ∧ out.length ≤ k ∧ ds.length ≤ k ∧ Hid (splitF (ps.drop k) ((k : Int) + 1) out ds = q))
      (fun _ _ i _ => ps.length - (intOf i).toNat)
    case atStart => exact ⟨0, [], [], Nat.zero_le _, rfl, ⟨⟨OwnG.nil _, OwnSl.nil _, Below.refl _ _, Nat.le_refl _⟩, fun _ => rfl⟩, by simp, by simp, by unfold Hid; rw [HQ.out, splitS, if_neg (by rw [HL.out]; omega), ← HPS.out]; rfl⟩
    case round =>
      obtain ⟨k, out, ds, hk, rfl, hinv, hout, hds, hqk⟩ := hrel
      by_cases hlt : k < ps.length
      · obtain ⟨b, o, rfl, hF, hcu⟩ := HV1.out.str_at hlt
        have hcell : wr.cell? ⟨b, o + k, none⟩ = some (.string (S ps[k])) := (hinv.hb.cell (p := ⟨b, o + k, none⟩) hF.2).trans hcu
        have hdr := drop_get hlt
        have hcf := fun W (h : ps[k].length ≤ 1000) => text_fields (S ps[k]) W (by simp; omega)
        have hqk' := hqk.out
        rw [hdr, splitF] at hqk'
        obtain ⟨p, hp⟩ : ∃ p, p = ps[k] := ⟨_, rfl⟩
        rw [← hp] at hcell hcf hqk'
        clear hdr hqk hp hcu
        obtain ⟨⟨fl, col⟩, hfc⟩ : ∃ fc, fc = fieldsS p := ⟨_, rfl⟩
        rw [S_data, ← hfc] at hcf
        rw [← hfc] at hqk'
        have hfl := fieldsS_len p
        rw [← hfc] at hfl
        clear hfc
        have HQK := Lib.hid hqk'
        have HCF := Lib.hid hcf
        clear hqk' hcf
        obtain ⟨Ad, cd, hvd, hcd, hcd'⟩ := (OwnSl.sl elDia_good hinv.hd).shape
        subst hvd
        by_cases hbigl : (p.length : Int) ≤ 1000
        · by_cases hcol : col = 0
          · subst hcol
            cases fl with
            | nil =>
              go_wp2_with (go_at_call 56; refine (HCF.out _ (by omega)).mono ?_; rintro e w2 ⟨v2, rfl, hv2, hb2⟩; obtain ⟨A2, c2, rfl, hc2, hc2'⟩ := hv2.shape)
              go_roundw
              case rel => exact ⟨k + 1, out, ds, by omega, by go_num, hinv.below hb2, by omega, by omega, by unfold Hid; rw [← HQK.out, if_neg (by omega), if_neg (by simp), if_neg (by simp)]; rfl⟩
              case measure => simp [intOf]; omega
            | cons f0 fl =>
              obtain ⟨fl', hfl'⟩ : ∃ fl', fl' = f0 :: fl := ⟨_, rfl⟩
              rw [← hfl'] at HCF HQK hfl
              have hfp : (0 : Int) < (fl'.length : Int) := by rw [hfl']; simp
              have hne : fl' ≠ [] := by rw [hfl']; simp
              have HNE := Lib.hid hne
              clear hfl' hne
              go_wp2_with (first | (go_at_call 56; refine (HCF.out _ (by omega)).mono ?_; rintro e w2 ⟨v2, rfl, hv2, hb2⟩; obtain ⟨A2, c2, rfl, hc2, hc2'⟩ := hv2.shape) | (at_builtin; refine wpList_append_g _ rfl (.tmp 56) (.tmp 61) _ rfl E_lin elLin_good w1.heap.size _ (lineG w1.heap.size (w2.alloc _) _ _) out rfl ((hinv.below hb2).below ((Below.refl _ _).alloc (Nat.le_refl _) _)).hv ⟨w2.heap.size, 0, none⟩ 1 [.int .i64 ((k : Int) + 1), .slice A2 fl'.length c2] rfl ⟨(k : Int) + 1, fl'⟩ rfl (cells_new _ _ _ _) (oneCells rfl) (fun b hb => ⟨hb.2.1, hb.2.2.1⟩) (hinv.fields_el hb2 hv2 _) (by simp only [maxLen]; omega) (by omega) (by have := hinv.hz; have := hb2.size; simp; omega) ?_; intro v4 w4 hown4 hg4 hat4))
              have hi4 := ((hinv.below hb2).below ((Below.refl _ _).alloc (Nat.le_refl _) _)).line hown4 hg4 hat4
              go_roundw
              case rel => exact ⟨k + 1, _, ds, by omega, by go_num, hi4, by simp; omega, by omega, by unfold Hid; rw [← HQK.out, if_neg (by omega), if_neg (by simp), if_pos HNE.out]; rfl⟩
              case measure => simp [intOf]; omega
          · have hcol0 : (0 : Int) < (col : Int) := by omega
            have hcoln : ((col : Int) == 0) = false := beq_eq_false_iff_ne.2 (by omega)
            have HC := Lib.hid hcol
            clear hcol
            by_cases h50 : (ds.length : Int) < 50
            · go_wp2_with (first | (go_at_call 56; refine (HCF.out _ (by omega)).mono ?_; rintro e w2 ⟨v2, rfl, hv2, hb2⟩; obtain ⟨A2, c2, rfl, hc2, hc2'⟩ := hv2.shape) | (at_builtin; refine wpList_append_sl _ rfl (.tmp 40) (.tmp 46) _ rfl E_dia elDia_good w1.heap.size _ ds rfl ((hinv.below hb2).hd.alloc elDia_good _) ⟨w2.heap.size, 0, none⟩ 1 [.int .i64 ((k : Int) + 1), .int .i64 (col : Int), .int .i64 4] rfl ⟨(k : Int) + 1, (col : Int), 4⟩ rfl (cells_new _ _ _ _) (oneCells rfl) rfl (by simp only [maxLen]; omega) (by omega) (by have := hinv.hz; have := hb2.size; simp; omega) ?_; intro v4 w4 hown4 hg4 hat4))
              have hi4 := ((hinv.below hb2).below ((Below.refl _ _).alloc (Nat.le_refl _) _)).diag hown4 hg4 hat4
              go_roundw
              case rel => exact ⟨k + 1, out, _, by omega, by go_num, hi4, by omega, by simp; omega, by unfold Hid; rw [← HQK.out, if_neg (by omega), if_pos HC.out, if_pos (by omega)]; rfl⟩
              case measure => simp [intOf]; omega
            · go_wp2_with (go_at_call 56; refine (HCF.out _ (by omega)).mono ?_; rintro e w2 ⟨v2, rfl, hv2, hb2⟩; obtain ⟨A2, c2, rfl, hc2, hc2'⟩ := hv2.shape)
              go_roundw
              case rel => exact ⟨k + 1, out, ds, by omega, by go_num, hinv.below hb2, by omega, by omega, by unfold Hid; rw [← HQK.out, if_neg (by omega), if_pos HC.out, if_neg (by omega)]; rfl⟩
              case measure => simp [intOf]; omega
        · by_cases h50 : (ds.length : Int) < 50
          · go_wp2_with (at_builtin; refine wpList_append_sl _ rfl (.tmp 40) (.tmp 46) _ rfl E_dia elDia_good w1.heap.size _ ds rfl (hinv.hd.alloc elDia_good _) ⟨wr.heap.size, 0, none⟩ 1 [.int .i64 ((k : Int) + 1), .int .i64 1001, .int .i64 9] rfl ⟨(k : Int) + 1, 1001, 9⟩ rfl (cells_new _ _ _ _) (oneCells rfl) rfl (by simp only [maxLen]; omega) (by omega) (by have := hinv.hz; simp; omega) ?_; intro v4 w4 hown4 hg4 hat4)
            have hi4 := (hinv.below ((Below.refl _ _).alloc (Nat.le_refl _) _)).diag hown4 hg4 hat4
            go_roundw
            case rel => exact ⟨k + 1, out, _, by omega, by go_num, hi4, by omega, by simp; omega, by unfold Hid; rw [← HQK.out, if_pos (by omega), if_pos (by omega)]; rfl⟩
            case measure => simp [intOf]; omega
          · go_wp2
            go_roundw
            case rel => exact ⟨k + 1, out, ds, by omega, by go_num, hinv, by omega, by omega, by unfold Hid; rw [← HQK.out, if_pos (by omega), if_neg (by omega)]; rfl⟩
            case measure => simp [intOf]; omega
      · go_wp2
        go_ret2
        have hz := hinv.hz
        have hvs := hinv.hv.sl elLin_good (F := fun b => w.heap.size ≤ b ∧ b < wr.heap.size) (fun b hb => ⟨by have := hb.1; omega, hb.2.1⟩) (fun b h1 h2 => ⟨by omega, h2⟩)
        have hdss := OwnG.sl elDia_good (F := fun b => w.heap.size ≤ b ∧ b < wr.heap.size) hinv.hd (fun b hb => hb.elim) (fun b h1 h2 => ⟨by omega, h2⟩)
        have hfin : q = (out, ds) := by rw [← hqk.out, List.drop_of_length_le (by omega)]; rfl
        rw [hfin]
        exact split_doneN hvs hdss (hb1.trans (hinv.hb.mono hs1)) hinv.hn
end Go.Proofs.YtglkejlimeakbaaGreatDoor

namespace Go.Proofs.YtglkejlimeakbaaGreatDoor
open Go.RowKit

theorem own_ne {α : Type} {size e base : Nat} {R : World → (Nat → Prop) → List Value → α → Prop} {G : Nat → Prop} {w : World} {v : Value} {l : List α} {g : Nat} {t : TypeId} {cs : Array Value}
    (h : OwnG size R e base w v G l) (hg : Blk w g t cs) (hne : e ≠ t) : v.ownBlock ≠ some g := by
  obtain ⟨xs, hx, ⟨rfl, _⟩ | ⟨g', cap, cur, rfl, _, hh, _⟩⟩ := h.owns
  · simp [Value.ownBlock]
  · intro he
    have : g' = g := by simpa [Value.ownBlock] using he
    subst this
    unfold Blk at hg
    rw [hh] at hg
    injection hg with hg
    injection hg with _ ht
    exact hne ht
/-- append of one element, as a step of a region that draws. -/
theorem step_append_el {P : Program} {ops : Array Oper} {o : Oper} {a : Act} {w : World} {K : Act → World → Prop} {Q : Exit → Act → World → Prop} {E : Prop} (hgd : o.guard = none) (s x : Operand) (t : TypeId)
    (ho : o.op = .call { callee := .builtin .append, args := #[s, x], argTypes := #[t, t] })
    {e : TypeId} {size bytes : Nat} (hE : ElemOf P t e size bytes) {α : Type} {R : World → (Nat → Prop) → List Value → α → Prop} (hR : Good R)
    (base : Nat) (v : Value) (l : List α) (hs : a.eval s = v) (hown : OwnSl size R e base w v l)
    (ad : Addr) (c : Nat) (cs : List Value) (hx : a.eval x = .slice (some ad) 1 c) (el : α) (hl : cs.length = size) (hcell : ∀ j u, cs[j]? = some u → w.cell? (ad.add j) = some u)
    (h1 : ∀ u ∈ cs, u.oneCell' = true) (hel : R w NoG cs el)
    (h63 : l.length + 1 ≤ maxLen) (hbytes : (l.length + 1) * bytes ≤ 140737488355328) (hbase : base ≤ w.heap.size)
    (h : ∀ g cap w', OwnSl size R e base w' (.slice (some ⟨g, 0, none⟩) (l.length + 1) cap) (l ++ [el]) → w.grownBy w' v.ownBlock → (some g = v.ownBlock ∨ g = w.heap.size) → K (a.put o.dst (.slice (some ⟨g, 0, none⟩) (l.length + 1) cap)) w') :
    if Region.wanted o (yielded ops a.tmps) = true then Oper.wp P o a w K Q else E := by
  have hw : Region.wanted o (yielded ops a.tmps) = true := by simp [Region.wanted, hgd]
  rw [if_pos hw]
  obtain ⟨i, z, e1, e2, e3, e4, e5, e6, e7⟩ := hE
  obtain ⟨css, hlen, ho', hsz, hel'⟩ := hown
  obtain ⟨v', w', hr, h2, h3, _, h4⟩ := run_append_own_at (P := P) w base t o.type e i z size bytes e1 e2 e3 e4 e5 e6 e7 v l.length css.flatten ho' ad 1 c cs (by omega) hcell h1 h63 hbytes hbase
  unfold Oper.wp execOp
  simp only [ho, resolve, invoke, builtin, Sem.run_bind, Sem.run_pure, Result.andThen_ok, List.map_toArray, List.map_cons, List.map_nil, hs, hx, hr]
  have hnew : OwnG size R e base w' v' NoG (l ++ [el]) := OwnG.snoc hR hlen hsz hel' h2 (Same.grown h3 fun b hb => hb.elim) hl hel
  obtain ⟨xs, _, ⟨_, h0⟩ | ⟨g, cap, cur, rfl, _⟩⟩ := hnew.owns
  · simp at h0
  · simp only [List.length_append, List.length_cons, List.length_nil, Nat.zero_add] at h4 hnew ⊢
    refine h g cap w' hnew h3 ?_
    rcases h4 with h4 | h4
    · exact .inl h4
    · exact .inr (by simpa [Value.ownBlock] using h4)

theorem CurAt.far {w : World} {F : Nat → Prop} {g k : Nat} {c : Cur} (h : CurAt w F g c) (hk : k ≠ g) (hF : ¬ F k) (p : Addr) (hp : p.block = k) (u : Value) : CurAt (w.setCell p u) F g c :=
  h.keep (G := F) (fun b hb => Below.heap_setCell w p u b (by rintro rfl; rw [hp] at hb; exact hF hb)) (Below.heap_setCell w p u g (by rw [hp]; exact fun e => hk e.symm)) (by simp [World.setCell])
theorem CurAt.drew {w : World} {F : Nat → Prop} {g : Nat} {c : Cur} (h : CurAt w F g c) : CurAt w.drew F g c := h.keep (G := F) (fun _ _ => rfl) rfl (Nat.le_refl _)
/-- A slice literal is a row of the call's own. -/
theorem own_lit {α : Type} {size e : Nat} {R : World → (Nat → Prop) → List Value → α → Prop} (w : World) (css : List (List Value)) (l : List α) (hl : css.length = l.length) (hsz : ∀ cs ∈ css, cs.length = size) (hm : l.length ≤ maxLen)
    (hel : ∀ (i : Nat) (a : α) (cs : List Value), l[i]? = some a → css[i]? = some cs → R (w.alloc (.cells css.flatten.toArray e)) NoG cs a) :
    OwnSl size R e w.heap.size (w.alloc (.cells css.flatten.toArray e)) (.slice (some ⟨w.heap.size, 0, none⟩) l.length l.length) l := by
  have hf : css.flatten.length = css.length * size := by
    clear hl hel
    induction css with
    | nil => simp
    | cons x css ih => rw [List.flatten_cons, List.length_append, ih (fun cs hc => hsz cs (by simp [hc])), hsz x (by simp), List.length_cons, Nat.succ_mul]; omega
  refine ⟨css, hl, ⟨by rw [hf, hl], .inr ⟨w.heap.size, l.length, css.flatten.toArray, rfl, Nat.le_refl _, heap_alloc_new w _, Nat.le_refl _, hm, by simp only [List.size_toArray]; rw [hf, hl], ?_⟩⟩, hsz, hel⟩
  rw [List.take_of_length_le (by rw [hf, hl]; exact Nat.le_refl _)]
def TextPost (w : World) (r : List UInt8 × Int) (e : Ending) (w' : World) : Prop := e = .returned (.tuple #[.string (S r.1), .int .i64 r.2]) ∧ Below w.heap.size w w'
def noD : Value := .slice none 0 0
end Go.Proofs.YtglkejlimeakbaaGreatDoor

namespace Go.Proofs.YtglkejlimeakbaaGreatDoor
open Go.RowKit

end Go.Proofs.YtglkejlimeakbaaGreatDoor

namespace Go.Proofs.YtglkejlimeakbaaGreatDoor
open Go.RowKit

theorem itoa_le3 {n : Int} (h0 : 0 ≤ n) (h : n ≤ 9223372036854775807) : (Lib.itoa n).length ≤ 20 := by
  have := decDigits_le (u := n.toNat) (by omega)
  unfold Lib.itoa
  rw [if_neg (by omega)]
  omega
theorem E_strs : ElemOf Tryz.prog 64 9 1 16 := ElemOf.mk (z := .string ByteArray.empty) Tryz.underlying64 (by kernel_rfl) rfl (by decide)
theorem joinTail_len (sep : List UInt8) : ∀ r : List (List UInt8), (Lib.joinTail sep r).length = (r.map fun x => sep.length + x.length).sum := by
  intro r
  induction r with
  | nil => rfl
  | cons x r ih =>
    have e : Lib.joinTail sep (x :: r) = (sep ++ x) ++ Lib.joinTail sep r := by unfold Lib.joinTail; simp
    rw [e, List.length_append, ih, List.map_cons, List.sum_cons, List.length_append]
theorem sum_le_mul {l : List Nat} {B : Nat} (h : ∀ x ∈ l, x ≤ B) : l.sum ≤ B * l.length := by
  induction l with
  | nil => simp
  | cons x l ih =>
    have h1 := h x (by simp)
    have h2 := ih fun y hy => h y (by simp [hy])
    rw [List.sum_cons, List.length_cons, Nat.mul_add, Nat.mul_one]; omega
theorem join_len {xs : List (List UInt8)} {sep : List UInt8} {B : Nat} (h : ∀ x ∈ xs, x.length ≤ B) : (Lib.join xs sep).length ≤ (sep.length + B) * xs.length := by
  cases xs with
  | nil => simp [Lib.join_nil]
  | cons x r =>
    have h1 := h x (by simp)
    have h2 : ((r.map fun y => sep.length + y.length)).sum ≤ (sep.length + B) * (r.map fun y => sep.length + y.length).length := sum_le_mul fun y hy => by
      obtain ⟨z, hz, rfl⟩ := List.mem_map.1 hy
      have := h z (by simp [hz]); omega
    rw [Lib.join_cons, List.length_append, joinTail_len, List.length_cons, Nat.mul_add, Nat.mul_one]
    rw [List.length_map] at h2
    omega
theorem otcW_len {o : Otc} (h : OkO o) : (otcW o).length ≤ 50 := by
  have h1 := itoa_le3 h.r0 (by have := h.r7; omega)
  have h2 := itoa_le3 (n := o.wt) (by have := h.w1; omega) (by have := h.w16; omega)
  unfold otcW
  simp only [List.length_append, List.length_cons, List.length_nil]
  split <;> (simp; omega)
theorem str_sum (a b : List UInt8) (c : ByteArray) : S a ++ c ++ (⟨#[58]⟩ : ByteArray) ++ S b = S (a ++ c.data.toList ++ [58] ++ b) := by
  apply ByteArray.ext; apply Array.ext'
  simp [S, ByteArray.data_append]
set_option maxRecDepth 100000 in
set_option maxHeartbeats 1000000 in
theorem ch_Text (d : List Otc) (v : Value) (w : World) (hg : GlobN w) (h : Sl 3 elOtc w (· < w.heap.size) v d) : Calls Tryz.prog 39 #[v] w fun e w' => e = .returned (.tuple #[.string (S (textC d).1), .int .i64 (textC d).2]) ∧ Below w.heap.size w w' := by
  obtain ⟨z, hz⟩ : ∃ z, z = textC d := ⟨_, rfl⟩
  rw [← hz]
  unfold textC at hz
  have kc := ch_Check d v w h
  obtain ⟨A, c, rfl, hc, hc2⟩ := h.shape
  by_cases h0 : checkD d = 0
  · rw [if_neg (fun k => k h0)] at hz
    rw [h0] at kc
    have hok := checkD_ok h0
    have hl16 := hok.len.2
    have hl1 := hok.len.1
    have HOK := Lib.hid hok.each
    have KC := Lib.hid kc
    have HZ := Lib.hid hz
    have H := Lib.hid h
    have kd := fun (n : Int) (h0 : 0 ≤ n) (h1 : n ≤ 100) W (hW : Below w.heap.size w W) => text_Decimal n W (hg.below hW) (by omega) (by omega)
    have KD := Lib.hid kd
    clear kc hz h0 hok h hg kd
    go_enter Tryz.func39, Tryz.ntmps39
    go_wp2_with (go_at_call 78; refine KC.out.mono ?_; rintro e w2 ⟨rfl, hb2⟩; have HB2 := Lib.hid hb2; clear hb2)
    go_loopw [5, 16] (fun sv i wr => ∃ (k : Nat), k ≤ d.length ∧ i = .int .i64 k ∧ Below w2.heap.size w2 wr ∧ OwnSl 1 elStr 9 w2.heap.size wr sv ((d.take k).map otcW)) (fun _ i _ => d.length - (intOf i).toNat)
    case atStart => exact ⟨0, Nat.zero_le _, rfl, Below.refl _ _, OwnSl.nil _⟩
    case round =>
      obtain ⟨k, hk, rfl, hbw, hown⟩ := hrel
      have hb := HB2.out.trans (hbw.mono HB2.out.size)
      have HB := Lib.hid hb
      have HBW := Lib.hid hbw
      have HO := Lib.hid hown
      by_cases hlt : k < d.length
      · obtain ⟨b, o, rfl, hbl, y0', y1', y2'⟩ := otc_at H.out hlt
        have hoo := HOK.out _ (List.getElem_mem hlt)
        have htk : (d.take (k + 1)).map otcW = (d.take k).map otcW ++ [otcW d[k]] := by rw [List.take_succ_eq_append_getElem hlt, List.map_append]; rfl
        obtain ⟨⟨pr, pw, pt⟩, hp⟩ : ∃ p, p = d[k] := ⟨_, rfl⟩
        rw [← hp] at y0' y1' y2' hoo htk
        have hr0 := hoo.r0
        have hr7 := hoo.r7
        have hw1 := hoo.w1
        have hw16 := hoo.w16
        have y0 := (hb.cell (p := ⟨b, o + k * 3, none⟩) hbl).trans y0'
        have y1 := (hb.cell (p := ⟨b, o + k * 3 + 1, none⟩) hbl).trans y1'
        have y2 := (hb.cell (p := ⟨b, o + k * 3 + 2, none⟩) hbl).trans y2'
        dsimp only at y0 y1 y2 hr0 hr7 hw1 hw16
        have hlen : ((d.take k).map otcW).length = k := by simp; omega
        have k1 := fun W hW => KD.out pr hr0 (by omega) W hW
        have k2 := fun W hW => KD.out pt (by omega) (by omega) W hW
        have l1 := itoa_le3 hr0 (by omega)
        have l2 := itoa_le3 (n := pt) (by omega) (by omega)
        obtain ⟨t1, ht1⟩ : ∃ t1, t1 = Lib.itoa pr := ⟨_, rfl⟩
        obtain ⟨t2, ht2⟩ : ∃ t2, t2 = Lib.itoa pt := ⟨_, rfl⟩
        have hw : ∀ cb : ByteArray, cb.data.toList = (if pw = true then [87] else []) → S t1 ++ cb ++ (⟨#[58]⟩ : ByteArray) ++ S t2 = S (otcW ⟨pr, pw, pt⟩) := fun cb hcb => by
          rw [str_sum, hcb, ht1, ht2]; rfl
        rw [← ht1] at k1 l1
        rw [← ht2] at k2 l2
        have K1 := Lib.hid k1
        have K2 := Lib.hid k2
        have HTK := Lib.hid htk
        have HLN := Lib.hid hlen
        obtain ⟨l, hl⟩ : ∃ l, l = (d.take k).map otcW := ⟨_, rfl⟩
        rw [← hl] at HO HTK HLN
        obtain ⟨wa, hwa⟩ : ∃ wa, wa = wr.alloc (.cells #[.int .i64 pr, .bool pw, .int .i64 pt] 119) := ⟨_, rfl⟩
        have hka : Blk wa wr.heap.size 119 #[.int .i64 pr, .bool pw, .int .i64 pt] := by rw [hwa]; exact Blk.new wr _ _
        have hba : Below w2.heap.size w2 wa := by rw [hwa]; exact Below.alloc hbw hbw.size _
        have hoa : OwnSl 1 elStr 9 w2.heap.size wa u5 l := by rw [hwa]; exact HO.out.alloc elStr_good _
        have HWA := Lib.hid hwa
        have HKA := Lib.hid hka
        have HBA := Lib.hid hba
        have HOA := Lib.hid hoa
        obtain ⟨g, hgg⟩ : ∃ g, g = wr.heap.size := ⟨_, rfl⟩
        have HGG := Lib.hid hgg
        have HW := Lib.hid hw
        clear hb hbw hown hp hoo htk hlen y0' y1' y2' k1 k2 hwa hka hba hoa hgg hl ht1 ht2 hw
        cases pw
        · have hws := HW.out (⟨#[]⟩ : ByteArray) rfl
          have z1 : ((⟨#[]⟩ : ByteArray) : ByteArray).size ≤ 1 := by decide
          have z2 : (⟨#[58]⟩ : ByteArray).size = 1 := rfl
          have a1 := fun W => run_string_add_sum (P := Tryz.prog) W (S t1) (⟨#[]⟩ : ByteArray) (by rw [S_size]; omega)
          have a2 := fun W => run_string_add_sum (P := Tryz.prog) W (S t1 ++ (⟨#[]⟩ : ByteArray)) ⟨#[58]⟩ (by rw [ByteArray.size_append, S_size]; omega)
          have a3 := fun W => run_string_add_sum (P := Tryz.prog) W (S t1 ++ (⟨#[]⟩ : ByteArray) ++ ⟨#[58]⟩) (S t2) (by rw [ByteArray.size_append, ByteArray.size_append, S_size, S_size]; omega)
          obtain ⟨ow, how⟩ : ∃ ow, ow = otcW ⟨pr, false, pt⟩ := ⟨_, rfl⟩
          rw [← how] at HTK hws
          rw [hws] at a3
          have h63 : l.length + 1 ≤ maxLen := by rw [HLN.out]; simp [maxLen]; omega
          have h16b : (l.length + 1) * 16 ≤ 140737488355328 := by rw [HLN.out]; omega
          clear hws z1 z2 l1 l2 how HW
          go_wp2
          rw [← HWA.out, ← HGG.out]
          rw [← HGG.out] at HKA
          have NE := Lib.hid (show u5.ownBlock ≠ some g from fun e => by have := (HO.out.block g e).2; have := HGG.out; omega)
          have HOAD := Lib.hid (OwnG.keep elStr_good (w' := wa.drew) HOA.out (fun _ h => h.elim) (fun _ h => h) fun _ _ => rfl : OwnSl 1 elStr 9 w2.heap.size wa.drew u5 l)
          have x0 : wa.cell? ⟨g, 0, none⟩ = some (.int .i64 pr) := HKA.out.cell 0
          have x2 : wa.cell? ⟨g, 2, none⟩ = some (.int .i64 pt) := HKA.out.cell 2
          go_region_held3 (fun w' => w'.cell? ⟨g, 0, none⟩ = some (.int .i64 pr) ∧ w'.cell? ⟨g, 2, none⟩ = some (.int .i64 pt)) (first | exact ⟨x0, x2⟩ | go_keep) (first
            | (clear tokT; go_at_call 45; refine (K2.out _ (HB2.out.trans (HB3.out.mono HB2.out.size))).mono ?_; rintro e w4 ⟨rfl, hb4⟩; have hk4 := HK3.out.below hb4 HK3.out.lt; have x0 : w4.cell? ⟨g, 0, none⟩ = some (.int .i64 pr) := hk4.cell 0; have x2 : w4.cell? ⟨g, 2, none⟩ = some (.int .i64 pt) := hk4.cell 2; have HK4 := Lib.hid hk4; have HO4 := Lib.hid (HO3.out.below elStr_good hb4); have HB4 := Lib.hid (HB3.out.trans (hb4.mono HB3.out.size)); have tokA : True := trivial; clear hk4 hb4)
            | (go_at_call 45; refine (K1.out _ (HB2.out.trans ((Below.drew HBA.out).mono HB2.out.size))).mono ?_; rintro e w3 ⟨rfl, hb3⟩; have hk3 : Blk w3 g 119 #[.int .i64 pr, .bool false, .int .i64 pt] := Blk.below (w := wa.drew) HKA.out hb3 HKA.out.lt; have x0 : w3.cell? ⟨g, 0, none⟩ = some (.int .i64 pr) := hk3.cell 0; have x2 : w3.cell? ⟨g, 2, none⟩ = some (.int .i64 pt) := hk3.cell 2; have HK3 := Lib.hid hk3; have HO3 := Lib.hid (OwnSl.below elStr_good (w := wa.drew) HOAD.out hb3); have HB3 := Lib.hid ((Below.drew HBA.out).trans (hb3.mono (Below.drew HBA.out).size)); have tokT : True := trivial; clear hk3 hb3)
            | (clear tokA; refine step_append_el rfl (.tmp 22) (.tmp 33) _ rfl E_strs elStr_good w2.heap.size u5 l rfl (HO4.out.alloc elStr_good _) ⟨w4.heap.size, 0, none⟩ 1 [.string (S ow)] rfl ow rfl (cells_new _ _ _ _) (oneCells rfl) rfl h63 h16b (Below.alloc HB4.out HB4.out.size (.cells #[.string (S ow)] 9)).size ?_; intro g5 cap5 w5 hown5 hg5 hat5; have hbel5 : Below w2.heap.size w2 w5 := below_own (Below.alloc HB4.out HB4.out.size (.cells #[.string (S ow)] 9)) (HO4.out.alloc elStr_good (.cells #[.string (S ow)] 9)) hg5 (Nat.le_refl _) (Below.alloc HB4.out HB4.out.size (.cells #[.string (S ow)] 9)).size; rw [← HTK.out] at hown5; have hk5 := Blk.grown (HK4.out.alloc (.cells #[.string (S ow)] 9)) hg5 NE.out; have x0 : w5.cell? ⟨g, 0, none⟩ = some (.int .i64 pr) := hk5.cell 0; have x2 : w5.cell? ⟨g, 2, none⟩ = some (.int .i64 pt) := hk5.cell 2; have HO5 := Lib.hid hown5; have HB5 := Lib.hid hbel5; clear hown5 hbel5 hg5 hat5 hk5))
          all_goals go_wp2
          all_goals go_roundw
          case rel => exact ⟨k + 1, by omega, by go_num, HB5.out, HO5.out⟩
          case measure => simp [intOf]; omega
        · have hws := HW.out (⟨#[87]⟩ : ByteArray) rfl
          have z1 : ((⟨#[87]⟩ : ByteArray) : ByteArray).size ≤ 1 := by decide
          have z2 : (⟨#[58]⟩ : ByteArray).size = 1 := rfl
          have a1 := fun W => run_string_add_sum (P := Tryz.prog) W (S t1) (⟨#[87]⟩ : ByteArray) (by rw [S_size]; omega)
          have a2 := fun W => run_string_add_sum (P := Tryz.prog) W (S t1 ++ (⟨#[87]⟩ : ByteArray)) ⟨#[58]⟩ (by rw [ByteArray.size_append, S_size]; omega)
          have a3 := fun W => run_string_add_sum (P := Tryz.prog) W (S t1 ++ (⟨#[87]⟩ : ByteArray) ++ ⟨#[58]⟩) (S t2) (by rw [ByteArray.size_append, ByteArray.size_append, S_size, S_size]; omega)
          obtain ⟨ow, how⟩ : ∃ ow, ow = otcW ⟨pr, true, pt⟩ := ⟨_, rfl⟩
          rw [← how] at HTK hws
          rw [hws] at a3
          have h63 : l.length + 1 ≤ maxLen := by rw [HLN.out]; simp [maxLen]; omega
          have h16b : (l.length + 1) * 16 ≤ 140737488355328 := by rw [HLN.out]; omega
          clear hws z1 z2 l1 l2 how HW
          go_wp2
          rw [← HWA.out, ← HGG.out]
          rw [← HGG.out] at HKA
          have NE := Lib.hid (show u5.ownBlock ≠ some g from fun e => by have := (HO.out.block g e).2; have := HGG.out; omega)
          have HOAD := Lib.hid (OwnG.keep elStr_good (w' := wa.drew) HOA.out (fun _ h => h.elim) (fun _ h => h) fun _ _ => rfl : OwnSl 1 elStr 9 w2.heap.size wa.drew u5 l)
          have x0 : wa.cell? ⟨g, 0, none⟩ = some (.int .i64 pr) := HKA.out.cell 0
          have x2 : wa.cell? ⟨g, 2, none⟩ = some (.int .i64 pt) := HKA.out.cell 2
          go_region_held3 (fun w' => w'.cell? ⟨g, 0, none⟩ = some (.int .i64 pr) ∧ w'.cell? ⟨g, 2, none⟩ = some (.int .i64 pt)) (first | exact ⟨x0, x2⟩ | go_keep) (first
            | (clear tokT; go_at_call 45; refine (K2.out _ (HB2.out.trans (HB3.out.mono HB2.out.size))).mono ?_; rintro e w4 ⟨rfl, hb4⟩; have hk4 := HK3.out.below hb4 HK3.out.lt; have x0 : w4.cell? ⟨g, 0, none⟩ = some (.int .i64 pr) := hk4.cell 0; have x2 : w4.cell? ⟨g, 2, none⟩ = some (.int .i64 pt) := hk4.cell 2; have HK4 := Lib.hid hk4; have HO4 := Lib.hid (HO3.out.below elStr_good hb4); have HB4 := Lib.hid (HB3.out.trans (hb4.mono HB3.out.size)); have tokA : True := trivial; clear hk4 hb4)
            | (go_at_call 45; refine (K1.out _ (HB2.out.trans ((Below.drew HBA.out).mono HB2.out.size))).mono ?_; rintro e w3 ⟨rfl, hb3⟩; have hk3 : Blk w3 g 119 #[.int .i64 pr, .bool true, .int .i64 pt] := Blk.below (w := wa.drew) HKA.out hb3 HKA.out.lt; have x0 : w3.cell? ⟨g, 0, none⟩ = some (.int .i64 pr) := hk3.cell 0; have x2 : w3.cell? ⟨g, 2, none⟩ = some (.int .i64 pt) := hk3.cell 2; have HK3 := Lib.hid hk3; have HO3 := Lib.hid (OwnSl.below elStr_good (w := wa.drew) HOAD.out hb3); have HB3 := Lib.hid ((Below.drew HBA.out).trans (hb3.mono (Below.drew HBA.out).size)); have tokT : True := trivial; clear hk3 hb3)
            | (clear tokA; refine step_append_el rfl (.tmp 22) (.tmp 33) _ rfl E_strs elStr_good w2.heap.size u5 l rfl (HO4.out.alloc elStr_good _) ⟨w4.heap.size, 0, none⟩ 1 [.string (S ow)] rfl ow rfl (cells_new _ _ _ _) (oneCells rfl) rfl h63 h16b (Below.alloc HB4.out HB4.out.size (.cells #[.string (S ow)] 9)).size ?_; intro g5 cap5 w5 hown5 hg5 hat5; have hbel5 : Below w2.heap.size w2 w5 := below_own (Below.alloc HB4.out HB4.out.size (.cells #[.string (S ow)] 9)) (HO4.out.alloc elStr_good (.cells #[.string (S ow)] 9)) hg5 (Nat.le_refl _) (Below.alloc HB4.out HB4.out.size (.cells #[.string (S ow)] 9)).size; rw [← HTK.out] at hown5; have hk5 := Blk.grown (HK4.out.alloc (.cells #[.string (S ow)] 9)) hg5 NE.out; have x0 : w5.cell? ⟨g, 0, none⟩ = some (.int .i64 pr) := hk5.cell 0; have x2 : w5.cell? ⟨g, 2, none⟩ = some (.int .i64 pt) := hk5.cell 2; have HO5 := Lib.hid hown5; have HB5 := Lib.hid hbel5; clear hown5 hbel5 hg5 hat5 hk5))
          all_goals go_wp2
          all_goals go_roundw
          case rel => exact ⟨k + 1, by omega, by go_num, HB5.out, HO5.out⟩
          case measure => simp [intOf]; omega
      · obtain rfl : k = d.length := by omega
        have hsl := hown.sl elStr_good
        rw [List.take_of_length_le (Nat.le_refl _)] at hsl
        obtain ⟨A5, c5, rfl, hc5, hc6⟩ := hsl.shape
        have hml : (d.map otcW).length = d.length := by simp
        obtain ⟨jb, jo, hA5, hjb, _⟩ := hsl.str_at (k := 0) (by rw [hml]; omega)
        subst hA5
        have hcs : ∀ (j : Nat) x, ((d.map otcW).map S)[j]? = some x → wr.cell? ⟨jb, jo + j, none⟩ = some (.string x) := fun j x hj => by
          have hjl : j < (d.map otcW).length := by have := (List.getElem?_eq_some_iff.1 hj).1; simpa using this
          obtain ⟨b', o', e', _, hcell⟩ := hsl.str_at hjl
          injection e' with e'
          injection e' with e1 e2 e3
          subst e1
          subst e2
          rw [List.getElem?_map, List.getElem?_eq_getElem hjl] at hj
          simp only [Option.map_some, Option.some.injEq] at hj
          rw [← hj]; exact hcell
        have hxs : ((d.map otcW).map S).map (·.data.toList) = d.map otcW := by rw [List.map_map, show ((fun x : ByteArray => x.data.toList) ∘ S) = id from by funext x; rfl, List.map_id]
        have hxl : ((d.map otcW).map S).length = d.length := by simp
        have hjn := Tryz.strings_Join jb jo c5 ((d.map otcW).map S) ⟨#[32]⟩ wr hcs hjb.2 (by rw [hxl]; omega) (by rw [hxl, ← hml]; exact hc5) (by
          rw [hxs]
          have := join_len (xs := d.map otcW) (sep := [32]) (B := 50) fun x hx => by obtain ⟨o, ho, rfl⟩ := List.mem_map.1 hx; exact otcW_len (HOK.out o ho)
          rw [hml] at this
          have e : (⟨#[32]⟩ : ByteArray).data.toList = [32] := rfl
          rw [e]
          simp only [List.length_cons, List.length_nil] at this
          omega)
        rw [hxs, hxl] at hjn
        rw [hml]
        have HJ := Lib.hid hjn
        clear hbw hown hsl hcs hjn hxs hxl hjb hb
        go_wp2_with (go_at_call 82; refine HJ.out.mono ?_; rintro e w5 ⟨rfl, hb5⟩; have HB5 := Lib.hid (HB.out.trans (hb5.mono HB.out.size)); clear hb5)
        go_ret2
        exact ⟨by rw [HZ.out] <;> rfl, HB5.out⟩
  · rw [if_pos h0] at hz
    obtain ⟨z9, hz9⟩ : ∃ z9, z9 = checkD d := ⟨_, rfl⟩
    rw [← hz9] at kc hz h0
    have g1 : (z9 != 0) = true := by rw [bne_iff_ne]; exact h0
    have KC := Lib.hid kc
    have HZ := Lib.hid hz
    clear kc hz h0 h hz9 hg
    go_enter Tryz.func39, Tryz.ntmps39
    go_wp2_with (go_at_call 78; refine KC.out.mono ?_; rintro e w2 ⟨rfl, hb2⟩; have HB2 := Lib.hid hb2; clear hb2)
    go_ret2
    exact ⟨by rw [HZ.out] <;> rfl, HB2.out⟩
end Go.Proofs.YtglkejlimeakbaaGreatDoor

namespace Go.Proofs.YtglkejlimeakbaaGreatDoor
open Go.RowKit

theorem pieces_mem (c : UInt8) : ∀ (l : List UInt8), ∀ p ∈ pieces c l, p.length ≤ l.length := by
  intro l
  induction l with
  | nil => intro p hp; simp [pieces] at hp; subst hp; simp
  | cons x l ih =>
    intro p hp
    rw [pieces] at hp
    split at hp
    · rcases List.mem_cons.1 hp with rfl | hp
      · simp
      · have := ih p hp; simp; omega
    · cases hq : pieces c l with
      | nil => rw [hq] at hp; simp at hp; subst hp; simp
      | cons q r =>
        rw [hq] at hp
        rcases List.mem_cons.1 hp with rfl | hp
        · have := ih q (by rw [hq]; simp); simp; omega
        · have := ih p (by rw [hq]; simp [hp]); simp; omega
theorem cut_le (l sep : List UInt8) : (Lib.cut l sep).1.length ≤ l.length ∧ (Lib.cut l sep).2.1.length ≤ l.length := by
  unfold Lib.cut
  split
  · simp; omega
  · simp
theorem trimSuffix_le (l p : List UInt8) : (Lib.trimSuffix l p).length ≤ l.length := by unfold Lib.trimSuffix; split <;> simp <;> omega
theorem E_otc : ElemOf Tryz.prog 73 119 3 24 := ElemOf.mk (z := .agg #[.int .i64 0, .bool false, .int .i64 0]) Tryz.underlying73 (by kernel_rfl) rfl (by decide)
/-- Outcomes and an error, handed back. -/
def OtcPost (w : World) (r : List Otc × Int) (e : Ending) (w' : World) : Prop :=
  ∃ v, e = .returned (.tuple #[v, .int .i64 r.2]) ∧ Sl 3 elOtc w' (fun x => w.heap.size ≤ x ∧ x < w'.heap.size) v r.1 ∧ Below w.heap.size w w'
@[go_sem] theorem build_otc3 (x y : Int) (b : Bool) (w : World) : (Instr.build 119 #[(0, .int .i64 x), (1, .bool b), (2, .int .i64 y)]).run Tryz.prog w = .ok (.agg #[.int .i64 x, .bool b, .int .i64 y]) w := run_build w 119 _ _ (by kernel_rfl)
set_option maxRecDepth 100000 in
set_option maxHeartbeats 1000000 in
theorem ch_Parse (s : ByteArray) (w : World) (hg : GlobN w) (hs : s.size ≤ 1000000000) : Calls Tryz.prog 37 #[.string s] w (OtcPost w (parseC s.data.toList)) := by
  obtain ⟨z, hz⟩ : ∃ z, z = parseC s.data.toList := ⟨_, rfl⟩
  rw [← hz]
  unfold parseC at hz
  obtain ⟨ps, hps⟩ : ∃ ps, ps = pieces 32 s.data.toList := ⟨_, rfl⟩
  have ks := str_Split 32 s w hg.glob (by omega)
  have hplen := pieces_len 32 s.data.toList
  have hpmem := pieces_mem 32 s.data.toList
  have hsl : s.data.toList.length = s.size := by simp
  rw [← hps] at hz ks hplen hpmem
  rw [hsl] at hplen hpmem
  have KS := Lib.hid ks
  have HZ := Lib.hid hz
  have HG := Lib.hid hg
  have HPM := Lib.hid hpmem
  clear hz ks hg hps hpmem hsl
  go_enter Tryz.func37, Tryz.ntmps37
  go_wp2_with (go_at_call 55; refine KS.out.mono ?_; rintro e w1 ⟨v1, rfl, hs1, hb1⟩; obtain ⟨A, c, rfl, hc, hc2⟩ := hs1.shape; have HS1 := Lib.hid hs1; have HB1 := Lib.hid hb1; clear hs1 hb1)
  go_loopw [4, 20] (fun v i wr => ∃ k : Nat, k ≤ ps.length ∧ i = .int .i64 k ∧ Below w1.heap.size w1 wr ∧ OwnSl 3 elOtc 119 w1.heap.size wr v ((ps.take k).map pieceO) ∧ Hid ((ps.take k).all pieceOk = true)) (fun _ i _ => ps.length - (intOf i).toNat)
  case atStart => exact ⟨0, Nat.zero_le _, rfl, Below.refl _ _, OwnSl.nil _, Lib.hid rfl⟩
  case round =>
    obtain ⟨k, hk, rfl, hbw, hown, hall⟩ := hrel
    have hbb := HB1.out.trans (hbw.mono HB1.out.size)
    have HBB := Lib.hid hbb
    have HBW := Lib.hid hbw
    have HO := Lib.hid hown
    by_cases hlt : k < ps.length
    · obtain ⟨pb, po, rfl, hpF, p0'⟩ := HS1.out.str_at hlt
      have p0 := (hbw.cell (p := ⟨pb, po + k, none⟩) hpF.2).trans p0'
      have hpl := HPM.out _ (List.getElem_mem hlt)
      have htk : ps.take (k + 1) = ps.take k ++ [ps[k]] := List.take_succ_eq_append_getElem hlt
      have hbad : pieceOk ps[k] = false → ps.all pieceOk = false := fun h => by
        rw [Bool.eq_false_iff]; intro h2
        have := List.all_eq_true.1 h2 _ (List.getElem_mem hlt)
        rw [h] at this; cases this
      obtain ⟨p, hp⟩ : ∃ p, p = ps[k] := ⟨_, rfl⟩
      rw [← hp] at p0 hpl htk hbad
      have c1 := cut_le p [58]
      have kc : ∀ W, Below w.heap.size w W → Calls Tryz.prog 75 #[.string (S p), .string ⟨#[58]⟩] W fun e W' => e = .returned (.tuple #[.string (S (Lib.cut p [58]).1), .string (S (Lib.cut p [58]).2.1), .bool (Lib.cut p [58]).2.2]) ∧ Below W.heap.size W W' := fun W hW => by
        refine (Tryz.strings_Cut_shaped (S p) ⟨#[58]⟩ W (HG.out.below hW).glob.shaped (by rw [S_size]; omega)).mono ?_
        rintro e W' ⟨rfl, n, rfl⟩
        exact ⟨rfl, Below.drewN_ (Below.refl _ _) _⟩
      have kx : ∀ W, Calls Tryz.prog 76 #[.string (S (Lib.cut p [58]).1), .string ⟨#[87]⟩] W fun e W' => e = .returned (.tuple #[.string (S (partA p)), .bool (partW p)]) ∧ W = W' := fun W => by
        refine (Tryz.strings_CutSuffix (S (Lib.cut p [58]).1) ⟨#[87]⟩ W (by rw [S_size]; omega)).mono ?_
        rintro e W' ⟨rfl, rfl⟩
        exact ⟨rfl, rfl⟩
      have hpa : (partA p).length ≤ 1000000000 := by have := trimSuffix_le (Lib.cut p [58]).1 [87]; unfold partA; omega
      have hpb : (partB p).length ≤ 1000000000 := by unfold partB; omega
      have kn1 := fun W (hW : Below w.heap.size w W) => text_Number (S (partA p)) 0 7 W (HG.out.below hW) (by rw [S_size]; omega)
      have kn2 := fun W (hW : Below w.heap.size w W) => text_Number (S (partB p)) 1 16 W (HG.out.below hW) (by rw [S_size]; omega)
      simp only [S_data] at kn1 kn2
      have hpo : pieceO p = ⟨(numberS (partA p) 0 7).1, partW p, (numberS (partB p) 1 16).1⟩ := rfl
      have hpk : pieceOk p = (decide ((numberS (partA p) 0 7).2 = 0) && decide ((numberS (partB p) 1 16).2 = 0)) := rfl
      have hcb : (Lib.cut p [58]).2.1 = partB p := rfl
      rw [hcb] at kc
      obtain ⟨⟨n1, e1⟩, hn1⟩ : ∃ q, q = numberS (partA p) 0 7 := ⟨_, rfl⟩
      obtain ⟨⟨n2, e2⟩, hn2⟩ : ∃ q, q = numberS (partB p) 1 16 := ⟨_, rfl⟩
      rw [← hn1] at kn1 hpo hpk
      rw [← hn2] at kn2 hpo hpk
      dsimp only at kn1 kn2 hpo hpk
      obtain ⟨pa, hpae⟩ : ∃ pa, pa = partA p := ⟨_, rfl⟩
      obtain ⟨pbb, hpbe⟩ : ∃ pb, pb = partB p := ⟨_, rfl⟩
      obtain ⟨pw, hpwe⟩ : ∃ pw, pw = partW p := ⟨_, rfl⟩
      obtain ⟨ca, hcae⟩ : ∃ ca, ca = (Lib.cut p [58]).1 := ⟨_, rfl⟩
      obtain ⟨cw, hcwe⟩ : ∃ cw, cw = (Lib.cut p [58]).2.2 := ⟨_, rfl⟩
      rw [← hcae] at kc kx
      rw [← hcwe, ← hpbe] at kc
      rw [← hpae, ← hpwe] at kx
      rw [← hpae] at kn1
      rw [← hpbe] at kn2
      rw [← hpwe] at hpo
      have KC := Lib.hid kc
      have KX := Lib.hid kx
      have KN1 := Lib.hid kn1
      have KN2 := Lib.hid kn2
      have HTK := Lib.hid htk
      have HPO := Lib.hid hpo
      have HPK := Lib.hid hpk
      have HBAD := Lib.hid hbad
      have hlen : ((ps.take k).map pieceO).length = k := by simp; omega
      have HLN := Lib.hid hlen
      clear hbw hown hbb hpl htk hbad c1 kc kx hpa hpb kn1 kn2 hpo hpk hcb hn1 hn2 hpae hpbe hpwe hcae hcwe hp p0' hlen
      by_cases he1 : e1 = 0
      · by_cases he2 : e2 = 0
        · have HOKP := Lib.hid (show pieceOk p = true by rw [HPK.out, he1, he2]; rfl)
          subst he1
          subst he2
          go_wp2_with (first
            | (go_at_call 75; refine (KC.out _ HBB.out).mono ?_; rintro e w2 ⟨rfl, hb2⟩; have HB2 := Lib.hid (HBB.out.trans (hb2.mono HBB.out.size)); have HO2 := Lib.hid (HO.out.below elOtc_good hb2); have HC2 := Lib.hid (HBW.out.trans (hb2.mono HBW.out.size)); clear hb2)
            | (go_at_call 76; refine (KX.out _).mono ?_; rintro e w3 ⟨rfl, rfl⟩)
            | (go_at_call 77; clear tokN; refine (KN2.out _ HB4.out).mono ?_; rintro e w5 ⟨rfl, hb5⟩; have HB5 := Lib.hid (HB4.out.trans (hb5.mono HB4.out.size)); have HO5 := Lib.hid (HO4.out.below elOtc_good hb5); have HC5 := Lib.hid (HC4.out.trans (hb5.mono HC4.out.size)); clear hb5)
            | (go_at_call 77; refine (KN1.out _ HB2.out).mono ?_; rintro e w4 ⟨rfl, hb4⟩; have HB4 := Lib.hid (HB2.out.trans (hb4.mono HB2.out.size)); have HO4 := Lib.hid (HO2.out.below elOtc_good hb4); have HC4 := Lib.hid (HC2.out.trans (hb4.mono HC2.out.size)); have tokN : True := trivial; clear hb4)
            | (at_builtin; refine wpList_append_sl _ rfl (.tmp 51) (.tmp 56) _ rfl E_otc elOtc_good w1.heap.size _ ((ps.take k).map pieceO) rfl (HO5.out.alloc elOtc_good _) ⟨w5.heap.size, 0, none⟩ 1 [.int .i64 n1, .bool pw, .int .i64 n2] rfl ⟨n1, pw, n2⟩ rfl (cells_new _ _ _ _) (oneCells rfl) rfl (by rw [HLN.out]; simp only [maxLen]; omega) (by rw [HLN.out]; omega) (by have := HC5.out.size; simp; omega) ?_; intro v6 w6 hown6 hg6 hat6; have hb6 : Below w1.heap.size w1 w6 := below_own (Below.alloc HC5.out HC5.out.size (.cells #[.int .i64 n1, .bool pw, .int .i64 n2] 119)) (HO5.out.alloc elOtc_good (.cells #[.int .i64 n1, .bool pw, .int .i64 n2] 119)) hg6 (Nat.le_refl _) (by have := HC5.out.size; simp; omega); have HO6 := Lib.hid hown6; have HB6 := Lib.hid hb6; clear hown6 hg6 hat6 hb6))
          go_roundw
          case rel => exact ⟨k + 1, by omega, by go_num, HB6.out, by rw [HTK.out, List.map_append]; show OwnSl 3 elOtc _ _ _ _ ((ps.take k).map pieceO ++ [pieceO p]); rw [HPO.out]; exact HO6.out, Lib.hid (by rw [HTK.out, List.all_append, hall.out]; simp [HOKP.out])⟩
          case measure => simp [intOf]; omega
        · have HZ2 := Lib.hid (show z = ([], 4) by rw [HZ.out, if_pos (HBAD.out (by rw [HPK.out, he1, decide_eq_false he2, Bool.and_false]))])
          have g2 : (e2 != 0) = true := by rw [bne_iff_ne]; exact he2
          subst he1
          clear he2
          go_wp2_with (first
            | (go_at_call 75; refine (KC.out _ HBB.out).mono ?_; rintro e w2 ⟨rfl, hb2⟩; have HB2 := Lib.hid (HBB.out.trans (hb2.mono HBB.out.size)); clear hb2)
            | (go_at_call 76; refine (KX.out _).mono ?_; rintro e w3 ⟨rfl, rfl⟩)
            | (go_at_call 77; clear tokN; refine (KN2.out _ HB4.out).mono ?_; rintro e w5 ⟨rfl, hb5⟩; have HB5 := Lib.hid (HB4.out.trans (hb5.mono HB4.out.size)); clear hb5)
            | (go_at_call 77; refine (KN1.out _ HB2.out).mono ?_; rintro e w4 ⟨rfl, hb4⟩; have HB4 := Lib.hid (HB2.out.trans (hb4.mono HB2.out.size)); have tokN : True := trivial; clear hb4))
          go_ret2
          exact ⟨_, by rw [HZ2.out] <;> rfl, by rw [HZ2.out]; exact Sl.nil _ _, HB5.out⟩
      · have HZ2 := Lib.hid (show z = ([], 4) by rw [HZ.out, if_pos (HBAD.out (by rw [HPK.out, decide_eq_false he1, Bool.false_and]))])
        have g1 : (e1 != 0) = true := by rw [bne_iff_ne]; exact he1
        clear he1
        go_wp2_with (first
          | (go_at_call 75; refine (KC.out _ HBB.out).mono ?_; rintro e w2 ⟨rfl, hb2⟩; have HB2 := Lib.hid (HBB.out.trans (hb2.mono HBB.out.size)); clear hb2)
          | (go_at_call 76; refine (KX.out _).mono ?_; rintro e w3 ⟨rfl, rfl⟩)
          | (go_at_call 77; clear tokN; refine (KN2.out _ HB4.out).mono ?_; rintro e w5 ⟨rfl, hb5⟩; have HB5 := Lib.hid (HB4.out.trans (hb5.mono HB4.out.size)); clear hb5)
          | (go_at_call 77; refine (KN1.out _ HB2.out).mono ?_; rintro e w4 ⟨rfl, hb4⟩; have HB4 := Lib.hid (HB2.out.trans (hb4.mono HB2.out.size)); have tokN : True := trivial; clear hb4))
        go_ret2
        exact ⟨_, by rw [HZ2.out] <;> rfl, by rw [HZ2.out]; exact Sl.nil _ _, HB5.out⟩
    · obtain rfl : k = ps.length := by omega
      have hsl := hown.sl elOtc_good
      have ha := hall.out
      rw [List.take_of_length_le (Nat.le_refl _)] at hsl ha
      have hz1 := HZ.out
      rw [ha, if_neg (by simp)] at hz1
      obtain ⟨d, hd⟩ : ∃ d, d = ps.map pieceO := ⟨_, rfl⟩
      rw [← hd] at hsl hz1
      obtain ⟨B, c5, rfl, hc5, hc6⟩ := hsl.shape
      have kt := ch_Text d _ wr (HG.out.below hbb) (hsl.keep elOtc_good (Same.refl _ _) fun b h => h.2)
      obtain ⟨⟨t, et⟩, hte⟩ : ∃ q, q = textC d := ⟨_, rfl⟩
      rw [← hte] at kt hz1
      dsimp only at kt hz1
      have KT := Lib.hid kt
      have HSL := Lib.hid hsl
      have hz11 := HB1.out.size
      have HZ11 := Lib.hid hz11
      clear hbw hown hbb hsl ha kt hte hd hall hz11
      by_cases het : et = 0
      · by_cases hts : t = s.data.toList
        · have HZ2 := Lib.hid (show z = (d, 0) by rw [hz1, if_neg (fun h => h.elim (fun h => h het) (fun h => h hts))])
          have g1 : (t == s.toList) = true := by rw [ByteArray.toList_eq]; exact beq_iff_eq.2 hts
          subst het
          clear hz1 hts
          go_wp2_with (go_at_call 39; refine KT.out.mono ?_; rintro e w2 ⟨rfl, hb2⟩; have HB2 := Lib.hid hb2; clear hb2)
          go_ret2
          refine ⟨_, by rw [HZ2.out] <;> rfl, ?_, HBB.out.trans (HB2.out.mono HBB.out.size)⟩
          rw [HZ2.out]
          exact HSL.out.keep elOtc_good (Same.below HB2.out fun b h => h.2) fun b h => ⟨by have := h.1; have := HZ11.out; omega, Nat.lt_of_lt_of_le h.2 HB2.out.size⟩
        · have HZ2 := Lib.hid (show z = ([], 4) by rw [hz1, if_pos (.inr hts)])
          have g1 : (t == s.toList) = false := by rw [ByteArray.toList_eq]; exact beq_eq_false_iff_ne.2 hts
          subst het
          clear hz1 hts
          go_wp2_with (go_at_call 39; refine KT.out.mono ?_; rintro e w2 ⟨rfl, hb2⟩; have HB2 := Lib.hid hb2; clear hb2)
          go_ret2
          exact ⟨_, by rw [HZ2.out] <;> rfl, by rw [HZ2.out]; exact Sl.nil _ _, HBB.out.trans (HB2.out.mono HBB.out.size)⟩
      · have HZ2 := Lib.hid (show z = ([], 4) by rw [hz1, if_pos (.inl het)])
        have g1 : (et != 0) = true := by rw [bne_iff_ne]; exact het
        clear hz1 het
        go_wp2_with (go_at_call 39; refine KT.out.mono ?_; rintro e w2 ⟨rfl, hb2⟩; have HB2 := Lib.hid hb2; clear hb2)
        go_ret2
        exact ⟨_, by rw [HZ2.out] <;> rfl, by rw [HZ2.out]; exact Sl.nil _ _, HBB.out.trans (HB2.out.mono HBB.out.size)⟩
end Go.Proofs.YtglkejlimeakbaaGreatDoor

namespace Go.Proofs.YtglkejlimeakbaaGreatDoor
open Go.RowKit

theorem flat_lenG {css : List (List Value)} {size : Nat} (h : ∀ cs ∈ css, cs.length = size) : css.flatten.length = css.length * size := by
  induction css with
  | nil => simp
  | cons x css ih => rw [List.flatten_cons, List.length_append, ih (fun cs hc => h cs (by simp [hc])), h x (by simp), List.length_cons, Nat.succ_mul]; omega

/-- The cells of a slice that is not empty. -/
theorem Sl.rowsG {α : Type} {size : Nat} {R : World → (Nat → Prop) → List Value → α → Prop} {w : World} {F : Nat → Prop} {b o n c : Nat} {l : List α} (h : Sl size R w F (.slice (some ⟨b, o, none⟩) n c) l) (hs : 0 < size) :
    ∃ css : List (List Value), css.length = l.length ∧ (∀ cs ∈ css, cs.length = size) ∧ (∀ j u, css.flatten[j]? = some u → w.cell? ⟨b, o + j, none⟩ = some u) ∧
      (∀ (i : Nat) (a : α) (cs : List Value), l[i]? = some a → css[i]? = some cs → R w F cs a) := by
  have key : ∀ m, m ≤ l.length → ∃ css : List (List Value), css.length = m ∧ (∀ cs ∈ css, cs.length = size) ∧ (∀ j u, css.flatten[j]? = some u → w.cell? ⟨b, o + j, none⟩ = some u) ∧
      (∀ (i : Nat) (a : α) (cs : List Value), l[i]? = some a → css[i]? = some cs → R w F cs a) := by
    intro m
    induction m with
    | zero => intro _; exact ⟨[], rfl, by simp, by simp, by simp⟩
    | succ m ih =>
      intro hm
      obtain ⟨css, h1, h2, h3, h4⟩ := ih (by omega)
      obtain ⟨b', o', cs, e, hF, hcl, hcc, hel⟩ := h.at (k := m) (by omega)
      simp only [Option.some.injEq, Addr.mk.injEq] at e
      obtain ⟨rfl, rfl, _⟩ := e
      have hfl : css.flatten.length = m * size := by
        rw [flat_lenG h2, h1]
      refine ⟨css ++ [cs], by simp [h1], ?_, ?_, ?_⟩
      · intro c hc
        rcases List.mem_append.1 hc with hc | hc
        · exact h2 c hc
        · simp at hc; subst hc; exact hcl
      · intro j u hu
        rw [List.flatten_append, List.flatten_singleton] at hu
        by_cases hj : j < css.flatten.length
        · rw [List.getElem?_append_left hj] at hu; exact h3 j u hu
        · rw [List.getElem?_append_right (by omega)] at hu
          have := hcc (j - css.flatten.length) u hu
          rw [hfl] at this hj
          rw [show o + m * size + (j - m * size) = o + j from by omega] at this
          exact this
      · intro i a c hi hc
        by_cases hil : i < css.length
        · rw [List.getElem?_append_left hil] at hc; exact h4 i a c hi hc
        · have hi2 := (List.getElem?_eq_some_iff.1 hc).1
          have : i = m := by simp at hi2; omega
          subst this
          rw [List.getElem?_append_right (by omega)] at hc
          rw [h1, Nat.sub_self] at hc
          simp at hc; subst hc
          rw [List.getElem?_eq_getElem (by omega)] at hi
          obtain rfl := Option.some.inj hi
          exact hel
  exact key l.length (Nat.le_refl _)

/-- append of a whole slice onto an empty row just made: the row is the call's own. -/
theorem step_append_mine {P : Program} {ops : Array Oper} {o : Oper} {a : Act} {w : World} {K : Act → World → Prop} {Q : Exit → Act → World → Prop} {E : Prop} (hgd : o.guard = none) (s x : Operand) (t : TypeId)
    (ho : o.op = .call { callee := .builtin .append, args := #[s, x], argTypes := #[t, t] })
    {e : TypeId} {size bytes : Nat} (hE : ElemOf P t e size bytes) {α : Type} {R : World → (Nat → Prop) → List Value → α → Prop} (hR : Good R)
    (base : Nat) (ad0 : Addr) (l' : List α) (hs : a.eval s = .slice (some ad0) 0 0) (hown : OwnG size R e base w (.slice (some ad0) 0 0) NoG [])
    (F : Nat → Prop) (A : Option Addr) (n c : Nat) (hx : a.eval x = .slice A n c) (hsl : Sl size R w F (.slice A n c) l')
    (hRF : ∀ w G G' cs x, R w G cs x → R w G' cs x)
    (h1 : ∀ w F cs x, R w F cs x → ∀ u ∈ cs, u.oneCell' = true)
    (h63 : l'.length ≤ maxLen) (hbytes : l'.length * bytes ≤ 140737488355328) (hbase : base ≤ w.heap.size)
    (h : ∀ A' c' w', OwnSl size R e base w' (.slice A' n c') l' → Below base w w' → K (a.put o.dst (.slice A' n c')) w') :
    if Region.wanted o (yielded ops a.tmps) = true then Oper.wp P o a w K Q else E := by
  have hw : Region.wanted o (yielded ops a.tmps) = true := by simp [Region.wanted, hgd]
  rw [if_pos hw]
  have hown0 := hown
  obtain ⟨i, z, e1, e2, e3, e4, e5, e6, e7⟩ := hE
  obtain ⟨A', c', hv, hlc, hcm, hA⟩ := hsl
  injection hv with hv1 hv2 hv3
  subst hv2; subst hv3
  by_cases h0 : 0 < l'.length
  · obtain ⟨b, o', hab, hFb, _⟩ := hA h0
    obtain ⟨css', hl', hsz', hcell', hel''⟩ := Sl.rowsG (l := l') (b := b) (o := o') (n := l'.length) (c := c) ⟨A', c, by rw [← hab], hlc, hcm, hA⟩ e7
    rw [hv1, hab] at hx
    obtain ⟨css, hlen, ho', hsz, hel'⟩ := hown
    have hcss : css = [] := List.eq_nil_of_length_eq_zero (by simpa using hlen)
    subst hcss
    obtain ⟨v', w', hr, h2, h3, _, h4⟩ := run_append_own_at (P := P) w base t o.type e i z size bytes e1 e2 e3 e4 e5 e6 e7 (.slice (some ad0) 0 0) 0 [] ho' ⟨b, o', none⟩ l'.length c css'.flatten (by rw [flat_lenG hsz', hl'])
      (fun j u hu => by rw [show (⟨b, o', none⟩ : Addr).add j = ⟨b, o' + j, none⟩ from Addr.add_lit b o' j]; exact hcell' j u hu) (fun u hu => by
        obtain ⟨cs, hc, hu'⟩ := List.mem_flatten.1 hu
        obtain ⟨k, hk⟩ := List.mem_iff_getElem?.1 hc
        have hil : k < l'.length := by have := (List.getElem?_eq_some_iff.1 hk).1; omega
        exact h1 w F cs _ (hel'' k l'[k] cs (List.getElem?_eq_getElem hil) hk) u hu') (by omega) (by simpa using hbytes) hbase
    have hnew : OwnSl size R e base w' v' l' := by
      refine ⟨css', hl', by simpa using h2, hsz', fun k x cs hk hc => ?_⟩
      exact hR.keep (G := NoG) (hRF _ F NoG _ _ (hel'' k x cs hk hc)) (fun _ h => h.elim) fun _ h => h
    have hsl' := hnew.sl hR
    obtain ⟨A2, c2, hv2, _⟩ := hsl'.shape
    subst hv2
    unfold Oper.wp execOp
    simp only [ho, resolve, invoke, builtin, Sem.run_bind, Sem.run_pure, Result.andThen_ok, List.map_toArray, List.map_cons, List.map_nil, hs, hx, hr]
    exact h _ _ _ hnew (below_own (Below.refl base w) hown0 h3 (Nat.le_refl _) hbase)
  · have hn : l' = [] := List.eq_nil_of_length_eq_zero (by omega)
    subst hn
    have hr : (Builtin.append_ #[t, t] o.type #[.slice (some ad0) 0 0, .slice A 0 c]).run P w = .ok (.slice (some ad0) 0 0) w := by
      cases A with
      | none => exact run_append_nothing w t t o.type e i e1 e2 (some ad0) 0 0 (Nat.le_refl _) _ (Src.ofNil w e1 c)
      | some ad => exact run_append_nothing w t t o.type e i e1 e2 (some ad0) 0 0 (Nat.le_refl _) _ (Src.ofSlice w e1 ad 0 c [] (by simp) (by simp) (by simp))
    simp only [List.length_nil] at hx h hr ⊢
    unfold Oper.wp execOp
    simp only [ho, resolve, invoke, builtin, Sem.run_bind, Sem.run_pure, Result.andThen_ok, List.map_toArray, List.map_cons, List.map_nil, hs, hx, hr]
    exact h (some ad0) 0 w hown0 (Below.refl _ _)
theorem flat_setG {α : Type} {size : Nat} : ∀ (css : List (List α)) (i j : Nat) (u : α), (∀ cs ∈ css, cs.length = size) → j < size → ∀ (hi : i < css.length), (css.set i (css[i].set j u)).flatten = css.flatten.set (i * size + j) u
  | cs :: css, 0, j, u, h, hj, _ => by
    have h0 := h cs (by simp)
    simp only [List.set_cons_zero, List.getElem_cons_zero, List.flatten_cons, Nat.zero_mul, Nat.zero_add]
    rw [List.set_append_left _ _ (by omega)]
  | cs :: css, i + 1, j, u, h, hj, hi => by
    have h0 := h cs (by simp)
    have ih := flat_setG css i j u (fun c hc => h c (by simp [hc])) hj (by simpa using hi)
    simp only [List.set_cons_succ, List.getElem_cons_succ, List.flatten_cons, ih]
    rw [List.set_append_right _ _ (by rw [h0, Nat.succ_mul]; omega), h0]
    congr 2
    rw [Nat.succ_mul]; omega
/-- A store into an element of a row of the call's own. -/
theorem OwnG.put {α : Type} {size e base : Nat} {R : World → (Nat → Prop) → List Value → α → Prop} {G : Nat → Prop} {w : World} {g n cap : Nat} {l : List α} (h : OwnG size R e base w (.slice (some ⟨g, 0, none⟩) n cap) G l)
    (hRw : ∀ w' cs a, R w G cs a → R w' G cs a) {i j : Nat} (hi : i < l.length) (hj : j < size) (u : Value) (a' : α) (hset : ∀ cs w', R w G cs l[i] → R w' G (cs.set j u) a') :
    OwnG size R e base (w.setCell ⟨g, i * size + j, none⟩ u) (.slice (some ⟨g, 0, none⟩) n cap) G (l.set i a') := by
  obtain ⟨css, hlen, ho, hsz, hel⟩ := h
  have hn : n = l.length := by
    rcases ho.2 with ⟨hv, _⟩ | ⟨g', cap', cur, hv, _⟩
    · cases hv
    · injection hv
  subst hn
  have hic : i < css.length := by omega
  have hst := (ho.stored (i * size + j) u).1
  rw [← flat_setG css i j u hsz hj hic] at hst
  refine ⟨css.set i (css[i].set j u), by simp [hlen], by simpa using hst, ?_, ?_⟩
  · intro cs hc
    rcases List.mem_or_eq_of_mem_set hc with h | h
    · exact hsz cs h
    · rw [h, List.length_set]; exact hsz _ (List.getElem_mem hic)
  · intro k a cs hk hc
    by_cases hki : k = i
    · subst hki
      rw [List.getElem?_set_self hi] at hk
      rw [List.getElem?_set_self hic] at hc
      obtain rfl := Option.some.inj hk
      obtain rfl := Option.some.inj hc
      exact hset _ _ (hel k _ _ (List.getElem?_eq_getElem hi) (List.getElem?_eq_getElem hic))
    · rw [List.getElem?_set_ne (fun e => hki e.symm)] at hk hc
      exact hRw _ _ _ (hel k a cs hk hc)
/-- The same at a list of operations. -/
theorem wpList_append_mine {P : Program} {ops : Array Oper} {rest : List Oper} {o : Oper} {a : Act} {w : World} {Q : Exit → Act → World → Prop} (hgd : o.guard = none) (s x : Operand) (t : TypeId)
    (ho : o.op = .call { callee := .builtin .append, args := #[s, x], argTypes := #[t, t] })
    {e : TypeId} {size bytes : Nat} (hE : ElemOf P t e size bytes) {α : Type} {R : World → (Nat → Prop) → List Value → α → Prop} (hR : Good R)
    (base : Nat) (ad0 : Addr) (l' : List α) (hs : a.eval s = .slice (some ad0) 0 0) (hown : OwnG size R e base w (.slice (some ad0) 0 0) NoG [])
    (F : Nat → Prop) (A : Option Addr) (n c : Nat) (hx : a.eval x = .slice A n c) (hsl : Sl size R w F (.slice A n c) l')
    (hRF : ∀ w G G' cs x, R w G cs x → R w G' cs x)
    (h1 : ∀ w F cs x, R w F cs x → ∀ u ∈ cs, u.oneCell' = true)
    (h63 : l'.length ≤ maxLen) (hbytes : l'.length * bytes ≤ 140737488355328) (hbase : base ≤ w.heap.size)
    (h : ∀ A' c' w', OwnSl size R e base w' (.slice A' n c') l' → Below base w w' → wpList P ops Q rest (a.put o.dst (.slice A' n c')) w') : wpList P ops Q (o :: rest) a w := by
  refine wpList_plain hgd fun K hK => ?_
  have := step_append_mine (ops := ops) (K := K) (Q := Q) (E := True) hgd s x t ho hE hR base ad0 l' hs hown F A n c hx hsl hRF h1 h63 hbytes hbase fun A' c' w' h2 h3 => hK _ _ (h A' c' w' h2 h3)
  rwa [if_pos (by simp [Region.wanted, hgd])] at this
end Go.Proofs.YtglkejlimeakbaaGreatDoor

namespace Go.Proofs.YtglkejlimeakbaaGreatDoor
open Go.RowKit

theorem elOtc_F : ∀ w (G G' : Nat → Prop) cs x, elOtc w G cs x → elOtc w G' cs x := fun _ _ _ _ _ h => h
theorem elOtc_one : ∀ w (F : Nat → Prop) cs x, elOtc w F cs x → ∀ u ∈ cs, u.oneCell' = true := by
  intro w F cs x h u hu
  rw [h] at hu
  simp only [List.mem_cons, List.not_mem_nil, or_false] at hu
  rcases hu with rfl | rfl | rfl <;> rfl
set_option maxRecDepth 100000 in
set_option maxHeartbeats 2000000 in
theorem otc_Clone (l : List Otc) (v : Value) (F : Nat → Prop) (w : World) (h : Sl 3 elOtc w F v l) (hF : ∀ b, F b → b < w.heap.size) (hl : l.length ≤ 1000) :
    Calls Tryz.prog 121 #[v] w fun e w' => ∃ A c, e = .returned (.slice A l.length c) ∧ OwnSl 3 elOtc 119 w.heap.size w' (.slice A l.length c) l ∧ Below w.heap.size w w' := by
  obtain ⟨A, c, rfl, hc, hc2⟩ := h.shape
  have q : ∀ (w : World) n c, (binOp .eql 73 (.slice A n c) (.slice none 0 0)).run Tryz.prog w = .ok (.bool A.isNone) w := fun w n c => Lib.run_eql_slice_nil w _ _ A n c 0 0 Tryz.underlying73
  cases A with
  | none =>
    have h0 : l = [] := by
      cases l with
      | nil => rfl
      | cons a l => obtain ⟨b, o, cs, hA, _⟩ := h.at (k := 0) (by simp); cases hA
    subst h0
    clear h hF hc hc2
    go_enter Tryz.func121, Tryz.ntmps121
    go_wp2
    go_ret
    exact ⟨_, _, rfl, OwnSl.nil _, Below.refl _ _⟩
  | some ad =>
    have hown : OwnG 3 elOtc 119 w.heap.size (w.alloc (.cells #[] 119)) (.slice (some ⟨w.heap.size, 0, none⟩) 0 0) NoG [] := ⟨[], rfl, World.ownsRow_made w #[] 0 (Nat.le_refl _) (by decide) rfl, by simp, by simp⟩
    have hb1 : Below w.heap.size w (w.alloc (.cells #[] 119)) := Below.alloc (Below.refl _ _) (Nat.le_refl _) _
    have hsl := h.keep elOtc_good (Same.below hb1 hF) (G := F) fun _ h => h
    have hz : w.heap.size ≤ (w.alloc (.cells #[] 119)).heap.size := by simp
    have HO := Lib.hid hown
    have HS := Lib.hid hsl
    have HB := Lib.hid hb1
    have HZ := Lib.hid hz
    have h63 : l.length ≤ maxLen := by simp only [maxLen]; omega
    have h64 : l.length * 24 ≤ 140737488355328 := by omega
    clear h hF hown hb1 hsl hz hc hc2 hl
    go_enter Tryz.func121, Tryz.ntmps121
    go_wp2_with (at_builtin; refine wpList_append_mine rfl (.tmp 5) (.tmp 6) _ rfl E_otc elOtc_good w.heap.size ⟨w.heap.size, 0, none⟩ l rfl HO.out F (some ad) l.length c rfl HS.out elOtc_F elOtc_one h63 h64 HZ.out ?_; intro A1 c1 w1 hs1 hb1; have HS1 := Lib.hid hs1; have HB1 := Lib.hid hb1; clear hs1 hb1)
    go_ret
    exact ⟨_, _, rfl, HS1.out, HB.out.trans HB1.out⟩
/-! ### slices.SortFunc by chance.order -/
instance instOtcJ : Inhabited Otc := ⟨⟨0, false, 0⟩⟩
def encO (o : Otc) : List Value := [.int .i64 o.runs, .bool o.wick, .int .i64 o.wt]
theorem ordS_lt (a b : Otc) : ordS a b < 0 ↔ a.runs < b.runs ∨ (a.runs = b.runs ∧ a.wick = false ∧ b.wick = true) := by
  unfold ordS
  by_cases h : a.runs = b.runs
  · rw [if_neg (by simpa using h)]
    cases ha : a.wick <;> cases hb : b.wick <;> simp [h]
  · rw [if_pos h]
    by_cases h2 : a.runs < b.runs
    · rw [if_pos h2]; simp [h2]
    · rw [if_neg h2]; simp [h2, h]
theorem swoO : Sort.SWO (ltOf ordS) where
  irrefl x := by unfold ltOf; rw [decide_eq_false_iff_not, ordS_lt]; simp
  trans x y z h1 h2 := by
    unfold ltOf at *
    rw [decide_eq_true_eq, ordS_lt] at *
    rcases h1 with h1 | ⟨h1, h3, h4⟩ <;> rcases h2 with h2 | ⟨h2, h5, h6⟩
    · left; omega
    · left; omega
    · left; omega
    · rw [h4] at h5; cases h5
  ntrans x y z h1 h2 := by
    unfold ltOf at *
    rw [decide_eq_false_iff_not, ordS_lt] at *
    rcases Int.lt_trichotomy x.runs z.runs with h | h | h
    · exfalso
      rcases Int.lt_or_le x.runs y.runs with h3 | h3
      · exact h1 (.inl h3)
      · exact h2 (.inl (by omega))
    · rintro (h3 | ⟨_, h4, h5⟩)
      · omega
      · rcases Int.lt_trichotomy x.runs y.runs with h6 | h6 | h6
        · exact h1 (.inl h6)
        · cases hy : y.wick with
          | true => exact h1 (.inr ⟨h6, h4, hy⟩)
          | false => exact h2 (.inr ⟨by omega, hy, h5⟩)
        · exact h2 (.inl (by omega))
    · rintro (h3 | ⟨h3, _⟩) <;> omega
theorem cmpLaysO (blk off size : Nat) (w : World) : CmpLays Tryz.prog 120 #[] encO 3 ordS blk off size w :=
  fun m os dk _ x y => (ch_orderE x y _).mono fun e w' h => ⟨h.1, 0, #[.cells #[.int .i64 x.runs, .bool x.wick, .int .i64 x.wt] 119] ++ #[.cells #[.int .i64 y.runs, .bool y.wick, .int .i64 y.wt] 119], h.2.trans (by rw [Sort.alloc_eq_grow, Sort.alloc_eq_grow, Sort.grow_grow]; rfl)⟩
theorem getD3 {α : Type} [Inhabited α] (l : List α) {i : Nat} (h : i < l.length) : l.toArray[i]! = l[i] := by simp [h]
theorem holds_own {l : List Otc} {B g cap : Nat} {W : World} (h : OwnSl 3 elOtc 119 B W (.slice (some ⟨g, 0, none⟩) l.length cap) l) : Sort.HoldsK encO 3 W g 0 l.toArray := by
  obtain ⟨css, hlen, ho, hsz, hel⟩ := h
  intro t ht
  rw [Sort.size_flatK] at ht
  have htl : t < l.length * 3 := by simpa using ht
  have hi : t / 3 < l.length := by omega
  have hcs : css[t / 3]? = some css[t / 3] := List.getElem?_eq_getElem (by omega)
  have he : css[t / 3] = encO l[t / 3] := hel (t / 3) l[t / 3] css[t / 3] (List.getElem?_eq_getElem hi) hcs
  have hc3 : t % 3 < (encO l[t / 3]).length := Nat.mod_lt _ (by decide)
  have hu : css[t / 3][t % 3]? = some (encO l[t / 3])[t % 3] := by rw [he, List.getElem?_eq_getElem hc3]
  have hf := flatten_get hsz hcs hu
  rw [show t / 3 * 3 + t % 3 = t from by omega] at hf
  refine ⟨?_, by rw [Nat.zero_add]; exact ho.frozenAt t⟩
  rw [Nat.zero_add, ho.cellAt t (by simpa using htl), hf, Sort.get_flatK _ _ _ _ ht, getD3 l hi]
  have : (encO l[t / 3])[t % 3]! = (encO l[t / 3])[t % 3] := getElem!_pos (encO l[t / 3]) (t % 3) hc3
  rw [this]
  rfl
theorem sl_holds {l : List Otc} {g cap n : Nat} {W : World} (hn : n = l.length) (h1 : l.length ≤ cap) (h2 : cap ≤ maxLen) (h : Sort.HoldsK encO 3 W g 0 l.toArray) : Sl 3 elOtc W (fun b => b = g) (.slice (some ⟨g, 0, none⟩) n cap) l := by
  subst hn
  refine ⟨_, cap, rfl, h1, h2, fun _ => ⟨g, 0, rfl, rfl, fun i a hi => ?_⟩⟩
  have hil := (List.getElem?_eq_some_iff.1 hi).1
  have hia : l[i] = a := (List.getElem?_eq_some_iff.1 hi).2
  refine ⟨encO a, rfl, fun j u hj => ?_, rfl⟩
  have hj3 : j < 3 := (List.getElem?_eq_some_iff.1 hj).1
  have := (h.cell (i := i) (c := j) (by simpa using hil) hj3).1
  rw [this, getD3 l hil, hia, getElem!_pos (encO a) j (show j < (encO a).length from hj3)]
  exact congrArg some (List.getElem?_eq_some_iff.1 hj).2
theorem only_sorted {w : World} {g n : Nat} {os : Array Obj} (d : Array Otc) : Only g w (sortWorldK encO 3 w g 0 n d os) := by
  refine ⟨rfl, rfl, rfl, by simp [sortWorldK, Sort.putRowK, Sort.putRow, Sort.mapBlock, Sort.grow, Sort.ahead], fun k hk hne => ?_⟩
  unfold sortWorldK Sort.putRowK
  rw [Sort.heap_grow_old _ _ (by simpa using hk)]
  have : g ≠ k := fun e => hne (by rw [e])
  simp [Sort.putRow, Sort.mapBlock, Sort.ahead, Array.getElem?_modify, this]
set_option maxHeartbeats 1000000 in
theorem otc_Sort (l : List Otc) (B g cap : Nat) (W : World) (h : OwnSl 3 elOtc 119 B W (.slice (some ⟨g, 0, none⟩) l.length cap) l) (hl : l.length ≤ 1000) :
    Calls Tryz.prog 122 #[.slice (some ⟨g, 0, none⟩) l.length cap, .func (.func 120) #[] #[]] W fun e w' => e = .returned (.tuple #[]) ∧
      ∃ l' : List Otc, l'.Perm l ∧ l'.length = l.length ∧ (l'.Pairwise fun a b => befB b a = false) ∧ Sl 3 elOtc w' (fun b => b = g) (.slice (some ⟨g, 0, none⟩) l.length cap) l' ∧ Only g W w' := by
  have hb := h.block g rfl
  have hcap : l.length ≤ cap ∧ cap ≤ maxLen := by
    obtain ⟨css, hlen, ho, _⟩ := h
    rcases ho.2 with ⟨hv, _⟩ | ⟨g', cap', cur, hv, _, _, h1, h2, _⟩
    · cases hv
    · injection hv with _ _ e; subst e; exact ⟨h1, h2⟩
  have eg : ∀ args w, (callFunc 120 args).run Tryz.prog w = .ok (.enter 120 args) w := enters_of Tryz.func120 (by kernel_rfl) rfl
  have hH := holds_own h
  have hcon := AnyQ.slices_SortFunc Tryz.sortOtc 3 Tryz.isAgg119 Tryz.sizeOf119 encO (fun _ => rfl) (fun x v hv => by simp [encO] at hv; rcases hv with rfl | rfl | rfl <;> rfl) ordS swoO 120 #[] g 0 cap l.toArray W eg (cmpLaysO g 0 l.toArray.size W) hH hb.2 (by simp; omega)
  change Calls Tryz.prog 122 _ _ _ at hcon
  have hsz : l.toArray.size = l.length := by simp
  rw [hsz] at hcon
  refine hcon.mono ?_
  rintro e w' ⟨rfl, d', n, os, hp, hs, rfl⟩
  have hds : d'.size = l.length := by rw [hp.1]; simp
  refine ⟨rfl, d'.toList, ?_, by simpa using hds, ?_, ?_, only_sorted d'⟩
  · have := hp.2.2
    rw [show d'.extract 0 l.length = d' from by rw [← hds]; simp, show l.toArray.extract 0 l.length = l.toArray from by simp] at this
    simpa using this
  · rw [List.pairwise_iff_getElem]
    intro i j hi hj hij
    have := hs i j (Nat.zero_le _) hij (by rw [← hds]; simpa using hj)
    unfold ltOf at this
    rw [getElem!_pos d' j (by simpa using hj), getElem!_pos d' i (by simpa using hi)] at this
    simpa [befB] using this
  · have hH2 := holdsK_sortWorldK_c encO 3 W g 0 l.toArray d' n os hH hb.2 (by rw [hds]; simp)
    refine sl_holds (by simpa using hds.symm) (by simp; omega) hcap.2 ?_
    simpa using hH2
end Go.Proofs.YtglkejlimeakbaaGreatDoor

namespace Go.Proofs.YtglkejlimeakbaaGreatDoor
open Go.RowKit

theorem badN_ways (o : Otc) : (badN o = true ∧ ((decide (o.runs < 0) = true) ∨ (decide (o.runs < 0) = false ∧ decide (7 < o.runs) = true) ∨ (decide (o.runs < 0) = false ∧ decide (7 < o.runs) = false ∧ decide (o.wt < 0) = true) ∨ (decide (o.runs < 0) = false ∧ decide (7 < o.runs) = false ∧ decide (o.wt < 0) = false ∧ decide (16 < o.wt) = true)))
    ∨ (badN o = false ∧ decide (o.runs < 0) = false ∧ decide (7 < o.runs) = false ∧ decide (o.wt < 0) = false ∧ decide (16 < o.wt) = false) := by
  unfold badN
  cases decide (o.runs < 0) <;> cases decide (7 < o.runs) <;> cases decide (o.wt < 0) <;> cases decide (16 < o.wt) <;> simp
theorem norm_long {d : List Otc} (h : 64 < d.length) : normS d = ([], 9) := by unfold normS; rw [if_pos h]
theorem norm_bad {d : List Otc} (h : ¬ 64 < d.length) {o : Otc} (ho : o ∈ d) (hb : badN o = true) : normS d = ([], 2) := by
  unfold normS; rw [if_neg h, if_pos (List.any_eq_true.2 ⟨o, ho, hb⟩)]
theorem any_good {d : List Otc} (ho : ∀ o ∈ d, badN o = false) : ¬ d.any badN = true := fun h => by
  obtain ⟨o, hx, hb⟩ := List.any_eq_true.1 h
  rw [ho o hx] at hb; cases hb
theorem norm_sum {d : List Otc} (h : ¬ 64 < d.length) (ho : ∀ o ∈ d, badN o = false) (hs : sumI (d.map (·.wt)) ≠ 16) : normS d = ([], 12) := by
  unfold normS; rw [if_neg h, if_neg (any_good ho), if_pos hs]
theorem norm_fine {d : List Otc} (h : ¬ 64 < d.length) (ho : ∀ o ∈ d, badN o = false) (hs : sumI (d.map (·.wt)) = 16) : normS d = (canon (wAt d), 0) := by
  unfold normS; rw [if_neg h, if_neg (any_good ho), if_neg (by omega)]
theorem take_good {d : List Otc} {k : Nat} (hk : k < d.length) (h : ∀ o ∈ d.take k, badN o = false) (h1 : badN d[k] = false) : ∀ o ∈ d.take (k + 1), badN o = false := by
  intro o ho
  rw [List.take_add_one, List.getElem?_eq_getElem hk, List.mem_append] at ho
  rcases ho with ho | ho
  · exact h o ho
  · simp at ho; rw [ho]; exact h1
theorem otc_nil {w w' : World} {n : Int} (hb : Below w.heap.size w w') {z : List Otc × Int} (hz : z = ([], n)) : OtcPost w z (.returned (.tuple #[.slice none 0 0, .int .i64 n])) w' := by
  subst hz; exact ⟨_, rfl, Sl.nil _ _, hb⟩
theorem sorted_keys {l : List Otc} (ho : ∀ o ∈ l, badN o = false) (h : l.Pairwise fun a b => befB b a = false) : l.Pairwise fun a b => keyO a ≤ keyO b := by
  rw [List.pairwise_iff_getElem] at h ⊢
  intro i j hi hj hij
  have h1 := h i j hi hj hij
  have hai := (badN_no (ho _ (List.getElem_mem hi))).r0
  have haj := (badN_no (ho _ (List.getElem_mem hj))).r0
  rw [bef_key haj hai, decide_eq_false_iff_not] at h1
  omega
theorem merge_skip {out l : List Otc} {o : Otc} (h : o.wt = 0) : mergeF out (o :: l) = mergeF out l := by rw [mergeF, if_pos h]
theorem merge_first {l : List Otc} {o : Otc} (h : o.wt ≠ 0) : mergeF [] (o :: l) = mergeF [o] l := by rw [mergeF, if_neg h]; rfl
theorem merge_new {out l : List Otc} {o p : Otc} {k : Nat} (hk : out.length = k + 1) (hp : out[k]? = some p) (h : o.wt ≠ 0) (ho : ordS p o ≠ 0) : mergeF out (o :: l) = mergeF (out ++ [o]) l := by
  have e : out.getLast? = some p := by rw [List.getLast?_eq_getElem?, show out.length - 1 = k from by omega, hp]
  rw [mergeF, if_neg h, e]
  simp only [ho, if_false]
theorem merge_same {out l : List Otc} {o p : Otc} {k : Nat} (hk : out.length = k + 1) (hp : out[k]? = some p) (h : o.wt ≠ 0) (ho : ordS p o = 0) :
    mergeF out (o :: l) = mergeF (out.set k { p with wt := p.wt + o.wt }) l := by
  have e : out.getLast? = some p := by rw [List.getLast?_eq_getElem?, show out.length - 1 = k from by omega, hp]
  have e2 : ∀ x, out.dropLast ++ [x] = out.set k x := fun x => by
    rw [List.dropLast_eq_take, show out.length - 1 = k from by omega, List.set_eq_take_append_cons_drop, if_pos (by omega), List.drop_of_length_le (by omega)]
  rw [mergeF, if_neg h, e]
  simp only [ho, if_true]
  rw [e2]
/-- While the sorted list is merged: it lies in block g; the row of those that are out is younger. -/
structure Mg (w : World) (g : Nat) (B2 : Nat) (sv : Value) (l : List Otc) (W : World) (ov : Value) (out : List Otc) : Prop where
  bel : Below w.heap.size w W
  hg : w.heap.size ≤ g ∧ g < B2
  hB : B2 ≤ W.heap.size
  so : Sl 3 elOtc W (fun b => b = g) sv l
  own : OwnSl 3 elOtc 119 B2 W ov out
section
variable {w W W' : World} {g B2 : Nat} {sv ov : Value} {l out : List Otc}
theorem Mg.below (h : Mg w g B2 sv l W ov out) (hb : Below W.heap.size W W') : Mg w g B2 sv l W' ov out :=
  ⟨h.bel.trans (hb.mono h.bel.size), h.hg, Nat.le_trans h.hB hb.size, h.so.keep elOtc_good (Same.below hb fun b (hx : b = g) => by have := h.hg; have := h.hB; omega) fun _ h => h, h.own.below elOtc_good hb⟩
theorem Mg.out_at {A : Option Addr} {n c k : Nat} (h : Mg w g B2 sv l W (.slice A n c) out) (hk : k < out.length) : ∃ g2, A = some ⟨g2, 0, none⟩ ∧ n = out.length ∧ B2 ≤ g2 ∧ g2 < W.heap.size ∧ W.cell? ⟨g2, k * 3, none⟩ = some (.int .i64 out[k].runs) ∧ W.cell? ⟨g2, k * 3 + 1, none⟩ = some (.bool out[k].wick) ∧ W.cell? ⟨g2, k * 3 + 2, none⟩ = some (.int .i64 out[k].wt) ∧ W.frozen? ⟨g2, k * 3 + 2, none⟩ = false := by
  have hs := h.own.sl elOtc_good
  obtain ⟨A', c', hv, _⟩ := hs.shape
  injection hv with e1 e2 e3
  obtain ⟨b, o, rfl, hF, y0, y1, y2⟩ := otc_at (e1 ▸ e2 ▸ hs) hk
  obtain ⟨css, h1, h2, h3, h4⟩ := h.own
  rcases h2.2 with ⟨hv, hn⟩ | ⟨g', cap', cur, hv, _⟩
  · exfalso; omega
  · simp only [Value.slice.injEq, Option.some.injEq, Addr.mk.injEq] at hv
    obtain ⟨⟨rfl, rfl, _⟩, _⟩ := hv
    simp only [Option.some.injEq, Addr.mk.injEq, and_true] at e1
    obtain ⟨rfl, rfl⟩ := e1
    rw [Nat.zero_add] at y0 y1 y2
    subst e2
    exact ⟨_, rfl, rfl, hF.1, hF.2, y0, y1, y2, h2.frozenAt _⟩
theorem Mg.at2 {g2 n c k : Nat} (h : Mg w g B2 sv l W (.slice (some ⟨g2, 0, none⟩) n c) out) (hk : k < out.length) : W.cell? ⟨g2, k * 3, none⟩ = some (.int .i64 out[k].runs) ∧ W.cell? ⟨g2, k * 3 + 1, none⟩ = some (.bool out[k].wick) ∧ W.cell? ⟨g2, k * 3 + 2, none⟩ = some (.int .i64 out[k].wt) ∧ W.frozen? ⟨g2, k * 3 + 2, none⟩ = false := by
  obtain ⟨g', e, _, _, _, h1⟩ := h.out_at hk
  simp only [Option.some.injEq, Addr.mk.injEq, and_true] at e
  subst e
  exact h1
theorem Mg.put {g2 n c k : Nat} (h : Mg w g B2 sv l W (.slice (some ⟨g2, 0, none⟩) n c) out) (hk : k < out.length) (x : Int) : Mg w g B2 sv l (W.setCell ⟨g2, k * 3 + 2, none⟩ (.int .i64 x)) (.slice (some ⟨g2, 0, none⟩) n c) (out.set k { out[k] with wt := x }) := by
  have hb := h.own.block g2 rfl
  have hg := h.hg
  have ho := (Only.refl g2 W).setCell (p := ⟨g2, k * 3 + 2, none⟩) (.inl rfl) (.int .i64 x)
  have hB := h.hB
  refine ⟨h.bel.setCell (by show w.heap.size ≤ g2; omega) _, h.hg, by simp; omega, h.so.keep elOtc_good (ho.same fun b (hx : b = g) => ⟨by omega, by omega⟩) fun _ h => h, ?_⟩
  exact OwnG.put h.own (fun _ _ _ h => h) hk (show 2 < 3 by decide) (.int .i64 x) { out[k] with wt := x } fun c9 w9 h9 => by rw [show c9 = _ from h9]; rfl
theorem Mg.app {v' : Value} {o : Otc} (h : Mg w g B2 sv l W ov out) (hown : OwnSl 3 elOtc 119 B2 W' v' (out ++ [o])) (hg : W.grownBy W' ov.ownBlock) : Mg w g B2 sv l W' v' (out ++ [o]) := by
  have hgg := h.hg
  have hB := h.hB
  refine ⟨below_own h.bel h.own hg (by omega) h.hB, h.hg, Nat.le_trans h.hB hg.size, h.so.keep elOtc_good (Same.grown hg fun b (hx : b = g) => ⟨by omega, fun e => ?_⟩) fun _ h => h, hown⟩
  have := h.own.block b e.symm
  omega
end
theorem own_len {W : World} {B : Nat} {ov : Value} {out : List Otc} (h : OwnSl 3 elOtc 119 B W ov out) : ∃ A c, ov = .slice A out.length c := by
  obtain ⟨A, c, hv, _⟩ := (h.sl elOtc_good).shape
  exact ⟨A, c, hv⟩
theorem room1 {k n : Nat} (h : n ≤ k) (hk : k < 1000) : n + 1 ≤ maxLen ∧ (n + 1) * 24 ≤ 140737488355328 := by simp only [maxLen]; omega
theorem base1 {B : Nat} {W : World} (h : B ≤ W.heap.size) (o : Obj) : B ≤ (W.alloc o).heap.size := by simp; omega
theorem own_some {W : World} {B n c : Nat} {A : Option Addr} {out : List Otc} (h : OwnSl 3 elOtc 119 B W (.slice A n c) out) (h0 : 0 < out.length) : ∃ g, A = some ⟨g, 0, none⟩ := by
  obtain ⟨css, h1, h2, h3, h4⟩ := h
  rcases h2.2 with ⟨hv, hn⟩ | ⟨g', cap', cur, hv, _⟩
  · omega
  · injection hv with e1 _ _; exact ⟨g', e1⟩
set_option maxRecDepth 100000 in
set_option maxHeartbeats 4000000 in
theorem ch_Norm (d : List Otc) (v : Value) (w : World) (h : Sl 3 elOtc w (· < w.heap.size) v d) : Calls Tryz.prog 81 #[v] w (OtcPost w (normS d)) := by
  obtain ⟨z, hz⟩ : ∃ z, z = normS d := ⟨_, rfl⟩
  rw [← hz]
  obtain ⟨A, c, rfl, hc, hc2⟩ := h.shape
  by_cases h64 : 64 < d.length
  · rw [norm_long h64] at hz
    have e64 : (64 : Int) < (d.length : Int) := by omega
    have HZ := Lib.hid hz
    clear hz h h64
    go_enter Tryz.func81, Tryz.ntmps81
    go_wp2
    go_ret2
    exact otc_nil (Below.refl _ _) HZ.out
  · have e64 : (d.length : Int) ≤ 64 := by omega
    have HZ := Lib.hid hz
    have H := Lib.hid h
    have HN := Lib.hid h64
    clear hz h h64
    go_enter Tryz.func81, Tryz.ntmps81
    go_wp2
    go_loopw [4, 17] (fun sv i wr => ∃ (k : Nat) (s : Int), k ≤ d.length ∧ i = .int .i64 k ∧ sv = .int .i64 s ∧ 0 ≤ s ∧ s ≤ 16 * k ∧ Below w.heap.size w wr ∧ Hid (s = sumI ((d.take k).map (·.wt))) ∧ Hid (∀ o ∈ d.take k, badN o = false))
      (fun _ i _ => d.length - (intOf i).toNat)
    case atStart => exact ⟨0, 0, Nat.zero_le _, rfl, rfl, by omega, by omega, Below.refl _ _, Lib.hid rfl, Lib.hid (by simp)⟩
    case round =>
      obtain ⟨k, s, hk, rfl, rfl, hs0, hs1, hb, hss, hgd⟩ := hrel
      have HB := Lib.hid hb
      by_cases hlt : k < d.length
      · obtain ⟨b, o, rfl, hbl, y0', y1', y2'⟩ := otc_at H.out hlt
        have hst := sumI_map_take (f := fun o : Otc => o.wt) hlt
        rw [← hss.out] at hst
        have hgt := fun h1 => take_good hlt hgd.out h1
        have hbt := fun h1 => norm_bad HN.out (List.getElem_mem hlt) h1
        obtain ⟨⟨pr, pw, pt⟩, hp⟩ : ∃ p, p = d[k] := ⟨_, rfl⟩
        rw [← hp] at y0' y1' y2' hst hgt hbt
        have y0 := (hb.cell (p := ⟨b, o + k * 3, none⟩) hbl).trans y0'
        have y1 := (hb.cell (p := ⟨b, o + k * 3 + 1, none⟩) hbl).trans y1'
        have y2 := (hb.cell (p := ⟨b, o + k * 3 + 2, none⟩) hbl).trans y2'
        dsimp only at y0 y1 y2 hst
        rcases badN_ways ⟨pr, pw, pt⟩ with ⟨hB, hw⟩ | ⟨hB, e1, e2, e3, e4⟩
        · have hz2 : z = ([], 2) := by rw [HZ.out, hbt hB]
          have HZZ := Lib.hid hz2
          clear hb hss hgd hp hst hgt hbt y0' y1' y2' hz2 hB
          rcases hw with e1 | ⟨e1, e2⟩ | ⟨e1, e2, e3⟩ | ⟨e1, e2, e3, e4⟩
          all_goals
            dsimp only at *
            go_wp2
            go_ret2
            exact otc_nil (Below.alloc HB.out HB.out.size _) HZZ.out
        · have hok := badN_no hB
          have hw0 := hok.w0
          have hw16 := hok.w16
          dsimp only at e1 e2 e3 e4 hw0 hw16
          have HST := Lib.hid hst.symm
          have HGT := Lib.hid (hgt hB)
          clear hb hss hgd hp hst hgt hbt y0' y1' y2' hB hok
          go_wp2
          go_roundw
          case rel => exact ⟨k + 1, _, by omega, by go_num, rfl, by omega, by push_cast; omega, Below.alloc HB.out HB.out.size _, HST, HGT⟩
          case measure => simp [intOf]; omega
      · obtain rfl : k = d.length := by omega
        have hs2 := hss.out
        have hg2 := hgd.out
        rw [List.take_of_length_le (Nat.le_refl _)] at hs2 hg2
        by_cases h16 : s = 16
        · have hz2 := HZ.out
          rw [norm_fine HN.out hg2 (by rw [← hs2]; exact h16)] at hz2
          have hne : d ≠ [] := fun e => by rw [e] at hs2; rw [h16] at hs2; simp [sumI_nil] at hs2
          have hlen : d.length ≤ 1000 := by omega
          have hsl := H.out.keep elOtc_good (Same.of_below hb) (G := (· < w.heap.size)) fun _ h => h
          have kc := otc_Clone d _ (· < w.heap.size) wr hsl (fun b hx => Nat.lt_of_lt_of_le hx hb.size) hlen
          have ks := fun B g cap W (h : OwnSl 3 elOtc 119 B W (.slice (some ⟨g, 0, none⟩) d.length cap) d) => otc_Sort d B g cap W h hlen
          have hmerge : ∀ l : List Otc, l.Perm d → (l.Pairwise fun a b => befB b a = false) → mergeF [] l = canon (wAt d) ∧ ∀ o ∈ l, badN o = false := fun l hp hw => by
            have ho : ∀ o ∈ l, badN o = false := fun o hx => hg2 o (hp.mem_iff.1 hx)
            exact ⟨merge_norm hp (fun o hx => badN_no (hg2 o hx)) (sorted_keys ho hw), ho⟩
          have HZZ := Lib.hid hz2
          have KC := Lib.hid kc
          have KS := Lib.hid ks
          have HM := Lib.hid hmerge
          have hpos : 0 < d.length := List.length_pos_iff.2 hne
          have tok0 : True := trivial
          subst h16
          clear hb hss hgd hs2 hg2 hz2 hne hlen hsl kc ks hmerge hs0 hs1 HZ
          go_wp2_with (first
            | (clear tok0; go_at_call 121; refine KC.out.mono ?_; rintro e w2 ⟨A2, c2, rfl, ho2, hb2⟩; obtain ⟨g, rfl⟩ := own_some ho2 hpos; have HO2 := Lib.hid ho2; have HB2 := Lib.hid (HB.out.trans (hb2.mono HB.out.size)); have hgb := ho2.block g rfl; have HGB := Lib.hid (show w.heap.size ≤ g ∧ g < w2.heap.size from ⟨Nat.le_trans HB.out.size hgb.1, hgb.2⟩); clear ho2 hb2 hgb; have tok1 : True := trivial)
            | (clear tok1; go_at_call 122; refine (KS.out _ _ _ _ HO2.out).mono ?_; rintro e w3 ⟨rfl, l, hp3, hl3, hw3, hs3, ho3⟩; have HP3 := Lib.hid hp3; have HL3 := Lib.hid hl3; have HW3 := Lib.hid hw3; have HS3 := Lib.hid hs3; have HB3 := Lib.hid (HB2.out.trans (ho3.below HGB.out.1 HB2.out.size)); have HZ3 := Lib.hid ho3.size; clear hp3 hl3 hw3 hs3 ho3; have tok2 : True := trivial))
          have hmg : Mg w g w3.heap.size (.slice (some ⟨g, 0, none⟩) d.length c2) l w3 (.slice none 0 0) [] := ⟨HB3.out, ⟨HGB.out.1, by have := HGB.out.2; have := HZ3.out; omega⟩, Nat.le_refl _, HS3.out, OwnSl.nil _⟩
          obtain ⟨hm1, hm2⟩ := HM.out l HP3.out HW3.out
          have hlen : d.length = l.length := HL3.out.symm
          have HMG := Lib.hid hmg
          have HM1 : Hid (mergeF [] (l.drop 0) = canon (wAt d)) := Lib.hid hm1
          have HM2 := Lib.hid hm2
          have HLE := Lib.hid hlen
          clear hmg hm1 hm2 HM HP3 HW3 HS3 HB3 HZ3 HO2 HB2 hlen
          go_loopw [8, 52] (fun ov i wx => ∃ (k : Nat) (out : List Otc), k ≤ d.length ∧ i = .int .i64 k ∧ Mg w g w3.heap.size (.slice (some ⟨g, 0, none⟩) d.length c2) l wx ov out ∧ out.length ≤ k ∧ (∀ p ∈ out, 0 ≤ p.wt ∧ p.wt ≤ 16 * k) ∧ Hid (mergeF out (l.drop k) = canon (wAt d)))
            (fun _ i _ => d.length - (intOf i).toNat)
          case atStart => exact ⟨0, [], Nat.zero_le _, rfl, HMG.out, Nat.le_refl _, by simp, HM1⟩
          case round =>
            obtain ⟨k, out, hk, rfl, hmg, hol, how, hmm⟩ := hrel
            obtain ⟨Ao, co, rfl⟩ := own_len hmg.own
            by_cases hlt : k < d.length
            · have hkl : k < l.length := by rw [← HLE.out]; exact hlt
              obtain ⟨b, o, hbo, hbg, y0, y1, y2⟩ := otc_at (show Sl 3 elOtc _ (fun b => b = g) (.slice (some ⟨g, 0, none⟩) d.length c2) l from hmg.so) hkl
              replace hbg := hbg.symm
              subst hbg
              obtain rfl : o = 0 := by simp at hbo; omega
              clear hbo
              have hwt := badN_no (HM2.out _ (List.getElem_mem hkl))
              have hmd := hmm.out
              rw [List.drop_eq_getElem_cons hkl] at hmd
              obtain ⟨⟨pr, pw, pt⟩, hp⟩ : ∃ p, p = l[k] := ⟨_, rfl⟩
              rw [← hp] at y0 y1 y2 hwt hmd
              obtain ⟨hr0, hr7, hw0, hw16⟩ := hwt
              dsimp only at y0 y1 y2 hw0 hw16
              rw [Nat.zero_add] at y0 y1 y2
              have hgw : g < wr.heap.size := by have := hmg.hg; have := hmg.hB; omega
              have hma := hmg.below (Below.alloc (Below.refl _ _) (Nat.le_refl _) (.cells #[.int .i64 pr, .bool pw, .int .i64 pt] 119))
              have HMA := Lib.hid hma
              have HOW := Lib.hid how
              have HOL := Lib.hid hol
              have HK1 := Lib.hid (show k < 1000 from by omega)
              by_cases ht : pt = 0
              · have hmd2 := hmd
                rw [merge_skip (by exact ht)] at hmd2
                have HMD := Lib.hid hmd2
                have et : (pt == 0) = true := by rw [ht]; rfl
                clear hmg hma how hmm hmd hmd2 hp hr0 hr7 hol ht
                go_wp2
                go_roundw
                case rel => exact ⟨k + 1, out, by omega, by go_num, HMA.out, by have := HOL.out; omega, fun p hx => by have := HOW.out p hx; push_cast; omega, HMD⟩
                case measure => simp [intOf]; omega
              · have et : (pt == 0) = false := by simpa using ht
                have HP := Lib.hid (show (⟨pr, pw, pt⟩ : Otc).wt ≠ 0 from ht)
                have hap := fun W' v' (h1 : OwnSl 3 elOtc 119 w3.heap.size W' v' (out ++ [⟨pr, pw, pt⟩])) W (h0 : Mg w g w3.heap.size (.slice (some ⟨g, 0, none⟩) d.length c2) l W (.slice Ao out.length co) out) o (h2 : (W.alloc o).grownBy W' (Value.slice Ao out.length co).ownBlock) => (h0.below (Below.alloc (Below.refl _ _) (Nat.le_refl _) o)).app h1 h2
                have HAP := Lib.hid hap
                have hbd : ∀ p ∈ out ++ [(⟨pr, pw, pt⟩ : Otc)], 0 ≤ p.wt ∧ p.wt ≤ 16 * ((k + 1 : Nat) : Int) := fun p hx => by
                  rcases List.mem_append.1 hx with hx | hx
                  · have := how p hx; push_cast; omega
                  · rw [List.mem_singleton.1 hx]; dsimp only; push_cast; omega
                have HBD := Lib.hid hbd
                rcases Nat.eq_zero_or_pos out.length with h0 | h0
                · have hout : out = [] := List.length_eq_zero_iff.1 h0
                  subst hout
                  rw [merge_first HP.out] at hmd
                  have HMD := Lib.hid hmd
                  have s1 : IntKind.i64.wrap (((List.length ([] : List Otc) : Nat) : Int) - 1) = -1 := by decide
                  clear hmg how hmm hmd hp hr0 hr7 hol hap hma h0 hbd HAP HOW
                  go_wp2
                  go_quiet (fail)
                  have hm4 := HMA.out.below (Below.drewN_ (Below.refl _ _) nq)
                  have hk4 : Blk ((wr.alloc (.cells #[.int .i64 pr, .bool pw, .int .i64 pt] 119)).drewN nq) wr.heap.size 119 #[.int .i64 pr, .bool pw, .int .i64 pt] := (Blk.new wr _ _).below (Below.drewN_ (Below.refl (wr.alloc (.cells #[.int .i64 pr, .bool pw, .int .i64 pt] 119)).heap.size _) nq) (by simp)
                  generalize (wr.alloc (.cells #[.int .i64 pr, .bool pw, .int .i64 pt] 119)).drewN nq = W4 at hm4 hk4 ⊢
                  have HM4 := Lib.hid hm4
                  have HK4 := Lib.hid hk4
                  clear hm4 hk4
                  obtain ⟨c0, c1, c2, _⟩ := Blk.three HK4.out
                  go_wp2_with (at_builtin; refine wpList_append_sl _ rfl (.tmp 83) (.tmp 85) _ rfl E_otc elOtc_good w3.heap.size _ [] rfl (HM4.out.own.alloc elOtc_good _) ⟨W4.heap.size, 0, none⟩ 1 [.int .i64 pr, .bool pw, .int .i64 pt] rfl ⟨pr, pw, pt⟩ rfl (cells_new _ _ _ _) (oneCells rfl) rfl (room1 HOL.out HK1.out).1 (room1 HOL.out HK1.out).2 (base1 HM4.out.hB _) ?_; intro v6 w6 hown6 hg6 hat6; have h6 := (HM4.out.below (Below.alloc (Below.refl _ _) (Nat.le_refl _) (.cells #[.int .i64 pr, .bool pw, .int .i64 pt] 119))).app hown6 hg6; have H6 := Lib.hid h6; clear hown6 hg6 hat6 h6)
                  go_roundw
                  case rel => exact ⟨k + 1, [] ++ [⟨pr, pw, pt⟩], by omega, by go_num, H6.out, by have := HOL.out; rw [List.length_append, List.length_singleton]; omega, HBD.out, HMD⟩
                  case measure => simp [intOf]; omega
                · obtain ⟨m, hm⟩ : ∃ m, out.length = m + 1 := ⟨out.length - 1, by omega⟩
                  have hmo : m < out.length := by omega
                  have hget : out[m]? = some out[m] := List.getElem?_eq_getElem hmo
                  have hqw := how _ (List.getElem_mem hmo)
                  have hma2 := HMA.out.below (Below.drew (Below.refl _ _))
                  obtain ⟨g2, hA2, _, hg2a, hg2b, p0, p1, p2, pf⟩ := hma2.out_at hmo
                  subst hA2
                  have hkd : Blk (wr.alloc (.cells #[.int .i64 pr, .bool pw, .int .i64 pt] 119)).drew wr.heap.size 119 #[.int .i64 pr, .bool pw, .int .i64 pt] := (Blk.new wr _ _).drew
                  have kord := fun W => ch_order out[m] ⟨pr, pw, pt⟩ W
                  have hnew := fun ho => merge_new (l := l.drop (k + 1)) hm hget HP.out ho
                  have hsame := fun ho => merge_same (l := l.drop (k + 1)) hm hget HP.out ho
                  have hput := fun W (h : Mg w g w3.heap.size (.slice (some ⟨g, 0, none⟩) d.length c2) l W (.slice (some ⟨g2, 0, none⟩) out.length co) out) x => h.put hmo x
                  have hset : ∀ x y : Int, 0 ≤ x → x ≤ 16 * ((k + 1 : Nat) : Int) → ∀ p ∈ out.set m { out[m] with wt := x }, 0 ≤ p.wt ∧ p.wt ≤ 16 * ((k + 1 : Nat) : Int) := fun x y h1 h2 p hx => by
                    rcases List.mem_or_eq_of_mem_set hx with hx | hx
                    · have := how p hx; push_cast; omega
                    · rw [hx]; exact ⟨h1, h2⟩
                  have hat := fun W (h : Mg w g w3.heap.size (.slice (some ⟨g, 0, none⟩) d.length c2) l W (.slice (some ⟨g2, 0, none⟩) out.length co) out) => h.at2 hmo
                  obtain ⟨⟨qr, qw, qt⟩, hq⟩ : ∃ q, q = out[m] := ⟨_, rfl⟩
                  rw [← hq] at p0 p1 p2 kord hnew hsame hput hqw hset hat
                  obtain ⟨u, hu⟩ : ∃ u, u = ordS ⟨qr, qw, qt⟩ ⟨pr, pw, pt⟩ := ⟨_, rfl⟩
                  rw [← hu] at kord hnew hsame
                  obtain ⟨hq0, hq1⟩ := hqw
                  dsimp only at p0 p1 p2 hq0 hq1 hput hsame hset hat
                  unfold outV at kord
                  dsimp only at kord
                  have KORD := Lib.hid kord
                  have HMA2 := Lib.hid hma2
                  have HKD := Lib.hid hkd
                  have HPUT := Lib.hid hput
                  have HSET := Lib.hid hset
                  have HAT := Lib.hid hat
                  obtain ⟨c0, c1, c2', _⟩ := Blk.three hkd
                  have s1 : IntKind.i64.wrap ((out.length : Int) - 1) = (m : Int) := by rw [IntWalk.i64_in _ (by omega)]; omega
                  have s4 : (m : Int) < (out.length : Int) := by omega
                  have hkr : wr.heap.size < (wr.alloc (.cells #[.int .i64 pr, .bool pw, .int .i64 pt] 119)).drew.heap.size := by simp
                  have HKR := Lib.hid hkr
                  have HMO := Lib.hid hmo
                  have tok3 : True := trivial
                  clear hma2 hkd kord hput hset hat hkr hget hq hmg how hmm hp hr0 hr7 hol hap hma h0 hbd hm HOW
                  by_cases h0 : u = 0
                  · rw [hsame h0] at hmd
                    have HMD := Lib.hid hmd
                    have eu : (u == 0) = true := by rw [h0]; rfl
                    clear hnew hsame hu h0 hmd pf hmo
                    go_wp2_with fail
                    go_region_held3 (fun w' => w'.cell? ⟨g2, m * 3, none⟩ = some (.int .i64 qr) ∧ w'.cell? ⟨g2, m * 3 + 1, none⟩ = some (.bool qw) ∧ w'.cell? ⟨g2, m * 3 + 2, none⟩ = some (.int .i64 qt) ∧ w'.cell? ⟨wr.heap.size, 0, none⟩ = some (.int .i64 pr) ∧ w'.cell? ⟨wr.heap.size, 1, none⟩ = some (.bool pw) ∧ w'.cell? ⟨wr.heap.size, 2, none⟩ = some (.int .i64 pt))
                      (first | exact ⟨p0, p1, p2, c0, c1, c2'⟩ | go_keep)
                      (first | (clear tok3; go_at_call 120; refine (KORD.out _).mono ?_; rintro e w5 ⟨rfl, hb5⟩; clear p0 p1 p2 c0 c1 c2'; have hm5 := HMA2.out.below hb5; obtain ⟨p0, p1, p2, pf⟩ := HAT.out _ hm5; obtain ⟨c0, c1, c2', _⟩ := Blk.three (HKD.out.below hb5 HKR.out); have HM5 := Lib.hid hm5; clear hm5 hb5))
                    go_wp2_with fail
                    go_region
                    go_wp2_with fail
                    go_roundw
                    case rel => exact ⟨k + 1, _, by omega, by go_num, (HPUT.out _ HM5.out _).below (Below.drew (Below.refl _ _)), by have := HOL.out; rw [List.length_set]; omega, HSET.out _ 0 (by omega) (by push_cast; omega), HMD⟩
                    case measure => simp [intOf]; omega
                  · rw [hnew h0] at hmd
                    have HMD := Lib.hid hmd
                    have eu : (u == 0) = false := by simpa using h0
                    clear hnew hsame hu h0 hmd pf hmo
                    go_wp2_with fail
                    go_region_held3 (fun w' => w'.cell? ⟨g2, m * 3, none⟩ = some (.int .i64 qr) ∧ w'.cell? ⟨g2, m * 3 + 1, none⟩ = some (.bool qw) ∧ w'.cell? ⟨g2, m * 3 + 2, none⟩ = some (.int .i64 qt) ∧ w'.cell? ⟨wr.heap.size, 0, none⟩ = some (.int .i64 pr) ∧ w'.cell? ⟨wr.heap.size, 1, none⟩ = some (.bool pw) ∧ w'.cell? ⟨wr.heap.size, 2, none⟩ = some (.int .i64 pt))
                      (first | exact ⟨p0, p1, p2, c0, c1, c2'⟩ | go_keep)
                      (first | (clear tok3; go_at_call 120; refine (KORD.out _).mono ?_; rintro e w5 ⟨rfl, hb5⟩; clear p0 p1 p2 c0 c1 c2'; have hm5 := HMA2.out.below hb5; obtain ⟨p0, p1, p2, pf⟩ := HAT.out _ hm5; obtain ⟨c0, c1, c2', _⟩ := Blk.three (HKD.out.below hb5 HKR.out); have HM4 := Lib.hid hm5; have HK4 := Lib.hid (HKD.out.below hb5 HKR.out); clear hm5 hb5 pf))
                    obtain ⟨c0, c1, c2, _⟩ := Blk.three HK4.out
                    go_wp2_with (at_builtin; refine wpList_append_sl _ rfl (.tmp 83) (.tmp 85) _ rfl E_otc elOtc_good w3.heap.size _ out rfl (HM4.out.own.alloc elOtc_good _) ⟨w5.heap.size, 0, none⟩ 1 [.int .i64 pr, .bool pw, .int .i64 pt] rfl ⟨pr, pw, pt⟩ rfl (cells_new _ _ _ _) (oneCells rfl) rfl (room1 HOL.out HK1.out).1 (room1 HOL.out HK1.out).2 (base1 HM4.out.hB _) ?_; intro v6 w6 hown6 hg6 hat6; have h6 := (HM4.out.below (Below.alloc (Below.refl _ _) (Nat.le_refl _) (.cells #[.int .i64 pr, .bool pw, .int .i64 pt] 119))).app hown6 hg6; have H6 := Lib.hid h6; clear hown6 hg6 hat6 h6)
                    go_roundw
                    case rel => exact ⟨k + 1, out ++ [⟨pr, pw, pt⟩], by omega, by go_num, H6.out, by have := HOL.out; rw [List.length_append, List.length_singleton]; omega, HBD.out, HMD⟩
                    case measure => simp [intOf]; omega
            · obtain rfl : k = d.length := by omega
              have hml := hmm.out
              rw [List.drop_of_length_le (by rw [HLE.out]; exact Nat.le_refl _), mergeF] at hml
              have HSL := Lib.hid (hmg.own.sl elOtc_good)
              have HML := Lib.hid hml
              have HBE := Lib.hid hmg.bel
              have HBB := Lib.hid (show w.heap.size ≤ w3.heap.size from by have := hmg.hg; omega)
              clear hmg how hmm hml hol
              go_wp2
              go_ret2
              rw [HZZ.out, ← HML.out]
              exact ⟨_, rfl, HSL.out.keep elOtc_good (Same.refl _ _) (fun b hx => ⟨by have := HBB.out; omega, hx.2⟩), HBE.out⟩
        · have hz2 := HZ.out
          rw [norm_sum HN.out hg2 (by rw [← hs2]; exact h16)] at hz2
          have e16 : (s != 16) = true := by simp [h16]
          have HZZ := Lib.hid hz2
          clear hb hss hgd hs2 hg2 hz2 h16
          go_wp2
          go_ret2
          exact otc_nil HB.out HZZ.out
end Go.Proofs.YtglkejlimeakbaaGreatDoor

namespace Go.Proofs.YtglkejlimeakbaaGreatDoor
open Go.RowKit

/-- While the reference gathers: the row of those that are out, and the one that is being weighed in block xb. -/
structure Rx (w W : World) (ov : Value) (out : List Otc) (bb xb : Nat) (r : Nat) (wk : Bool) (x : Int) : Prop where
  bel : Below w.heap.size w W
  own : OwnSl 3 elOtc 119 w.heap.size W ov out
  lt : ∀ b, ov.ownBlock = some b → b < xb
  xk : Blk W xb 119 #[.int .i64 (r : Int), .bool wk, .int .i64 x]
  bk : Blk W bb 4 #[.bool false, .bool true]
  hx : w.heap.size ≤ xb
  hb : bb ≠ xb
/-- The same between two weighings. -/
structure Ry (w W : World) (ov : Value) (out : List Otc) (bb : Nat) : Prop where
  bel : Below w.heap.size w W
  own : OwnSl 3 elOtc 119 w.heap.size W ov out
  bk : Blk W bb 4 #[.bool false, .bool true]
section
variable {w W W' : World} {ov : Value} {out : List Otc} {bb xb r : Nat} {wk : Bool} {x : Int}
theorem Rx.below (h : Rx w W ov out bb xb r wk x) (hb : Below W.heap.size W W') : Rx w W' ov out bb xb r wk x :=
  ⟨h.bel.trans (hb.mono h.bel.size), h.own.below elOtc_good hb, h.lt, h.xk.below hb h.xk.lt, h.bk.below hb h.bk.lt, h.hx, h.hb⟩
theorem Ry.below (h : Ry w W ov out bb) (hb : Below W.heap.size W W') : Ry w W' ov out bb :=
  ⟨h.bel.trans (hb.mono h.bel.size), h.own.below elOtc_good hb, h.bk.below hb h.bk.lt⟩
theorem Rx.put (h : Rx w W ov out bb xb r wk x) (y : Int) : Rx w (W.setCell ⟨xb, 2, none⟩ (.int .i64 y)) ov out bb xb r wk y := by
  have ho := (Only.refl xb W).setCell (p := ⟨xb, 2, none⟩) (.inl rfl) (.int .i64 y)
  refine ⟨h.bel.setCell h.hx _, h.own.grown elOtc_good ho fun b hb e => ?_, h.lt, h.xk.set_ 2 (.int .i64 y), h.bk.far h.hb _, h.hx, h.hb⟩
  have := h.lt b hb
  have := Option.some.inj e
  omega
theorem Ry.start (h : Ry w W ov out bb) (r : Nat) (wk : Bool) (x : Int) : Rx w (W.alloc (.cells #[.int .i64 (r : Int), .bool wk, .int .i64 x] 119)) ov out bb W.heap.size r wk x :=
  ⟨h.bel.alloc h.bel.size _, h.own.alloc elOtc_good _, fun b hb => (h.own.block b hb).2, Blk.new W _ _, h.bk.alloc _, h.bel.size, Nat.ne_of_lt h.bk.lt⟩
theorem Rx.y (h : Rx w W ov out bb xb r wk x) : Ry w W ov out bb := ⟨h.bel, h.own, h.bk⟩
theorem Ry.app {v' : Value} {o : Otc} (h : Ry w W ov out bb) (hbt : bb ≠ xb) (hown : OwnSl 3 elOtc 119 w.heap.size W' v' (out ++ [o])) (hg : W.grownBy W' ov.ownBlock) : Ry w W' v' (out ++ [o]) bb :=
  ⟨below_own h.bel h.own hg (Nat.le_refl _) h.bel.size, hown, h.bk.grown hg fun e => own_ne h.own h.bk (by decide) e⟩
end
end Go.Proofs.YtglkejlimeakbaaGreatDoor

namespace Go.Proofs.YtglkejlimeakbaaGreatDoor
open Go.RowKit

/-- The sixteen cells of the weights f: those without a wicket by runs, then those with one. -/
def wCells (f : Nat → Int) : Array Value := #[.int .i64 (f 0), .int .i64 (f 2), .int .i64 (f 4), .int .i64 (f 6), .int .i64 (f 8), .int .i64 (f 10), .int .i64 (f 12), .int .i64 (f 14), .int .i64 (f 1), .int .i64 (f 3), .int .i64 (f 5), .int .i64 (f 7), .int .i64 (f 9), .int .i64 (f 11), .int .i64 (f 13), .int .i64 (f 15)]
def cellK (j : Nat) : Nat := j / 2 + 8 * (j % 2)
theorem wCells_upd (f : Nat → Int) (j : Nat) (x : Int) (hj : j < 16) : wCells (upd f j x) = (wCells f).setIfInBounds (cellK j) (.int .i64 (f j + x)) := by
  have : j = 0 ∨ j = 1 ∨ j = 2 ∨ j = 3 ∨ j = 4 ∨ j = 5 ∨ j = 6 ∨ j = 7 ∨ j = 8 ∨ j = 9 ∨ j = 10 ∨ j = 11 ∨ j = 12 ∨ j = 13 ∨ j = 14 ∨ j = 15 := by omega
  rcases this with rfl | rfl | rfl | rfl | rfl | rfl | rfl | rfl | rfl | rfl | rfl | rfl | rfl | rfl | rfl | rfl <;> rfl
theorem wCells_at (f : Nat → Int) (j : Nat) (hj : j < 16) : (wCells f)[cellK j]? = some (.int .i64 (f j)) := by
  have : j = 0 ∨ j = 1 ∨ j = 2 ∨ j = 3 ∨ j = 4 ∨ j = 5 ∨ j = 6 ∨ j = 7 ∨ j = 8 ∨ j = 9 ∨ j = 10 ∨ j = 11 ∨ j = 12 ∨ j = 13 ∨ j = 14 ∨ j = 15 := by omega
  rcases this with rfl | rfl | rfl | rfl | rfl | rfl | rfl | rfl | rfl | rfl | rfl | rfl | rfl | rfl | rfl | rfl <;> rfl
theorem plain_at (f : Nat → Int) (r : Nat) (hr : r ≤ 7) : (wCells f)[r]? = some (.int .i64 (f (2 * r))) := by
  have := wCells_at f (2 * r) (by omega)
  rwa [show cellK (2 * r) = r from by unfold cellK; omega] at this
theorem wick_at (f : Nat → Int) (r : Nat) (hr : r ≤ 7) : (wCells f)[8 + r]? = some (.int .i64 (f (2 * r + 1))) := by
  have := wCells_at f (2 * r + 1) (by omega)
  rwa [show cellK (2 * r + 1) = 8 + r from by unfold cellK; omega] at this
theorem plain_upd (f : Nat → Int) (r : Nat) (x : Int) (hr : r ≤ 7) : wCells (upd f (2 * r) x) = (wCells f).setIfInBounds r (.int .i64 (f (2 * r) + x)) := by
  have := wCells_upd f (2 * r) x (by omega)
  rwa [show cellK (2 * r) = r from by unfold cellK; omega] at this
theorem wick_upd (f : Nat → Int) (r : Nat) (x : Int) (hr : r ≤ 7) : wCells (upd f (2 * r + 1) x) = (wCells f).setIfInBounds (8 + r) (.int .i64 (f (2 * r + 1) + x)) := by
  have := wCells_upd f (2 * r + 1) x (by omega)
  rwa [show cellK (2 * r + 1) = 8 + r from by unfold cellK; omega] at this
/-- The weights lie in block g. -/
def WAt (w : World) (g : Nat) (f : Nat → Int) : Prop := Blk w g 123 (wCells f)
theorem WAt.plain {w : World} {g : Nat} {f : Nat → Int} (h : WAt w g f) (r : Nat) (hr : r ≤ 7) : w.cell? ⟨g, r, none⟩ = some (.int .i64 (f (2 * r))) ∧ w.frozen? ⟨g, r, none⟩ = false := ⟨(Blk.cell h r).trans (plain_at f r hr), Blk.frozen h r⟩
theorem WAt.wick {w : World} {g : Nat} {f : Nat → Int} (h : WAt w g f) (r : Nat) (hr : r ≤ 7) : w.cell? ⟨g, 8 + r, none⟩ = some (.int .i64 (f (2 * r + 1))) ∧ w.frozen? ⟨g, 8 + r, none⟩ = false := ⟨(Blk.cell h (8 + r)).trans (wick_at f r hr), Blk.frozen h (8 + r)⟩
theorem WAt.setPlain {w : World} {g : Nat} {f : Nat → Int} (h : WAt w g f) (r : Nat) (x : Int) (hr : r ≤ 7) : WAt (w.setCell ⟨g, r, none⟩ (.int .i64 (f (2 * r) + x))) g (upd f (2 * r) x) := by
  unfold WAt; rw [plain_upd f r x hr]; exact Blk.set_ h r _
theorem WAt.setWick {w : World} {g : Nat} {f : Nat → Int} (h : WAt w g f) (r : Nat) (x : Int) (hr : r ≤ 7) : WAt (w.setCell ⟨g, 8 + r, none⟩ (.int .i64 (f (2 * r + 1) + x))) g (upd f (2 * r + 1) x) := by
  unfold WAt; rw [wick_upd f r x hr]; exact Blk.set_ h (8 + r) _
theorem WAt.drew {w : World} {g : Nat} {f : Nat → Int} (h : WAt w g f) : WAt w.drew g f := Blk.drew h
theorem hard_none {f : Nat → Int} {n : Nat} (h : ∀ s, 0 < s → s ≤ 7 → f (2 * s) = 0) : hardF n f = f ∧ topF f 7 = 0 := by
  have := topF_none (f := f) (m := 7) fun s h1 h2 => h s h1 h2
  exact ⟨by unfold hardF; rw [if_pos this], this⟩
theorem hard_some {f : Nat → Int} {n r : Nat} (h0 : f (2 * r) ≠ 0) (h1 : ∀ s, r < s → s ≤ 7 → f (2 * s) = 0) (h2 : r ≤ 7) (h3 : 1 ≤ r) : hardF n f = upd (upd f (2 * r) (-1)) (n % 2) 1 ∧ topF f 7 = r := by
  have := topF_at h0 h1 h2 h3
  exact ⟨by unfold hardF; rw [this, if_neg (by omega)], this⟩
set_option maxRecDepth 100000 in
set_option maxHeartbeats 2000000 in
theorem w_harder (f : Nat → Int) (n g : Nat) (w : World) (h : WAt w g f) (hf : Fit f) (hn : n ≤ 100) :
    Calls Tryz.prog 79 #[.pointer (some ⟨g, 0, none⟩), .int .i64 n] w fun e w' => e = .returned (.bool (decide (topF f 7 ≠ 0))) ∧ WAt w' g (hardF n f) ∧ Only g w w' := by
  have H := Lib.hid h
  have HF := Lib.hid hf
  obtain ⟨z, hz⟩ : ∃ z, z = decide (topF f 7 ≠ 0) := ⟨_, rfl⟩
  obtain ⟨f9, hf9⟩ : ∃ f9, f9 = hardF n f := ⟨_, rfl⟩
  rw [← hz, ← hf9]
  have HZ := Lib.hid hz
  have HF9 := Lib.hid hf9
  clear h hf hz hf9
  go_enter Tryz.func79, Tryz.ntmps79
  go_wp2
  go_loopw [5] (fun i wr => ∃ r : Nat, r ≤ 7 ∧ i = .int .i64 r ∧ (∃ q, wr = w.drewN q) ∧ Hid (∀ s, r < s → s ≤ 7 → f (2 * s) = 0)) (fun i _ => (intOf i).toNat)
  case atStart => exact ⟨7, Nat.le_refl _, rfl, ⟨0, rfl⟩, Lib.hid fun s h1 h2 => by omega⟩
  case round =>
    obtain ⟨r, hr, rfl, ⟨q, rfl⟩, hz⟩ := hrel
    by_cases h1 : 1 ≤ r
    · obtain ⟨y0, yf⟩ := H.out.plain r hr
      have e1 : (1 : Int) ≤ (r : Int) := by omega
      have e8 : (r : Int) < 8 := by omega
      by_cases h0 : f (2 * r) = 0
      · have e0 : (f (2 * r) == 0) = true := by rw [h0]; rfl
        have hz2 : ∀ s, r - 1 < s → s ≤ 7 → f (2 * s) = 0 := fun s h2 h3 => by
          by_cases hs : s = r
          · rw [hs]; exact h0
          · exact hz.out s (by omega) h3
        have HZ2 := Lib.hid hz2
        clear hz hz2 h0
        go_wp2
        go_roundw
        case rel => exact ⟨r - 1, by omega, by first | go_num | (congr 1; omega), ⟨_, rfl⟩, HZ2⟩
        case measure => simp [intOf]; omega
      · have e0 : (f (2 * r) == 0) = false := by simpa using h0
        have hb0 := HF.out.pos (2 * r) (by omega)
        have hb1 := HF.out.le (j := 2 * r) (by omega)
        obtain ⟨hh, ht⟩ := hard_some (n := n) h0 hz.out hr h1
        have et : decide (topF f 7 ≠ 0) = true := decide_eq_true (by omega)
        have HR := Lib.hid (show z = true ∧ f9 = upd (upd f (2 * r) (-1)) (n % 2) 1 from ⟨by rw [HZ.out, et], by rw [HF9.out, hh]⟩)
        have h00 : upd f (2 * r) (-1) 0 = f 0 := by unfold upd; rw [if_neg (by omega)]
        have h01 : upd f (2 * r) (-1) 1 = f 1 := by unfold upd; rw [if_neg (by omega)]
        have hc0 := HF.out.pos 0 (by omega)
        have hc1 := HF.out.le (j := 0) (by omega)
        have hd0 := HF.out.pos 1 (by omega)
        have hd1 := HF.out.le (j := 1) (by omega)
        have HF1 := Lib.hid (show (∀ W, WAt W g (upd f (2 * r) (-1)) → W.cell? ⟨g, 0, none⟩ = some (.int .i64 (f 0)) ∧ W.frozen? ⟨g, 0, none⟩ = false ∧ W.cell? ⟨g, 8, none⟩ = some (.int .i64 (f 1)) ∧ W.frozen? ⟨g, 8, none⟩ = false ∧ WAt (W.setCell ⟨g, 0, none⟩ (.int .i64 (f 0 + 1))) g (upd (upd f (2 * r) (-1)) 0 1) ∧ WAt (W.setCell ⟨g, 8, none⟩ (.int .i64 (f 1 + 1))) g (upd (upd f (2 * r) (-1)) 1 1)) from fun W hW => by
          have p := hW.plain 0 (by omega)
          have q := hW.wick 0 (by omega)
          have s := hW.setPlain 0 1 (by omega)
          have t := hW.setWick 0 1 (by omega)
          rw [show 2 * 0 = 0 from rfl, h00] at p s
          rw [show 2 * 0 + 1 = 1 from rfl, h01] at q t
          exact ⟨p.1, p.2, q.1, q.2, s, t⟩)
        clear hz h0 hh ht et h00 h01
        have hone : ∀ m : Nat, ∃ W1, W1 = (w.drewN m).setCell ⟨g, r, none⟩ (.int .i64 (f (2 * r) - 1)) ∧ WAt W1 g (upd f (2 * r) (-1)) ∧ Only g w W1 := fun m => ⟨_, rfl, WAt.setPlain (w := w.drewN m) H.out r (-1) hr, ((Only.refl g w).drewN m).setCell (p := ⟨g, r, none⟩) (.inl rfl) _⟩
        rcases Nat.mod_two_eq_zero_or_one n with hm | hm
        · have em : ((n : Int) % 2 == 0) = true := by rw [beq_iff_eq]; omega
          have HM := Lib.hid hm
          obtain ⟨W1, hW1, hw1, ho1⟩ := hone (q + 1)
          have HW := Lib.hid hW1
          have HW1 := Lib.hid hw1
          have HO1 := Lib.hid ho1
          clear hm hone hW1 hw1 ho1
          go_wp2
          go_region
          go_wp2_with fail
          rw [← HW.out]
          obtain ⟨p0, pf, q0, qf, _, _⟩ := HF1.out W1 HW1.out
          go_region
          go_wp2
          go_ret
          exact ⟨ret_b HR.out.1.symm, by rw [HR.out.2, HM.out]; exact (HF1.out W1 HW1.out).2.2.2.2.1.drew, (HO1.out.setCell (p := ⟨g, 0, none⟩) (.inl rfl) _).drew⟩
        · have em : ((n : Int) % 2 == 0) = false := by rw [beq_eq_false_iff_ne]; omega
          have HM := Lib.hid hm
          obtain ⟨W1, hW1, hw1, ho1⟩ := hone (q + 1)
          have HW := Lib.hid hW1
          have HW1 := Lib.hid hw1
          have HO1 := Lib.hid ho1
          clear hm hone hW1 hw1 ho1
          go_wp2
          go_region
          go_wp2_with fail
          rw [← HW.out]
          obtain ⟨p0, pf, q0, qf, _, _⟩ := HF1.out W1 HW1.out
          go_region
          go_wp2
          go_ret
          exact ⟨ret_b HR.out.1.symm, by rw [HR.out.2, HM.out]; exact (HF1.out W1 HW1.out).2.2.2.2.2.drew, (HO1.out.setCell (p := ⟨g, 8, none⟩) (.inl rfl) _).drew⟩
    · obtain rfl : r = 0 := by omega
      obtain ⟨hh, ht⟩ := hard_none (n := n) hz.out
      have HR := Lib.hid (show z = false ∧ f9 = f from ⟨by rw [HZ.out, ht]; rfl, by rw [HF9.out, hh]⟩)
      clear hz hh ht h1
      go_wp2
      go_ret
      exact ⟨ret_b HR.out.1.symm, by rw [HR.out.2]; exact Blk.below H.out (Below.drewN_ (Below.refl w.heap.size w) _) (Blk.lt H.out), (Only.refl g w).drewN _⟩
set_option maxRecDepth 100000 in
set_option maxHeartbeats 2000000 in
theorem w_easier (f : Nat → Int) (g : Nat) (w : World) (h : WAt w g f) (hf : Fit f) :
    Calls Tryz.prog 80 #[.pointer (some ⟨g, 0, none⟩)] w fun e w' => e = .returned (.bool (decide (0 < f 1 ∨ 0 < f 0))) ∧ WAt w' g (easyF f) ∧ Only g w w' := by
  have H := Lib.hid h
  have HF := Lib.hid hf
  obtain ⟨z, hz⟩ : ∃ z, z = decide (0 < f 1 ∨ 0 < f 0) := ⟨_, rfl⟩
  obtain ⟨f9, hf9⟩ : ∃ f9, f9 = easyF f := ⟨_, rfl⟩
  rw [← hz, ← hf9]
  have HZ := Lib.hid hz
  have HF9 := Lib.hid hf9
  clear h hf hz hf9
  obtain ⟨c8, cf8⟩ := H.out.wick 0 (by omega)
  rw [show 2 * 0 + 1 = 1 from rfl, Nat.add_zero] at c8
  rw [Nat.add_zero] at cf8
  obtain ⟨d0, df0⟩ := H.out.plain 0 (by omega)
  rw [show 2 * 0 = 0 from rfl] at d0
  go_enter Tryz.func80, Tryz.ntmps80
  by_cases h1 : 0 < f 1
  · have e1 : decide (0 < f 1) = true := decide_eq_true h1
    have hb0 := HF.out.pos 1 (by omega)
    have hb1 := HF.out.le (j := 1) (by omega)
    have hb2 := HF.out.pos 2 (by omega)
    have hb3 := HF.out.le (j := 2) (by omega)
    have HR := Lib.hid (show z = true ∧ f9 = upd (upd f 1 (-1)) 2 1 from ⟨by rw [HZ.out]; exact decide_eq_true (by omega), by rw [HF9.out]; unfold easyF; rw [if_pos h1]⟩)
    have hw1 : WAt (w.setCell ⟨g, 8, none⟩ (.int .i64 (f 1 - 1))).drew g (upd f 1 (-1)) := (WAt.setWick H.out 0 (-1) (by omega)).drew
    have ho1 : Only g w (w.setCell ⟨g, 8, none⟩ (.int .i64 (f 1 - 1))).drew := ((Only.refl g w).setCell (p := ⟨g, 8, none⟩) (.inl rfl) _).drew
    have h2 : upd f 1 (-1) 2 = f 2 := by unfold upd; rw [if_neg (by omega)]
    have hp := hw1.plain 1 (by omega)
    have hs := hw1.setPlain 1 1 (by omega)
    rw [show 2 * 1 = 2 from rfl, h2] at hp hs
    obtain ⟨W1, hW1⟩ : ∃ W1, W1 = (w.setCell ⟨g, 8, none⟩ (.int .i64 (f 1 - 1))).drew := ⟨_, rfl⟩
    rw [← hW1] at hp hs ho1
    obtain ⟨p0, pf0⟩ := hp
    have HS := Lib.hid hs
    have HO1 := Lib.hid ho1
    have HW := Lib.hid hW1
    clear hw1 ho1 h2 hs hW1
    go_wp2
    go_region
    go_wp2_with fail
    rw [← HW.out]
    go_region
    go_wp2
    go_ret
    exact ⟨ret_b HR.out.1.symm, by rw [HR.out.2]; exact HS.out.drew, (HO1.out.setCell (p := ⟨g, 1, none⟩) (.inl rfl) _).drew⟩
  · have e1 : decide (0 < f 1) = false := decide_eq_false h1
    by_cases h0 : 0 < f 0
    · have e0 : decide (0 < f 0) = true := decide_eq_true h0
      have hb0 := HF.out.pos 0 (by omega)
      have hb1 := HF.out.le (j := 0) (by omega)
      have hb2 := HF.out.pos 2 (by omega)
      have hb3 := HF.out.le (j := 2) (by omega)
      have HR := Lib.hid (show z = true ∧ f9 = upd (upd f 0 (-1)) 2 1 from ⟨by rw [HZ.out]; exact decide_eq_true (by omega), by rw [HF9.out]; unfold easyF; rw [if_neg h1, if_pos h0]⟩)
      have hw1 : WAt (w.setCell ⟨g, 0, none⟩ (.int .i64 (f 0 - 1))).drew g (upd f 0 (-1)) := (WAt.setPlain H.out 0 (-1) (by omega)).drew
      have ho1 : Only g w (w.setCell ⟨g, 0, none⟩ (.int .i64 (f 0 - 1))).drew := ((Only.refl g w).setCell (p := ⟨g, 0, none⟩) (.inl rfl) _).drew
      have h2 : upd f 0 (-1) 2 = f 2 := by unfold upd; rw [if_neg (by omega)]
      have hp := hw1.plain 1 (by omega)
      have hs := hw1.setPlain 1 1 (by omega)
      rw [show 2 * 1 = 2 from rfl, h2] at hp hs
      obtain ⟨W1, hW1⟩ : ∃ W1, W1 = (w.setCell ⟨g, 0, none⟩ (.int .i64 (f 0 - 1))).drew := ⟨_, rfl⟩
      rw [← hW1] at hp hs ho1
      obtain ⟨p0, pf0⟩ := hp
      have HS := Lib.hid hs
      have HO1 := Lib.hid ho1
      have HW := Lib.hid hW1
      clear hw1 ho1 h2 hs hW1
      go_wp2
      go_region
      go_wp2_with fail
      rw [← HW.out]
      go_region
      go_wp2
      go_ret
      exact ⟨ret_b HR.out.1.symm, by rw [HR.out.2]; exact HS.out.drew, (HO1.out.setCell (p := ⟨g, 1, none⟩) (.inl rfl) _).drew⟩
    · have e0 : decide (0 < f 0) = false := decide_eq_false h0
      have HR := Lib.hid (show z = false ∧ f9 = f from ⟨by rw [HZ.out]; exact decide_eq_false (by omega), by rw [HF9.out]; unfold easyF; rw [if_neg h1, if_neg h0]⟩)
      clear h1 h0
      go_wp2
      go_ret
      exact ⟨ret_b HR.out.1.symm, by rw [HR.out.2]; exact H.out, Only.refl g w⟩
end Go.Proofs.YtglkejlimeakbaaGreatDoor

namespace Go.Proofs.YtglkejlimeakbaaGreatDoor

/-- No two outcomes with one key, all runs in range, no weight below 0. -/
structure Uni (l : List Otc) : Prop where
  ne : l.Pairwise fun a b => keyO a ≠ keyO b
  each : ∀ o ∈ l, 0 ≤ o.runs ∧ o.runs ≤ 7 ∧ 0 ≤ o.wt
theorem wAt_set {l : List Otc} {i : Nat} (hi : i < l.length) (a : Otc) (j : Nat) : wAt (l.set i a) j = wAt l j - (if keyO l[i] = j then l[i].wt else 0) + (if keyO a = j then a.wt else 0) := by
  induction l generalizing i with
  | nil => simp at hi
  | cons o l ih =>
    cases i with
    | zero => rw [List.set_cons_zero, wAt_cons, wAt_cons, List.getElem_cons_zero]; omega
    | succ i => rw [List.set_cons_succ, wAt_cons, wAt_cons, List.getElem_cons_succ, ih (by simpa using hi)]; omega
theorem wAt_uni {l : List Otc} (h : Uni l) {i : Nat} (hi : i < l.length) : wAt l (keyO l[i]) = l[i].wt := by
  have hp := List.pairwise_iff_getElem.1 h.ne
  have e : wAt (l.set i { l[i] with wt := 0 }) (keyO l[i]) = 0 := by
    have : ∀ o ∈ l.set i { l[i] with wt := 0 }, (if keyO o = keyO l[i] then o.wt else 0) = 0 := fun o ho => by
      obtain ⟨k, hk, rfl⟩ := List.mem_iff_getElem.1 ho
      rw [List.length_set] at hk
      by_cases hki : k = i
      · subst hki; rw [List.getElem_set_self]; simp
      · rw [List.getElem_set_ne (fun e => hki e.symm)]
        have : keyO l[k] ≠ keyO l[i] := by
          rcases Nat.lt_or_gt_of_ne hki with h1 | h1
          · exact hp k i hk hi h1
          · exact fun e => hp i k hi hk h1 e.symm
        rw [if_neg this]
    unfold wAt
    have h0 : (l.set i { l[i] with wt := 0 }).map (fun o => if keyO o = keyO l[i] then o.wt else 0) = (l.set i { l[i] with wt := 0 }).map (fun _ => 0) := List.map_congr_left this
    rw [h0]
    generalize l.set i { l[i] with wt := 0 } = m
    induction m with
    | nil => rfl
    | cons a m ih => rw [List.map_cons, sumI_cons, ih]; rfl
  rw [wAt_set hi, if_pos rfl] at e
  rw [show keyO { l[i] with wt := 0 } = keyO l[i] from rfl, if_pos rfl] at e
  dsimp only at e
  omega
theorem wAt_zero_of {l : List Otc} {j : Nat} (h : wAt l j ≠ 0) : ∃ i, ∃ hi : i < l.length, keyO l[i] = j := by
  rcases Classical.em (∃ i, ∃ hi : i < l.length, keyO l[i] = j) with h1 | h1
  · exact h1
  · exact absurd (wAt_none fun o ho e => by obtain ⟨i, hi, rfl⟩ := List.mem_iff_getElem.1 ho; exact h1 ⟨i, hi, e⟩) h
theorem Uni.set {l : List Otc} (h : Uni l) {i : Nat} (hi : i < l.length) (x : Int) (hx : 0 ≤ x) : Uni (l.set i { l[i] with wt := x }) := by
  refine ⟨?_, fun o ho => ?_⟩
  · have : (l.set i { l[i] with wt := x }).map keyO = l.map keyO := by
      rw [List.map_set, show keyO { l[i] with wt := x } = keyO l[i] from rfl]
      apply List.ext_getElem
      · simp
      · intro k h1 h2
        rw [List.getElem_set]
        split
        · rename_i e; subst e; simp
        · rfl
    have h2 := List.pairwise_map.2 h.ne
    rw [← this] at h2
    exact List.pairwise_map.1 h2
  · rcases List.mem_or_eq_of_mem_set ho with h1 | h1
    · exact h.each o h1
    · rw [h1]
      have := h.each _ (List.getElem_mem hi)
      exact ⟨this.1, this.2.1, hx⟩
/-- The index of the outcome without a wicket that has the most runs, of the first k. -/
def mostK (d : List Otc) : Nat → Int
  | 0 => -1
  | k + 1 => match d[k]? with
    | none => mostK d k
    | some o => if o.wick = false ∧ 0 < o.runs ∧ 0 < o.wt ∧ (mostK d k < 0 ∨ ((d[(mostK d k).toNat]?).map (·.runs)).getD 0 < o.runs) then (k : Int) else mostK d k
def candM (o : Otc) : Prop := o.wick = false ∧ 0 < o.runs ∧ 0 < o.wt
theorem mostK_at (d : List Otc) : ∀ k, k ≤ d.length → (mostK d k = -1 ∧ ∀ i (hi : i < k) (hd : i < d.length), ¬ candM d[i]) ∨ ∃ i : Nat, ∃ hi : i < d.length, i < k ∧ mostK d k = i ∧ candM d[i] ∧ ∀ s (hs : s < k) (hd : s < d.length), candM d[s] → d[s].runs ≤ d[i].runs
  | 0, _ => .inl ⟨rfl, fun i hi => by omega⟩
  | k + 1, hk => by
    have hkd : k < d.length := by omega
    have hm : mostK d (k + 1) = if d[k].wick = false ∧ 0 < d[k].runs ∧ 0 < d[k].wt ∧ (mostK d k < 0 ∨ ((d[(mostK d k).toNat]?).map (·.runs)).getD 0 < d[k].runs) then (k : Int) else mostK d k := by
      rw [mostK, List.getElem?_eq_getElem hkd]
    rcases mostK_at d k (by omega) with ⟨h1, h2⟩ | ⟨i, hi, hik, h1, h2, h3⟩
    · by_cases hc : candM d[k]
      · refine .inr ⟨k, hkd, by omega, ?_, hc, fun s hs hd hcs => ?_⟩
        · rw [hm, if_pos ⟨hc.1, hc.2.1, hc.2.2, .inl (by omega)⟩]
        · by_cases hsk : s = k
          · subst hsk; exact Int.le_refl _
          · exact absurd hcs (h2 s (by omega) hd)
      · refine .inl ⟨?_, fun s hs hd => ?_⟩
        · rw [hm, if_neg (fun h => hc ⟨h.1, h.2.1, h.2.2.1⟩), h1]
        · by_cases hsk : s = k
          · subst hsk; exact hc
          · exact h2 s (by omega) hd
    · have e : ((d[(mostK d k).toNat]?).map (·.runs)).getD 0 = d[i].runs := by
        rw [h1, Int.toNat_natCast, List.getElem?_eq_getElem hi]; rfl
      rw [e] at hm
      by_cases hc : candM d[k] ∧ d[i].runs < d[k].runs
      · refine .inr ⟨k, hkd, by omega, ?_, hc.1, fun s hs hd hcs => ?_⟩
        · rw [hm, if_pos ⟨hc.1.1, hc.1.2.1, hc.1.2.2, .inr hc.2⟩]
        · by_cases hsk : s = k
          · subst hsk; exact Int.le_refl _
          · have := h3 s (by omega) hd hcs; omega
      · refine .inr ⟨i, hi, by omega, ?_, h2, fun s hs hd hcs => ?_⟩
        · rw [hm, if_neg (fun h => hc ⟨⟨h.1, h.2.1, h.2.2.1⟩, by rcases h.2.2.2 with h4 | h4 <;> omega⟩), h1]
        · by_cases hsk : s = k
          · subst hsk
            rcases Classical.em (d[i].runs < d[s].runs) with h4 | h4
            · exact absurd ⟨hcs, h4⟩ hc
            · omega
          · exact h3 s (by omega) hd hcs
/-- The first outcome of 0 runs, with or without a wicket, that has a weight. -/
def dotF (w : Bool) : List Otc → Nat → Int
  | [], _ => -1
  | o :: l, i => if o.runs = 0 ∧ o.wick = w ∧ 0 < o.wt then (i : Int) else dotF w l (i + 1)
def dotS (d : List Otc) (w : Bool) : Int := dotF w d 0
theorem dotF_at (w : Bool) : ∀ (l : List Otc) (i : Nat), (dotF w l i = -1 ∧ ∀ o ∈ l, ¬ (o.runs = 0 ∧ o.wick = w ∧ 0 < o.wt)) ∨ ∃ k : Nat, ∃ hk : k < l.length, dotF w l i = ((i + k : Nat) : Int) ∧ l[k].runs = 0 ∧ l[k].wick = w ∧ 0 < l[k].wt
  | [], i => .inl ⟨rfl, by simp⟩
  | o :: l, i => by
    rw [dotF]
    by_cases h : o.runs = 0 ∧ o.wick = w ∧ 0 < o.wt
    · rw [if_pos h]; exact .inr ⟨0, by simp, by simp, h⟩
    · rw [if_neg h]
      rcases dotF_at w l (i + 1) with ⟨h1, h2⟩ | ⟨k, hk, h1, h2⟩
      · exact .inl ⟨h1, fun x hx => by
          rcases List.mem_cons.1 hx with rfl | hx
          · exact h
          · exact h2 x hx⟩
      · exact .inr ⟨k + 1, by simpa using hk, by rw [h1]; congr 1; omega, h2⟩
/-- The place of an outcome with these runs, with or without a wicket; the length where there is none. -/
def placeO (r : Int) (w : Bool) : List Otc → Nat
  | [] => 0
  | o :: l => if o.runs = r ∧ o.wick = w then 0 else placeO r w l + 1
theorem placeO_le (r : Int) (w : Bool) : ∀ l : List Otc, placeO r w l ≤ l.length
  | [] => Nat.le_refl _
  | o :: l => by
    rw [placeO]; split
    · omega
    · have := placeO_le r w l; simp; omega
theorem placeO_lt (r : Int) (w : Bool) : ∀ (l : List Otc) (h : placeO r w l < l.length), l[placeO r w l].runs = r ∧ l[placeO r w l].wick = w
  | [], h => by simp [placeO] at h
  | o :: l, h => by
    by_cases ho : o.runs = r ∧ o.wick = w
    · have e : placeO r w (o :: l) = 0 := by rw [placeO, if_pos ho]
      simp only [e, List.getElem_cons_zero]; exact ho
    · have e : placeO r w (o :: l) = placeO r w l + 1 := by rw [placeO, if_neg ho]
      have h' : placeO r w l < l.length := by rw [e] at h; simpa using h
      simp only [e, List.getElem_cons_succ]
      exact placeO_lt r w l h'
theorem placeO_before (r : Int) (w : Bool) : ∀ (l : List Otc) (i : Nat) (h : i < l.length), i < placeO r w l → ¬ (l[i].runs = r ∧ l[i].wick = w)
  | o :: l, i, h, hi => by
    rw [placeO] at hi
    by_cases ho : o.runs = r ∧ o.wick = w
    · rw [if_pos ho] at hi; omega
    · rw [if_neg ho] at hi
      cases i with
      | zero => rw [List.getElem_cons_zero]; exact ho
      | succ i => rw [List.getElem_cons_succ]; exact placeO_before r w l i (by simpa using h) (by omega)
def takeL (d : List Otc) (i : Nat) : List Otc := match d[i]? with
  | none => d
  | some o => d.set i { o with wt := o.wt - 1 }
def giveL (out : List Otc) (r : Int) (w : Bool) : List Otc := match out[placeO r w out]? with
  | some o => out.set (placeO r w out) { o with wt := o.wt + 1 }
  | none => out ++ [⟨r, w, 1⟩]
/-- A unit moved from the i-th outcome to the runs r. -/
def moveL (d : List Otc) (i : Nat) (r : Int) (w : Bool) : List Otc := giveL (takeL d i) r w
theorem takeL_at {d : List Otc} {i : Nat} (h : i < d.length) : takeL d i = d.set i { d[i] with wt := d[i].wt - 1 } := by unfold takeL; rw [List.getElem?_eq_getElem h]
theorem giveL_at {d : List Otc} {r : Int} {w : Bool} (h : placeO r w d < d.length) : giveL d r w = d.set (placeO r w d) { d[placeO r w d] with wt := d[placeO r w d].wt + 1 } := by unfold giveL; rw [List.getElem?_eq_getElem h]
theorem giveL_new {d : List Otc} {r : Int} {w : Bool} (h : ¬ placeO r w d < d.length) : giveL d r w = d ++ [⟨r, w, 1⟩] := by unfold giveL; rw [List.getElem?_eq_none (by omega)]
def keyR (r : Int) (w : Bool) : Nat := keyO ⟨r, w, 0⟩
theorem giveL_law {d : List Otc} (h : Uni d) {r : Int} {w : Bool} (hr : 0 ≤ r ∧ r ≤ 7) : Uni (giveL d r w) ∧ (∀ j, wAt (giveL d r w) j = upd (wAt d) (keyR r w) 1 j) ∧ (giveL d r w).length ≤ d.length + 1 := by
  by_cases hp : placeO r w d < d.length
  · obtain ⟨h1, h2⟩ := placeO_lt r w d hp
    have h0 := h.each _ (List.getElem_mem hp)
    have hk : keyO d[placeO r w d] = keyR r w := (key_eq h0.1 hr.1).2 ⟨h1, h2⟩
    rw [giveL_at hp]
    refine ⟨h.set hp _ (by omega), fun j => ?_, by simp⟩
    rw [wAt_set hp, show keyO { d[placeO r w d] with wt := d[placeO r w d].wt + 1 } = keyO d[placeO r w d] from rfl, hk, upd]
    by_cases hj : j = keyR r w
    · rw [if_pos hj.symm, if_pos hj.symm, if_pos hj]; simp only; omega
    · rw [if_neg (fun e => hj e.symm), if_neg (fun e => hj e.symm), if_neg hj]; omega
  · rw [giveL_new hp]
    have hle := placeO_le r w d
    refine ⟨⟨List.pairwise_append.2 ⟨h.ne, List.pairwise_singleton _ _, fun a ha b hb => ?_⟩, fun o ho => ?_⟩, fun j => ?_, by simp⟩
    · rw [List.mem_singleton.1 hb]
      obtain ⟨i, hi, rfl⟩ := List.mem_iff_getElem.1 ha
      intro e
      have h0 := h.each _ (List.getElem_mem hi)
      exact placeO_before r w d i hi (by omega) ((key_eq (b := ⟨r, w, 1⟩) h0.1 hr.1).1 e)
    · rcases List.mem_append.1 ho with ho | ho
      · exact h.each o ho
      · rw [List.mem_singleton.1 ho]; exact ⟨hr.1, hr.2, by simp⟩
    · rw [wAt_app, wAt_cons, wAt_nil, show keyO ⟨r, w, 1⟩ = keyR r w from rfl, upd]
      by_cases hj : j = keyR r w
      · rw [if_pos hj.symm, if_pos hj]; simp only; omega
      · rw [if_neg (fun e => hj e.symm), if_neg hj]; omega
theorem takeL_law {d : List Otc} (h : Uni d) {i : Nat} (hi : i < d.length) (hw : 0 < d[i].wt) : Uni (takeL d i) ∧ (∀ j, wAt (takeL d i) j = upd (wAt d) (keyO d[i]) (-1) j) ∧ (takeL d i).length = d.length := by
  rw [takeL_at hi]
  refine ⟨h.set hi _ (by omega), fun j => ?_, by simp⟩
  rw [wAt_set hi, show keyO { d[i] with wt := d[i].wt - 1 } = keyO d[i] from rfl, upd]
  by_cases hj : j = keyO d[i]
  · rw [if_pos hj.symm, if_pos hj.symm, if_pos hj]; simp only; omega
  · rw [if_neg (fun e => hj e.symm), if_neg (fun e => hj e.symm), if_neg hj]; omega
theorem moveL_law {d : List Otc} (h : Uni d) {i : Nat} (hi : i < d.length) (hw : 0 < d[i].wt) {r : Int} {w : Bool} (hr : 0 ≤ r ∧ r ≤ 7) :
    Uni (moveL d i r w) ∧ (∀ j, wAt (moveL d i r w) j = upd (upd (wAt d) (keyO d[i]) (-1)) (keyR r w) 1 j) ∧ (moveL d i r w).length ≤ d.length + 1 := by
  obtain ⟨h1, h2, h3⟩ := takeL_law h hi hw
  obtain ⟨h4, h5, h6⟩ := giveL_law h1 (r := r) (w := w) hr
  refine ⟨h4, fun j => ?_, by unfold moveL; omega⟩
  unfold moveL
  rw [h5, upd, upd, h2]
def mostS (d : List Otc) : Int := mostK d d.length
/-- The reference's unit that makes a ball harder, easier. -/
def hardL (k : Nat) (d : List Otc) : List Otc := if 0 ≤ mostS d then moveL d (mostS d).toNat 0 (decide (k % 2 = 1)) else d
def easyI (d : List Otc) : Int := if dotS d true < 0 then dotS d false else dotS d true
def easyL (d : List Otc) : List Otc := if 0 ≤ easyI d then moveL d (easyI d).toNat 1 false else d
theorem key_plain {o : Otc} (h : 0 ≤ o.runs) (hw : o.wick = false) : keyO o = 2 * o.runs.toNat := by unfold keyO; rw [hw]; simp
theorem hardL_law {d : List Otc} (h : Uni d) (k : Nat) : Uni (hardL k d) ∧ wAt (hardL k d) = hardF k (wAt d) ∧ (hardL k d).length ≤ d.length + 1 := by
  unfold hardL mostS
  have nn := fun j => wAt_nonneg (fun o ho => (h.each o ho).2.2) (l := d) j
  rcases mostK_at d d.length (Nat.le_refl _) with ⟨h1, h2⟩ | ⟨i, hi, _, h1, h2, h3⟩
  · rw [h1, if_neg (by omega)]
    refine ⟨h, ?_, by omega⟩
    have ht : topF (wAt d) 7 = 0 := topF_none fun s hs1 hs7 => by
      rcases Classical.em (wAt d (2 * s) = 0) with h0 | h0
      · exact h0
      · obtain ⟨i, hi, hk⟩ := wAt_zero_of h0
        have he := h.each _ (List.getElem_mem hi)
        have hw := wAt_uni h hi
        rw [hk] at hw
        have hr := key_runs he.1
        rw [hk] at hr
        refine absurd ⟨?_, ?_, ?_⟩ (h2 i hi hi)
        · rw [hr.2]; simp
        · rw [hr.1]; omega
        · have := nn (2 * s); omega
    rw [hardF, if_pos ht]
  · rw [h1, if_pos (by omega), Int.toNat_natCast]
    obtain ⟨g1, g2, g3⟩ := moveL_law h hi h2.2.2 (r := 0) (w := decide (k % 2 = 1)) (by omega)
    have he := h.each _ (List.getElem_mem hi)
    have hkey := key_plain he.1 h2.1
    have ht : topF (wAt d) 7 = d[i].runs.toNat := topF_at (by
        rw [← hkey, wAt_uni h hi]; have := h2.2.2; omega) (fun s hs1 hs7 => by
        rcases Classical.em (wAt d (2 * s) = 0) with h0 | h0
        · exact h0
        · obtain ⟨i', hi', hk'⟩ := wAt_zero_of h0
          have he' := h.each _ (List.getElem_mem hi')
          have hw' := wAt_uni h hi'
          rw [hk'] at hw'
          have hr' := key_runs he'.1
          rw [hk'] at hr'
          have := h3 i' hi' hi' ⟨by rw [hr'.2]; simp, by rw [hr'.1]; omega, by have := nn (2 * s); omega⟩
          rw [hr'.1] at this
          omega) (by omega) (by have := h2.2.1; omega)
    refine ⟨g1, ?_, g3⟩
    rw [funext g2, hardF, if_neg (by rw [ht]; have := h2.2.1; omega), ht, hkey]
    congr 1
    unfold keyR keyO
    by_cases hk2 : k % 2 = 1
    · simp [hk2]
    · simp [hk2]; omega
theorem easyL_law {d : List Otc} (h : Uni d) : Uni (easyL d) ∧ wAt (easyL d) = easyF (wAt d) ∧ (easyL d).length ≤ d.length + 1 := by
  have nn := fun j => wAt_nonneg (fun o ho => (h.each o ho).2.2) (l := d) j
  have none : ∀ w : Bool, (∀ o ∈ d, ¬ (o.runs = 0 ∧ o.wick = w ∧ 0 < o.wt)) → wAt d (keyR 0 w) = 0 := fun w hno => by
    rcases Classical.em (wAt d (keyR 0 w) = 0) with h0 | h0
    · exact h0
    · obtain ⟨i, hi, hk⟩ := wAt_zero_of h0
      have he := h.each _ (List.getElem_mem hi)
      have hw := wAt_uni h hi
      rw [hk] at hw
      have := (key_eq (b := ⟨0, w, 0⟩) he.1 (by simp)).1 hk
      exact absurd ⟨this.1, this.2, by have := nn (keyR 0 w); omega⟩ (hno _ (List.getElem_mem hi))
  have k1 : keyR 0 true = 1 := rfl
  have k0 : keyR 0 false = 0 := rfl
  have hit : ∀ (i : Nat) (hi : i < d.length) (w : Bool), d[i].runs = 0 → d[i].wick = w → 0 < d[i].wt → keyO d[i] = keyR 0 w ∧ 0 < wAt d (keyR 0 w) := fun i hi w a b c => by
    have he := h.each _ (List.getElem_mem hi)
    have e : keyO d[i] = keyR 0 w := (key_eq (b := ⟨0, w, 0⟩) he.1 (by simp)).2 ⟨a, b⟩
    have := wAt_uni h hi
    rw [e] at this
    exact ⟨e, by omega⟩
  rcases dotF_at true d 0 with ⟨h1, h2⟩ | ⟨i, hi, h1, ha, hb, hc⟩
  · have z1 := none true h2
    rw [k1] at z1
    have hE : easyI d = dotF false d 0 := by unfold easyI dotS; rw [if_pos (by omega)]
    unfold easyL
    rw [hE]
    rcases dotF_at false d 0 with ⟨h3, h4⟩ | ⟨i, hi, h3, ha, hb, hc⟩
    · have z0 := none false h4
      rw [k0] at z0
      rw [h3, if_neg (by omega)]
      exact ⟨h, by rw [easyF, if_neg (by omega), if_neg (by omega)], by omega⟩
    · obtain ⟨e1, e2⟩ := hit i hi false ha hb hc
      rw [h3, if_pos (by omega), Nat.zero_add, Int.toNat_natCast]
      obtain ⟨g1, g2, g3⟩ := moveL_law h hi hc (r := 1) (w := false) (by omega)
      rw [k0] at e1 e2
      exact ⟨g1, by rw [funext g2, easyF, if_neg (by omega), if_pos e2, e1]; rfl, g3⟩
  · have hE : easyI d = dotF true d 0 := by unfold easyI dotS; rw [if_neg (by omega)]
    unfold easyL
    rw [hE]
    obtain ⟨e1, e2⟩ := hit i hi true ha hb hc
    rw [h1, if_pos (by omega), Nat.zero_add, Int.toNat_natCast]
    obtain ⟨g1, g2, g3⟩ := moveL_law h hi hc (r := 1) (w := false) (by omega)
    rw [k1] at e1 e2
    exact ⟨g1, by rw [funext g2, easyF, if_pos e2, e1]; rfl, g3⟩
theorem Uni.small {l : List Otc} (h : Uni l) (hs : sumK (wAt l) 16 0 = 16) : ∀ o ∈ l, OkN o := fun o ho => by
  have he := h.each o ho
  obtain ⟨i, hi, rfl⟩ := List.mem_iff_getElem.1 ho
  refine ⟨he.1, he.2.1, he.2.2, ?_⟩
  have hk : keyO l[i] < 16 := by unfold keyO; split <;> omega
  have h1 := (sumK_pos 16 0 fun j _ _ => wAt_nonneg (fun o ho => (h.each o ho).2.2) j).2 (keyO l[i]) (by omega) (by omega)
  rw [wAt_uni h hi, hs] at h1
  exact h1
end Go.Proofs.YtglkejlimeakbaaGreatDoor

namespace Go.Proofs.YtglkejlimeakbaaGreatDoor

theorem wAt_one (o : Otc) (j : Nat) : wAt [o] j = if keyO o = j then o.wt else 0 := by rw [wAt_cons, wAt_nil, Int.add_zero]
theorem take_upd {d : List Otc} (hn : Neat d) {k : Nat} (hk : k < d.length) : wAt (d.take (k + 1)) = upd (wAt (d.take k)) (keyO d[k]) d[k].wt ∧ wAt (d.take k) (keyO d[k]) = 0 := by
  have e : d.take (k + 1) = d.take k ++ [d[k]] := by rw [List.take_add_one, List.getElem?_eq_getElem hk]; rfl
  constructor
  · funext j
    rw [e, wAt_app, wAt_one]
    unfold upd
    by_cases h : j = keyO d[k]
    · rw [if_pos h, if_pos h.symm]
    · rw [if_neg h, if_neg fun x => h x.symm, Int.add_zero]
  · refine wAt_none fun o ho => ?_
    obtain ⟨i, hi, rfl⟩ := List.mem_iff_getElem.1 ho
    rw [List.getElem_take]
    have := List.pairwise_iff_getElem.1 hn.asc i k (by rw [List.length_take] at hi; omega) hk (by rw [List.length_take] at hi; omega)
    omega
/-- The first 2m outcomes in the order of their keys. -/
def allF (f : Nat → Int) : Nat → List Otc
  | 0 => []
  | m + 1 => allF f m ++ [⟨(m : Int), false, f (2 * m)⟩, ⟨(m : Int), true, f (2 * m + 1)⟩]
theorem allF_len (f : Nat → Int) : ∀ m, (allF f m).length = 2 * m
  | 0 => rfl
  | m + 1 => by rw [allF, List.length_append, allF_len f m]; rfl
theorem allF_wAt (f : Nat → Int) : ∀ m j, wAt (allF f m) j = if j < 2 * m then f j else 0
  | 0, j => by rw [if_neg (by omega)]; rfl
  | m + 1, j => by
    rw [allF, wAt_app, allF_wAt f m j, wAt_cons, wAt_one]
    have e1 : keyO ⟨(m : Int), false, f (2 * m)⟩ = 2 * m := by unfold keyO; simp
    have e2 : keyO ⟨(m : Int), true, f (2 * m + 1)⟩ = 2 * m + 1 := by unfold keyO; simp
    rw [e1, e2]
    by_cases h1 : j < 2 * m
    · rw [if_pos h1, if_neg (by omega), if_neg (by omega), if_pos (by omega)]; omega
    · rw [if_neg h1]
      by_cases h2 : j = 2 * m
      · subst h2; rw [if_pos rfl, if_neg (by omega), if_pos (by omega)]; dsimp only; omega
      · rw [if_neg (fun e => h2 e.symm)]
        by_cases h3 : j = 2 * m + 1
        · subst h3; rw [if_pos rfl, if_pos (by omega)]; dsimp only; omega
        · rw [if_neg (fun e => h3 e.symm), if_neg (by omega)]; omega
theorem allF_each {f : Nat → Int} (h : Fit f) : ∀ m, m ≤ 8 → ∀ o ∈ allF f m, OkN o
  | 0, _, o, ho => by cases ho
  | m + 1, hm, o, ho => by
    rw [allF, List.mem_append] at ho
    rcases ho with ho | ho
    · exact allF_each h m (by omega) o ho
    · have a1 := h.pos (2 * m) (by omega)
      have a2 := h.pos (2 * m + 1) (by omega)
      have b1 := h.le (j := 2 * m) (by omega)
      have b2 := h.le (j := 2 * m + 1) (by omega)
      simp only [List.mem_cons, List.not_mem_nil, or_false] at ho
      rcases ho with rfl | rfl
      · exact ⟨by show (0 : Int) ≤ m; omega, by show (m : Int) ≤ 7; omega, a1, b1⟩
      · exact ⟨by show (0 : Int) ≤ m; omega, by show (m : Int) ≤ 7; omega, a2, b2⟩
theorem normS_all {f : Nat → Int} (h : Fit f) : normS (allF f 8) = (canon f, 0) := by
  have he := allF_each h 8 (Nat.le_refl _)
  have hw : ∀ j, j < 16 → wAt (allF f 8) j = f j := fun j hj => by rw [allF_wAt, if_pos (by omega)]
  have hs : sumI ((allF f 8).map (·.wt)) = 16 := by
    rw [← sumK_wAt (allF f 8) fun o ho => ⟨(he o ho).r0, (he o ho).r7⟩, sumK_congr (g := f) 16 0 fun j _ h2 => hw j (by omega)]; exact h.sum
  unfold normS
  rw [if_neg (by rw [allF_len]; omega), if_neg, if_neg (by omega), canon_congr hw]
  intro hb
  obtain ⟨o, hx, hb⟩ := List.any_eq_true.1 hb
  rw [okN_good (he o hx)] at hb; cases hb
theorem move_two (f : Nat → Int) (n : Int) : easyK (hardK f n.toNat) (-n).toNat = moveW f n := by
  unfold moveW
  by_cases h : 0 ≤ n
  · rw [if_pos h, show (-n).toNat = 0 from by omega]; rfl
  · rw [if_neg h, show n.toNat = 0 from by omega]; rfl
theorem hard_same {f : Nat → Int} {n k : Nat} (h : topF (hardK f k) 7 = 0) (hk : k ≤ n) : hardK f n = hardK f k := by
  obtain ⟨m, rfl⟩ : ∃ m, n = k + m := ⟨n - k, by omega⟩
  exact hardK_stop h m
theorem easy_same {f : Nat → Int} {n k : Nat} (h : ¬ (0 < easyK f k 1 ∨ 0 < easyK f k 0)) (hk : k ≤ n) : easyK f n = easyK f k := by
  obtain ⟨m, rfl⟩ : ∃ m, n = k + m := ⟨n - k, by omega⟩
  exact easyK_stop (fun x => h (.inl x)) (fun x => h (.inr x)) m
theorem hard_stays {n : Nat} {f : Nat → Int} (h : topF f 7 = 0) : hardF n f = f := by unfold hardF; rw [if_pos h]
theorem easy_stays {f : Nat → Int} (h : ¬ (0 < f 1 ∨ 0 < f 0)) : easyF f = f := by unfold easyF; rw [if_neg fun x => h (.inl x), if_neg fun x => h (.inr x)]
theorem shift_bad {d : List Otc} {n : Int} (h : checkD d ≠ 0) : shiftS d n = ([], checkD d) := by unfold shiftS; rw [if_pos h]
theorem shift_far {d : List Otc} {n : Int} (h : checkD d = 0) (hn : n < -12 ∨ 12 < n) : shiftS d n = ([], 2) := by unfold shiftS; rw [if_neg (by omega), if_pos hn]
end Go.Proofs.YtglkejlimeakbaaGreatDoor

namespace Go.Proofs.YtglkejlimeakbaaGreatDoor
open Go.RowKit

/-- append of two elements, as a step of a region that draws. -/
theorem step_append_two {P : Program} {ops : Array Oper} {o : Oper} {a : Act} {w : World} {K : Act → World → Prop} {Q : Exit → Act → World → Prop} {E : Prop} (hgd : o.guard = none) (s x : Operand) (t : TypeId)
    (ho : o.op = .call { callee := .builtin .append, args := #[s, x], argTypes := #[t, t] })
    {e : TypeId} {size bytes : Nat} (hE : ElemOf P t e size bytes) {α : Type} {R : World → (Nat → Prop) → List Value → α → Prop} (hR : Good R)
    (base : Nat) (v : Value) (l : List α) (hs : a.eval s = v) (hown : OwnSl size R e base w v l)
    (ad : Addr) (c : Nat) (c0 c1 : List Value) (hx : a.eval x = .slice (some ad) 2 c) (x0 x1 : α) (hl0 : c0.length = size) (hl1 : c1.length = size) (hcell : ∀ j u, (c0 ++ c1)[j]? = some u → w.cell? (ad.add j) = some u)
    (h1 : ∀ u ∈ c0 ++ c1, u.oneCell' = true) (hel0 : R w NoG c0 x0) (hel1 : R w NoG c1 x1)
    (h63 : l.length + 2 ≤ maxLen) (hbytes : (l.length + 2) * bytes ≤ 140737488355328) (hbase : base ≤ w.heap.size)
    (h : ∀ v' w', OwnSl size R e base w' v' (l ++ [x0, x1]) → w.grownBy w' v.ownBlock → K (a.put o.dst v') w') :
    if Region.wanted o (yielded ops a.tmps) = true then Oper.wp P o a w K Q else E := by
  have hw : Region.wanted o (yielded ops a.tmps) = true := by simp [Region.wanted, hgd]
  rw [if_pos hw]
  obtain ⟨i, z, e1, e2, e3, e4, e5, e6, e7⟩ := hE
  obtain ⟨css, hlen, ho', hsz, hel'⟩ := hown
  obtain ⟨v', w', hr, h2, h3, _, h4⟩ := run_append_own_at (P := P) w base t o.type e i z size bytes e1 e2 e3 e4 e5 e6 e7 v l.length css.flatten ho' ad 2 c (c0 ++ c1) (by rw [List.length_append]; omega) hcell h1 h63 hbytes hbase
  unfold Oper.wp execOp
  simp only [ho, resolve, invoke, builtin, Sem.run_bind, Sem.run_pure, Result.andThen_ok, List.map_toArray, List.map_cons, List.map_nil, hs, hx, hr]
  have hS : Same NoG w w' := Same.grown h3 fun b hb => hb.elim
  refine h v' w' ⟨css ++ [c0, c1], by simp [hlen], by simpa using h2, fun c hc => ?_, fun i x c hi hc => ?_⟩ h3
  · rcases List.mem_append.1 hc with h | h
    · exact hsz c h
    · simp only [List.mem_cons, List.not_mem_nil, or_false] at h
      rcases h with rfl | rfl
      · exact hl0
      · exact hl1
  · by_cases hil : i < l.length
    · rw [List.getElem?_append_left hil] at hi
      rw [List.getElem?_append_left (by omega)] at hc
      exact hR.keep (hel' i x c hi hc) hS fun _ h => h
    · rw [List.getElem?_append_right (by omega)] at hi
      rw [List.getElem?_append_right (by omega), hlen] at hc
      rcases hj : i - l.length with _ | _ | j
      · rw [hj] at hi hc
        simp at hi hc
        subst hi; subst hc
        exact hR.keep hel0 hS fun _ h => h
      · rw [hj] at hi hc
        simp at hi hc
        subst hi; subst hc
        exact hR.keep hel1 hS fun _ h => h
      · rw [hj] at hi
        simp at hi
/-- The weights f lie in block g, made by this call. -/
structure Wk (w : World) (g : Nat) (W : World) (f : Nat → Int) : Prop where
  bel : Below w.heap.size w W
  hg : w.heap.size ≤ g
  wt : WAt W g f
section
variable {w W W' : World} {g : Nat} {f f' : Nat → Int}
theorem Wk.alloc (h : Wk w g W f) (o : Obj) : Wk w g (W.alloc o) f := ⟨h.bel.alloc h.bel.size o, h.hg, Blk.alloc h.wt o⟩
theorem Wk.drew (h : Wk w g W f) : Wk w g W.drew f := ⟨h.bel.drew, h.hg, h.wt.drew⟩
theorem Wk.only (h : Wk w g W f) (ho : Only g W W') (hw : WAt W' g f') : Wk w g W' f' := ⟨h.bel.trans (ho.below h.hg h.bel.size), h.hg, hw⟩
theorem Wk.below (h : Wk w g W f) (hb : Below W.heap.size W W') : Wk w g W' f := ⟨h.bel.trans (hb.mono h.bel.size), h.hg, Blk.below h.wt hb (Blk.lt h.wt)⟩
theorem Wk.putP (h : Wk w g W f) {r : Nat} (hr : r ≤ 7) (h0 : f (2 * r) = 0) {x : Int} (hf : f' = upd f (2 * r) x) : Wk w g (W.setCell ⟨g, r, none⟩ (.int .i64 x)) f' := by
  have := h.wt.setPlain r x hr
  rw [h0, Int.zero_add] at this
  exact hf ▸ h.only ((Only.refl g W).setCell (p := ⟨g, r, none⟩) (.inl rfl) _) this
theorem Wk.putW (h : Wk w g W f) {r : Nat} (hr : r ≤ 7) (h0 : f (2 * r + 1) = 0) {x : Int} (hf : f' = upd f (2 * r + 1) x) : Wk w g (W.setCell ⟨g, 8 + r, none⟩ (.int .i64 x)) f' := by
  have := h.wt.setWick r x hr
  rw [h0, Int.zero_add] at this
  exact hf ▸ h.only ((Only.refl g W).setCell (p := ⟨g, 8 + r, none⟩) (.inl rfl) _) this
end
theorem wk_new {w W : World} (hb : Below w.heap.size w W) : Wk w W.heap.size (W.alloc (.cells #[.int .i64 0, .int .i64 0, .int .i64 0, .int .i64 0, .int .i64 0, .int .i64 0, .int .i64 0, .int .i64 0, .int .i64 0, .int .i64 0, .int .i64 0, .int .i64 0, .int .i64 0, .int .i64 0, .int .i64 0, .int .i64 0] 123)) fun _ => 0 :=
  ⟨hb.alloc hb.size _, hb.size, Blk.new W _ _⟩
theorem own_drewO {B : Nat} {W : World} {v : Value} {l : List Otc} (h : OwnSl 3 elOtc 119 B W v l) : OwnSl 3 elOtc 119 B W.drew v l := h.below elOtc_good (Below.drew (Below.refl _ _))
theorem room2 (f : Nat → Int) {k : Nat} (hk : k ≤ 8) : (allF f k).length + 2 ≤ maxLen ∧ ((allF f k).length + 2) * 24 ≤ 140737488355328 := by rw [allF_len]; simp only [maxLen]; omega
theorem wAt_none0 (d : List Otc) : wAt (d.take 0) = fun _ => 0 := rfl
set_option maxRecDepth 100000 in
set_option maxHeartbeats 4000000 in
theorem m_Shift (d : List Otc) (v : Value) (n : Int) (w : World) (h : Sl 3 elOtc w (· < w.heap.size) v d) : Calls Tryz.prog 38 #[v, .int .i64 n] w (OtcPost w (shiftS d n)) := by
  obtain ⟨z, hz⟩ : ∃ z, z = shiftS d n := ⟨_, rfl⟩
  rw [← hz]
  obtain ⟨A, c, rfl, hc, hc2⟩ := h.shape
  have kch := ch_Check d _ w h
  have hdl : checkD d = 0 → Neat d ∧ Fit (wAt d) ∧ d.length ≤ 64 := fun h0 => ⟨checkD_neat h0, fit_of h0, by have := (checkD_ok h0).len; omega⟩
  have hbad := fun h0 : checkD d ≠ 0 => shift_bad (n := n) h0
  have hfar := fun (h0 : checkD d = 0) => shift_far (n := n) h0
  have hok := fun (h0 : checkD d = 0) => shift_ok (n := n) h0
  obtain ⟨cd, hcd⟩ : ∃ cd, cd = checkD d := ⟨_, rfl⟩
  rw [← hcd] at kch hdl hbad hfar hok
  have H := Lib.hid h
  have HZ := Lib.hid hz
  have KCH := Lib.hid kch
  clear h hz kch hcd
  go_enter Tryz.func38, Tryz.ntmps38
  by_cases h0 : cd = 0
  · obtain ⟨hn, hf, hl⟩ := hdl h0
    by_cases h1 : n < -12 ∨ 12 < n
    · have hz2 := HZ.out
      rw [hfar h0 h1] at hz2
      have HZ2 := Lib.hid hz2
      have e0 : (cd != 0) = false := by simpa using h0
      clear hz2 hbad hfar hok hdl hn hf hl h0
      rcases h1 with h1 | h1
      · have e1 : decide (n < -12) = true := decide_eq_true h1
        go_wp2_with (go_at_call 78; refine KCH.out.mono ?_; rintro e w1 ⟨rfl, hb1⟩; have HB1 := Lib.hid hb1; clear hb1)
        go_ret2
        exact otc_nil HB1.out HZ2.out
      · have e1 : decide (n < -12) = false := decide_eq_false (by omega)
        have e2 : decide (12 < n) = true := decide_eq_true h1
        go_wp2_with (go_at_call 78; refine KCH.out.mono ?_; rintro e w1 ⟨rfl, hb1⟩; have HB1 := Lib.hid hb1; clear hb1)
        go_ret2
        exact otc_nil HB1.out HZ2.out
    · have hz2 := HZ.out
      rw [hok h0 (by omega) (by omega), ← move_two] at hz2
      have HZ2 := Lib.hid hz2
      have e0 : (cd != 0) = false := by simpa using h0
      have e1 : decide (n < -12) = false := decide_eq_false (by omega)
      have e2 : decide (12 < n) = false := decide_eq_false (by omega)
      have n0 : -12 ≤ n := by omega
      have n1 : n ≤ 12 := by omega
      obtain ⟨f0, hf0⟩ : ∃ f0, f0 = wAt d := ⟨_, rfl⟩
      rw [← hf0] at hf
      have HF0 := Lib.hid hf0
      have HF := Lib.hid hf
      have HN := Lib.hid hn
      have HL := Lib.hid hl
      clear hz2 hbad hfar hok hdl hn hf hl h0 h1 hf0 HZ
      go_upto_block 2 with (go_at_call 78; refine KCH.out.mono ?_; rintro e w1 ⟨rfl, hb1⟩; have HB1 := Lib.hid hb1; clear hb1)
      have hwk := wk_new HB1.out
      rw [← wAt_none0 d] at hwk
      generalize w1.alloc _ = W1 at hwk ⊢
      generalize w1.heap.size = g at hwk ⊢
      have HWK := Lib.hid hwk
      clear hwk HB1 KCH
      go_loopw [27] (fun i wr => ∃ k : Nat, k ≤ d.length ∧ i = .int .i64 k ∧ Hid (Wk w g wr (wAt (d.take k)))) (fun i _ => d.length - (intOf i).toNat)
      case atStart => exact ⟨0, Nat.zero_le _, rfl, HWK⟩
      case round =>
        obtain ⟨k, hk, rfl, hwk⟩ := hrel
        by_cases hlt : k < d.length
        · obtain ⟨b, o, rfl, hbl, y0', y1', y2'⟩ := otc_at H.out hlt
          obtain ⟨hup, hze⟩ := take_upd HN.out hlt
          have hea := HN.out.each _ (List.getElem_mem hlt)
          obtain ⟨⟨pr, pw, pt⟩, hp⟩ : ∃ p, p = d[k] := ⟨_, rfl⟩
          rw [← hp] at y0' y1' y2' hup hze hea
          have y0 := (hwk.out.bel.cell (p := ⟨b, o + k * 3, none⟩) hbl).trans y0'
          have y1 := (hwk.out.bel.cell (p := ⟨b, o + k * 3 + 1, none⟩) hbl).trans y1'
          have y2 := (hwk.out.bel.cell (p := ⟨b, o + k * 3 + 2, none⟩) hbl).trans y2'
          obtain ⟨hr0, hr7, hpt⟩ := hea
          dsimp only at y0 y1 y2 hr0 hr7 hup hze
          obtain ⟨r, rfl⟩ : ∃ r : Nat, pr = (r : Int) := ⟨pr.toNat, by omega⟩
          have hr : r ≤ 7 := by omega
          have hr8 : (r : Int) < 8 := by omega
          have HUP := Lib.hid hup
          have HZE := Lib.hid hze
          have HWR := Lib.hid hwk.out
          clear hup hze hp y0' y1' y2' hwk hpt hr0 hr7
          cases pw with
          | false =>
            have hky : keyO ⟨(r : Int), false, pt⟩ = 2 * r := by unfold keyO; simp
            have hw1 := (HWR.out.alloc (.cells #[.int .i64 r, .bool false, .int .i64 pt] 119)).putP hr (by rw [← hky]; exact HZE.out) (x := pt) (f' := wAt (d.take (k + 1))) (by rw [← hky]; exact HUP.out)
            obtain ⟨p0, pf⟩ := (HWR.out.alloc (.cells #[.int .i64 r, .bool false, .int .i64 pt] 119)).wt.plain r hr
            have HW1 := Lib.hid hw1
            clear hky hw1 HUP HZE
            go_wp2
            go_roundw
            case rel => exact ⟨k + 1, by omega, by go_num, HW1⟩
            case measure => simp [intOf]; omega
          | true =>
            have hky : keyO ⟨(r : Int), true, pt⟩ = 2 * r + 1 := by unfold keyO; simp
            have hw1 := (HWR.out.alloc (.cells #[.int .i64 r, .bool true, .int .i64 pt] 119)).putW hr (by rw [← hky]; exact HZE.out) (x := pt) (f' := wAt (d.take (k + 1))) (by rw [← hky]; exact HUP.out)
            obtain ⟨p0, pf⟩ := (HWR.out.alloc (.cells #[.int .i64 r, .bool true, .int .i64 pt] 119)).wt.wick r hr
            have HW1 := Lib.hid hw1
            clear hky hw1 HUP HZE
            go_wp2
            go_roundw
            case rel => exact ⟨k + 1, by omega, by go_num, HW1⟩
            case measure => simp [intOf]; omega
        · obtain rfl : k = d.length := by omega
          have hw0 := hwk.out
          rw [List.take_of_length_le (Nat.le_refl _), ← HF0.out] at hw0
          have HW0 := Lib.hid hw0
          have hz3 := HZ2.out
          rw [← HF0.out] at hz3
          have KH := Lib.hid fun (k : Nat) (W : World) (h : Wk w g W (hardK f0 k)) (hk : k ≤ 12) => w_harder (hardK f0 k) k g W h.wt (HF.out.hardK k) (by omega)
          obtain ⟨f1, hf1⟩ : ∃ f1, f1 = hardK f0 n.toNat := ⟨_, rfl⟩
          rw [← hf1] at hz3
          have HF1 := Lib.hid hf1
          have HFF := Lib.hid (show Fit f1 from hf1 ▸ HF.out.hardK _)
          have HZ3 := Lib.hid hz3
          clear hwk hw0 hz3 HZ2 HN HF0 hk hlt hf1 HF
          go_upto_block 2 with fail
          go_cut [] (fun wx => Wk w g wx f1)
          case first =>
            go_wp2_with fail
            go_loopw [10] (fun i wr => ∃ k : Nat, (k = 0 ∨ (k : Int) ≤ n) ∧ i = .int .i64 k ∧ Hid (Wk w g wr (hardK f0 k))) (fun i _ => 12 - (intOf i).toNat)
            case atStart => exact ⟨0, .inl rfl, rfl, HW0⟩
            case round =>
              obtain ⟨k, hk, rfl, hwk⟩ := hrel
              have hk12 : k ≤ 12 := by omega
              by_cases hlt : (k : Int) < n
              · have el : decide ((k : Int) < n) = true := decide_eq_true hlt
                have kh := KH.out k _ hwk.out hk12
                by_cases ht : topF (hardK f0 k) 7 = 0
                · have hs : f1 = hardF k (hardK f0 k) := by rw [HF1.out, hard_same ht (by omega), hard_stays ht]
                  rw [show decide (topF (hardK f0 k) 7 ≠ 0) = false from decide_eq_false (by simpa using ht), ← hs] at kh
                  have KHH := Lib.hid kh
                  have HWK := Lib.hid hwk.out
                  clear hwk ht hs kh hk hlt
                  go_wp2_with (go_at_call 79; refine KHH.out.mono ?_; rintro e w2 ⟨rfl, hw2, ho2⟩; have HW2 := Lib.hid (HWK.out.only ho2 hw2); clear hw2 ho2)
                  go_meet
                  exact HW2.out
                · have hs : hardK f0 (k + 1) = hardF k (hardK f0 k) := rfl
                  rw [show decide (topF (hardK f0 k) 7 ≠ 0) = true from decide_eq_true ht, ← hs] at kh
                  have KHH := Lib.hid kh
                  have HWK := Lib.hid hwk.out
                  clear hwk ht hs kh hk
                  go_wp2_with (go_at_call 79; refine KHH.out.mono ?_; rintro e w2 ⟨rfl, hw2, ho2⟩; have HW2 := Lib.hid (HWK.out.only ho2 hw2); clear hw2 ho2)
                  go_roundw
                  case rel => exact ⟨k + 1, .inr (by omega), by go_num, HW2⟩
                  case measure => simp [intOf]; omega
              · have el : decide ((k : Int) < n) = false := decide_eq_false hlt
                have hw1 := hwk.out
                rw [show hardK f0 k = f1 from by rw [HF1.out]; congr 1; omega] at hw1
                have HW1 := Lib.hid hw1
                clear hwk hw1 hk hlt
                go_wp2
                go_meet
                exact HW1.out
          case rest =>
            have HW1 := Lib.hid hcut
            have KE := Lib.hid fun (k : Nat) (W : World) (h : Wk w g W (easyK f1 k)) => w_easier (easyK f1 k) g W h.wt (HFF.out.easyK k)
            have hz4 := HZ3.out
            obtain ⟨f2, hf2⟩ : ∃ f2, f2 = easyK f1 (-n).toNat := ⟨_, rfl⟩
            rw [← hf2] at hz4
            have HF2 := Lib.hid hf2
            have HFI := Lib.hid (show Fit f2 from hf2 ▸ HFF.out.easyK _)
            have HZ4 := Lib.hid hz4
            clear hcut hz4 hf2 HZ3 HFF
            go_upto_block 4 with fail
            go_cut [] (fun wx => Wk w g wx f2)
            case first =>
              go_wp2_with fail
              go_loopw [11] (fun i wr => ∃ k : Nat, (k = 0 ∨ (k : Int) ≤ -n) ∧ i = .int .i64 k ∧ Hid (Wk w g wr (easyK f1 k))) (fun i _ => 12 - (intOf i).toNat)
              case atStart => exact ⟨0, .inl rfl, rfl, HW1⟩
              case round =>
                obtain ⟨k, hk, rfl, hwk⟩ := hrel
                have hk12 : k ≤ 12 := by omega
                by_cases hlt : (k : Int) < -n
                · have el : decide ((k : Int) < -n) = true := decide_eq_true hlt
                  have kh := KE.out k _ hwk.out
                  by_cases ht : 0 < easyK f1 k 1 ∨ 0 < easyK f1 k 0
                  · have hs : easyK f1 (k + 1) = easyF (easyK f1 k) := rfl
                    rw [show decide (0 < easyK f1 k 1 ∨ 0 < easyK f1 k 0) = true from decide_eq_true ht, ← hs] at kh
                    have KHH := Lib.hid kh
                    have HWK := Lib.hid hwk.out
                    clear hwk ht hs kh hk
                    go_wp2_with (go_at_call 80; refine KHH.out.mono ?_; rintro e w2 ⟨rfl, hw2, ho2⟩; have HW2 := Lib.hid (HWK.out.only ho2 hw2); clear hw2 ho2)
                    go_roundw
                    case rel => exact ⟨k + 1, .inr (by omega), by go_num, HW2⟩
                    case measure => simp [intOf]; omega
                  · have hs : f2 = easyF (easyK f1 k) := by rw [HF2.out, easy_same ht (by omega), easy_stays ht]
                    rw [show decide (0 < easyK f1 k 1 ∨ 0 < easyK f1 k 0) = false from decide_eq_false ht, ← hs] at kh
                    have KHH := Lib.hid kh
                    have HWK := Lib.hid hwk.out
                    clear hwk ht hs kh hk hlt
                    go_wp2_with (go_at_call 80; refine KHH.out.mono ?_; rintro e w2 ⟨rfl, hw2, ho2⟩; have HW2 := Lib.hid (HWK.out.only ho2 hw2); clear hw2 ho2)
                    go_meet
                    exact HW2.out
                · have el : decide ((k : Int) < -n) = false := decide_eq_false hlt
                  have hw1 := hwk.out
                  rw [show easyK f1 k = f2 from by rw [HF2.out]; congr 1; omega] at hw1
                  have HW1 := Lib.hid hw1
                  clear hwk hw1 hk hlt
                  go_wp2
                  go_meet
                  exact HW1.out
            case rest =>
              have HW2 := Lib.hid hcut
              clear hcut HF2 KE HF1 KH HW1 HW0
              have hgw : g < wc.heap.size := Blk.lt HW2.out.wt
              have KN := Lib.hid fun (v : Value) (W : World) (h : Sl 3 elOtc W (· < W.heap.size) v (allF f2 8)) => (normS_all HFI.out) ▸ ch_Norm (allF f2 8) v W h
              have tok0 : True := trivial
              go_wp2_with fail
              go_loopw [64, 12] (fun i ov wr => ∃ k : Nat, k ≤ 8 ∧ i = .int .i64 k ∧ Hid (Below wc.heap.size wc wr) ∧ Hid (OwnSl 3 elOtc 119 wc.heap.size wr ov (allF f2 k))) (fun i _ _ => 8 - (intOf i).toNat)
              case atStart => exact ⟨0, by omega, rfl, Lib.hid (Below.refl _ _), Lib.hid (OwnSl.nil _)⟩
              case round =>
                obtain ⟨k, hk, rfl, HB, HO⟩ := hrel
                by_cases hlt : k < 8
                · have hwk := HW2.out.below HB.out
                  obtain ⟨p0, _⟩ := hwk.wt.plain k (by omega)
                  obtain ⟨p1, _⟩ := hwk.wt.wick k (by omega)
                  have hk8 : (k : Int) < 8 := by omega
                  have hsz := HB.out.size
                  have hrm := room2 f2 hk
                  have HRM := Lib.hid hrm
                  obtain ⟨A3, c3, rfl⟩ := own_len HO.out
                  obtain ⟨ob, hob⟩ : ∃ ob : Obj, ob = (.cells #[.int .i64 k, .bool false, .int .i64 (f2 (2 * k)), .int .i64 k, .bool true, .int .i64 (f2 (2 * k + 1))] 119) := ⟨_, rfl⟩
                  have hap : ∀ w6 : World, (wr.alloc ob).drew.grownBy w6 (Value.slice A3 (allF f2 k).length c3).ownBlock → Below wc.heap.size wc w6 := fun w6 hg6 =>
                    below_own (Below.drew (Below.alloc HB.out hsz ob)) (own_drewO (HO.out.alloc elOtc_good ob)) hg6 (Nat.le_refl _) (base1 hsz ob)
                  rw [hob] at hap
                  have HAP := Lib.hid hap
                  clear hap hob
                  clear hwk hrm
                  go_wp2_with fail
                  go_region_law ((refine step_append_two rfl (.tmp 67) (.tmp 80) _ rfl E_otc elOtc_good wc.heap.size (.slice A3 (allF f2 k).length c3) (allF f2 k) rfl (own_drewO (HO.out.alloc elOtc_good _)) ⟨wr.heap.size, 0, none⟩ 2 [.int .i64 k, .bool false, .int .i64 (f2 (2 * k))] [.int .i64 k, .bool true, .int .i64 (f2 (2 * k + 1))] rfl ⟨k, false, f2 (2 * k)⟩ ⟨k, true, f2 (2 * k + 1)⟩ rfl rfl (cells_new _ _ _ _) (oneCells rfl) rfl rfl HRM.out.1 HRM.out.2 (base1 hsz _) ?_); intro v6 w6 hown6 hg6; have HB6 := Lib.hid (HAP.out w6 hg6); have HO6 := Lib.hid hown6; clear hown6 hg6)
                  all_goals
                    go_wp2_with fail
                    go_roundw
                    case rel => exact ⟨k + 1, by omega, by go_num, HB6, HO6⟩
                    case measure => simp [intOf]; omega
                · obtain rfl : k = 8 := by omega
                  have HSL := Lib.hid ((HO.out.sl elOtc_good).keep elOtc_good (G := (· < wr.heap.size)) (Same.refl _ _) fun b h => h.2)
                  have HBE := Lib.hid (HW2.out.below HB.out).bel
                  clear hk hlt HO HB
                  go_wp2_with (clear tok0; go_at_call 81; refine (KN.out _ _ HSL.out).mono ?_; rintro e w7 ⟨v7, rfl, hs7, hb7⟩; have HS7 := Lib.hid hs7; have HB7 := Lib.hid hb7; clear hs7 hb7)
                  go_ret2
                  rw [HZ4.out]
                  exact ⟨v7, rfl, HS7.out.keep elOtc_good (Same.refl _ _) (fun b hx => ⟨Nat.le_trans HBE.out.size hx.1, hx.2⟩), HBE.out.trans (HB7.out.mono HBE.out.size)⟩
  · have hz2 := HZ.out
    rw [hbad h0] at hz2
    have HZ2 := Lib.hid hz2
    have e0 : (cd != 0) = true := by simp [h0]
    clear hz2 hbad hfar hok hdl h0
    go_wp2_with (go_at_call 78; refine KCH.out.mono ?_; rintro e w1 ⟨rfl, hb1⟩; have HB1 := Lib.hid hb1; clear hb1)
    go_ret2
    exact otc_nil HB1.out (by rw [HZ2.out])
end Go.Proofs.YtglkejlimeakbaaGreatDoor

namespace Go.Proofs.YtglkejlimeakbaaGreatDoor
open Go.RowKit

end Go.Proofs.YtglkejlimeakbaaGreatDoor

namespace Go.Proofs.YtglkejlimeakbaaGreatDoor
open Go.RowKit

/-- Whie the reference moves a unit: the box lies in block w.heap.size, the row is younger. -/
structure Mv (w W : World) (ov : Value) (out : List Otc) (r : Int) (wk : Bool) : Prop where
  bel : Below w.heap.size w W
  own : OwnSl 3 elOtc 119 (w.heap.size + 1) W ov out
  xk : Blk W w.heap.size 119 #[.int .i64 r, .bool wk, .int .i64 0]
section
variable {w W W' : World} {ov : Value} {out : List Otc} {r : Int} {wk : Bool} {g n c : Nat}
theorem Mv.below (h : Mv w W ov out r wk) (hb : Below W.heap.size W W') : Mv w W' ov out r wk := ⟨h.bel.trans (hb.mono h.bel.size), h.own.below elOtc_good hb, h.xk.below hb h.xk.lt⟩
theorem Mv.gt (h : Mv w W (.slice (some ⟨g, 0, none⟩) n c) out r wk) : w.heap.size < g := (h.own.block g rfl).1
theorem own_put {B k : Nat} (h : OwnSl 3 elOtc 119 B W (.slice (some ⟨g, 0, none⟩) n c) out) (hk : k < out.length) (x : Int) : OwnSl 3 elOtc 119 B (W.setCell ⟨g, k * 3 + 2, none⟩ (.int .i64 x)) (.slice (some ⟨g, 0, none⟩) n c) (out.set k { out[k] with wt := x }) :=
  OwnG.put h (fun _ _ _ h => h) hk (show 2 < 3 by decide) (.int .i64 x) { out[k] with wt := x } fun c9 w9 h9 => by rw [show c9 = _ from h9]; rfl
theorem Mv.put {k : Nat} (h : Mv w W (.slice (some ⟨g, 0, none⟩) n c) out r wk) (hk : k < out.length) (x : Int) : Mv w (W.setCell ⟨g, k * 3 + 2, none⟩ (.int .i64 x)) (.slice (some ⟨g, 0, none⟩) n c) (out.set k { out[k] with wt := x }) r wk := by
  have hg := h.gt
  exact ⟨h.bel.setCell (by show w.heap.size ≤ g; omega) _, own_put h.own hk x, h.xk.far (by show w.heap.size ≠ g; omega) _⟩
end
def MvPost (w : World) (l : List Otc) (e : Ending) (w' : World) : Prop := ∃ v, e = .returned v ∧ Sl 3 elOtc w' (· < w'.heap.size) v l ∧ Below w.heap.size w w'
theorem Mv.post {w W : World} {ov : Value} {out : List Otc} {B : Nat} (hb : Below w.heap.size w W) (ho : OwnSl 3 elOtc 119 B W ov out) : MvPost w out (.returned ov) W := ⟨ov, rfl, (ho.sl elOtc_good).keep elOtc_good (Same.refl _ _) fun _ h => h.2, hb⟩
end Go.Proofs.YtglkejlimeakbaaGreatDoor

namespace Go.Proofs.YtglkejlimeakbaaGreatDoor
open Go.RowKit

/-- While the reference shifts: the list that lies is fit to be moved in. -/
structure Sf (w W : World) (v : Value) (l : List Otc) (n : Nat) : Prop where
  bel : Below w.heap.size w W
  sl : Sl 3 elOtc W (· < W.heap.size) v l
  uni : Uni l
  sum : sumK (wAt l) 16 0 = 16
  len : l.length ≤ 16 + n
theorem Sf.ok {w W : World} {v : Value} {l : List Otc} {n : Nat} (h : Sf w W v l n) : ∀ o ∈ l, OkN o := h.uni.small h.sum
theorem Sf.below {w W W' : World} {v : Value} {l : List Otc} {n : Nat} (h : Sf w W v l n) (hb : Below W.heap.size W W') : Sf w W' v l n :=
  ⟨h.bel.trans (hb.mono h.bel.size), h.sl.keep elOtc_good (Same.of_below hb) fun _ hx => Nat.lt_of_lt_of_le hx hb.size, h.uni, h.sum, h.len⟩
theorem fit_uni {l : List Otc} (h : Uni l) (hs : sumK (wAt l) 16 0 = 16) : Fit (wAt l) := ⟨fun j _ => wAt_nonneg (fun o ho => (h.each o ho).2.2) j, hs⟩
theorem Sf.hard {w W W' : World} {v v' : Value} {l : List Otc} {n : Nat} (h : Sf w W v l n) (k : Nat) (hp : ∃ v, Ending.returned v' = .returned v ∧ Sl 3 elOtc W' (· < W'.heap.size) v (hardL k l) ∧ Below W.heap.size W W') : Sf w W' v' (hardL k l) (n + 1) := by
  obtain ⟨v2, e, hs, hb⟩ := hp
  injection e with e
  subst e
  obtain ⟨h1, h2, h3⟩ := hardL_law h.uni k
  exact ⟨h.bel.trans (hb.mono h.bel.size), hs, h1, by rw [h2]; exact ((fit_uni h.uni h.sum).hard k).sum, by have := h.len; omega⟩
theorem Sf.easy {w W W' : World} {v v' : Value} {l : List Otc} {n : Nat} (h : Sf w W v l n) (hp : ∃ v, Ending.returned v' = .returned v ∧ Sl 3 elOtc W' (· < W'.heap.size) v (easyL l) ∧ Below W.heap.size W W') : Sf w W' v' (easyL l) (n + 1) := by
  obtain ⟨v2, e, hs, hb⟩ := hp
  injection e with e
  subst e
  obtain ⟨h1, h2, h3⟩ := easyL_law h.uni
  exact ⟨h.bel.trans (hb.mono h.bel.size), hs, h1, by rw [h2]; exact (fit_uni h.uni h.sum).easy.sum, by have := h.len; omega⟩
theorem Sf.more {w W : World} {v : Value} {l : List Otc} {n m : Nat} (h : Sf w W v l n) (hm : n ≤ m) : Sf w W v l m := ⟨h.bel, h.sl, h.uni, h.sum, by have := h.len; omega⟩
end Go.Proofs.YtglkejlimeakbaaGreatDoor

namespace Go.Proofs.YtglkejlimeakbaaGreatDoor
open Go.RowKit

theorem sl_on3 {w W : World} {v : Value} {l : List Otc} (h : Sl 3 elOtc w (· < w.heap.size) v l) (hb : Below w.heap.size w W) : Sl 3 elOtc W (· < W.heap.size) v l := h.keep elOtc_good (Same.of_below hb) fun b hx => Nat.lt_of_lt_of_le hx hb.size
theorem itoa_dig3 (n : Nat) (h : n < 10) : Lib.itoa (n : Int) = [UInt8.ofNat (48 + n)] := by
  unfold Lib.itoa
  rw [if_neg (by omega), Int.toNat_natCast, Lib.decDigits, dif_pos h]
theorem otcW_dig3 (r t : Nat) (b : Bool) (hr : r < 10) (ht : t < 10) : otcW ⟨(r : Int), b, (t : Int)⟩ = UInt8.ofNat (48 + r) :: ((if b = true then [87] else []) ++ [58, UInt8.ofNat (48 + t)]) := by
  unfold otcW
  simp only
  rw [itoa_dig3 r hr, itoa_dig3 t ht]
  simp
theorem dec_two (n : Nat) (h : 10 ≤ n) (h2 : n < 100) : Lib.itoa (n : Int) = [UInt8.ofNat (48 + n / 10), UInt8.ofNat (48 + n % 10)] := by
  unfold Lib.itoa
  rw [if_neg (by omega), Int.toNat_natCast, Lib.decDigits, dif_neg (by omega), Lib.decDigits, dif_pos (by omega)]
  rfl
theorem otcW_dig2 (r t : Nat) (b : Bool) (hr : r < 10) (h : 10 ≤ t) (ht : t < 100) : otcW ⟨(r : Int), b, (t : Int)⟩ = UInt8.ofNat (48 + r) :: ((if b = true then [87] else []) ++ [58, UInt8.ofNat (48 + t / 10), UInt8.ofNat (48 + t % 10)]) := by
  unfold otcW
  simp only
  rw [itoa_dig3 r hr, dec_two t h ht]
  simp
def exmM1 : List UInt8 := [48, 58, 56, 32, 49, 58, 52, 32, 52, 58, 52]
def exmM1d : List Otc := [⟨0, false, 8⟩, ⟨1, false, 4⟩, ⟨4, false, 4⟩]
theorem exmM1_text : textC exmM1d = (exmM1, 0) := by
  have h0 : checkD exmM1d = 0 := by kernel_rfl
  have e0 := otcW_dig3 0 8 false (by omega) (by omega)
  have e1 := otcW_dig3 1 4 false (by omega) (by omega)
  have e2 := otcW_dig3 4 4 false (by omega) (by omega)
  unfold textC
  rw [if_neg (fun k => k h0)]
  show (Lib.join [otcW ⟨((0 : Nat) : Int), false, ((8 : Nat) : Int)⟩, otcW ⟨((1 : Nat) : Int), false, ((4 : Nat) : Int)⟩, otcW ⟨((4 : Nat) : Int), false, ((4 : Nat) : Int)⟩] [32], (0 : Int)) = _
  rw [e0, e1, e2]
  kernel_rfl
def exmM2 : List UInt8 := [48, 58, 49, 53, 32, 49, 58, 49]
def exmM2d : List Otc := [⟨0, false, 15⟩, ⟨1, false, 1⟩]
theorem exmM2_text : textC exmM2d = (exmM2, 0) := by
  have h0 : checkD exmM2d = 0 := by kernel_rfl
  have e0 := otcW_dig2 0 15 false (by omega) (by omega) (by omega)
  have e1 := otcW_dig3 1 1 false (by omega) (by omega)
  unfold textC
  rw [if_neg (fun k => k h0)]
  show (Lib.join [otcW ⟨((0 : Nat) : Int), false, ((15 : Nat) : Int)⟩, otcW ⟨((1 : Nat) : Int), false, ((1 : Nat) : Int)⟩] [32], (0 : Int)) = _
  rw [e0, e1]
  kernel_rfl
def exmA : List UInt8 := [48, 58, 49, 48, 32, 48, 87, 58, 49, 32, 49, 58, 52, 32, 52, 58, 49]
def exmAd : List Otc := [⟨0, false, 10⟩, ⟨0, true, 1⟩, ⟨1, false, 4⟩, ⟨4, false, 1⟩]
theorem exmA_text : textC exmAd = (exmA, 0) := by
  have h0 : checkD exmAd = 0 := by kernel_rfl
  have e0 := otcW_dig2 0 10 false (by omega) (by omega) (by omega)
  have e1 := otcW_dig3 0 1 true (by omega) (by omega)
  have e2 := otcW_dig3 1 4 false (by omega) (by omega)
  have e3 := otcW_dig3 4 1 false (by omega) (by omega)
  unfold textC
  rw [if_neg (fun k => k h0)]
  show (Lib.join [otcW ⟨((0 : Nat) : Int), false, ((10 : Nat) : Int)⟩, otcW ⟨((0 : Nat) : Int), true, ((1 : Nat) : Int)⟩, otcW ⟨((1 : Nat) : Int), false, ((4 : Nat) : Int)⟩, otcW ⟨((4 : Nat) : Int), false, ((1 : Nat) : Int)⟩] [32], (0 : Int)) = _
  rw [e0, e1, e2, e3]
  kernel_rfl
def exmB : List UInt8 := [48, 58, 55, 32, 49, 58, 53, 32, 52, 58, 52]
def exmBd : List Otc := [⟨0, false, 7⟩, ⟨1, false, 5⟩, ⟨4, false, 4⟩]
theorem exmB_text : textC exmBd = (exmB, 0) := by
  have h0 : checkD exmBd = 0 := by kernel_rfl
  have e0 := otcW_dig3 0 7 false (by omega) (by omega)
  have e1 := otcW_dig3 1 5 false (by omega) (by omega)
  have e2 := otcW_dig3 4 4 false (by omega) (by omega)
  unfold textC
  rw [if_neg (fun k => k h0)]
  show (Lib.join [otcW ⟨((0 : Nat) : Int), false, ((7 : Nat) : Int)⟩, otcW ⟨((1 : Nat) : Int), false, ((5 : Nat) : Int)⟩, otcW ⟨((4 : Nat) : Int), false, ((4 : Nat) : Int)⟩] [32], (0 : Int)) = _
  rw [e0, e1, e2]
  kernel_rfl
def exmC : List UInt8 := [48, 58, 49, 54]
def exmCd : List Otc := [⟨0, false, 16⟩]
theorem exmC_text : textC exmCd = (exmC, 0) := by
  have h0 : checkD exmCd = 0 := by kernel_rfl
  have e0 := otcW_dig2 0 16 false (by omega) (by omega) (by omega)
  unfold textC
  rw [if_neg (fun k => k h0)]
  show (Lib.join [otcW ⟨((0 : Nat) : Int), false, ((16 : Nat) : Int)⟩] [32], (0 : Int)) = _
  rw [e0]
  kernel_rfl
theorem exmM1_parse : parseC exmM1 = (exmM1d, 0) := by
  have h1 : (pieces 32 exmM1).all pieceOk = true := by kernel_rfl
  have h2 : (pieces 32 exmM1).map pieceO = exmM1d := by kernel_rfl
  unfold parseC
  rw [h1, if_neg (by simp), h2, exmM1_text, if_neg (by simp)]
theorem exmM2_parse : parseC exmM2 = (exmM2d, 0) := by
  have h1 : (pieces 32 exmM2).all pieceOk = true := by kernel_rfl
  have h2 : (pieces 32 exmM2).map pieceO = exmM2d := by kernel_rfl
  unfold parseC
  rw [h1, if_neg (by simp), h2, exmM2_text, if_neg (by simp)]
theorem exm_A : shiftS exmM1d 3 = (exmAd, 0) := by kernel_rfl
theorem exm_B : shiftS exmM1d (-1) = (exmBd, 0) := by kernel_rfl
theorem exm_C : shiftS exmM2d 5 = (exmCd, 0) := by kernel_rfl
set_option maxRecDepth 100000 in
set_option maxHeartbeats 1000000 in
theorem law43_equal (l : List Otc) (v v' : Value) (F F' : Nat → Prop) (w : World) (h : Sl 3 elOtc w F v l) (h' : Sl 3 elOtc w F' v' l) :
    Calls Tryz.prog 44 #[v, v'] w fun e w' => e = .returned (.bool true) ∧ Below w.heap.size w w' := by
  obtain ⟨A, c, rfl, hc, hc2⟩ := h.shape
  obtain ⟨A', c', rfl, hc', hc2'⟩ := h'.shape
  have H := Lib.hid h
  have H' := Lib.hid h'
  clear h h'
  go_enter Tryz.func44, Tryz.ntmps44
  go_wp2
  go_loopw [13] (fun i wr => ∃ k : Nat, k ≤ l.length ∧ i = .int .i64 k ∧ ∃ n, wr = w.drewN n) (fun i _ => l.length - (intOf i).toNat)
  case atStart => exact ⟨0, Nat.zero_le _, rfl, 0, rfl⟩
  case round =>
    obtain ⟨k, hk, rfl, n, rfl⟩ := hrel
    by_cases hlt : k < l.length
    · obtain ⟨b, o, rfl, hbl, y0, y1, y2⟩ := otc_at H.out hlt
      obtain ⟨b', o', rfl, hbl', z0, z1, z2⟩ := otc_at H'.out hlt
      obtain ⟨⟨pr, pw, pt⟩, hp⟩ : ∃ p, p = l[k] := ⟨_, rfl⟩
      rw [← hp] at y0 y1 y2 z0 z1 z2
      dsimp only at y0 y1 y2 z0 z1 z2
      clear hp
      go_wp2
      go_quiet (fail)
      go_wp2
      go_roundw
      case rel => exact ⟨k + 1, by omega, by go_num, _, rfl⟩
      case measure => simp [intOf]; omega
    · obtain rfl : k = l.length := by omega
      go_wp2
      go_ret
      exact ⟨rfl, Below.drewN_ (Below.refl _ _) _⟩
set_option maxRecDepth 100000 in
set_option maxHeartbeats 2000000 in
theorem law43_awake (w : World) (hg : GlobN w) : Calls Tryz.prog 11 #[] w fun e w' => e = .returned (.bool true) ∧ Below w.heap.size w w' := by
  have k1 : ∀ W, Below w.heap.size w W → Calls Tryz.prog 37 #[.string ⟨#[48, 58, 56, 32, 49, 58, 52, 32, 52, 58, 52]⟩] W fun e W' => ∃ A c, e = .returned (.tuple #[.slice A 3 c, .int .i64 0]) ∧ Sl 3 elOtc W' (· < W'.heap.size) (.slice A 3 c) exmM1d ∧ Below W.heap.size W W' := fun W hW => by
    refine (ch_Parse (S exmM1) W (hg.below hW) (by decide)).mono ?_
    rintro e W' ⟨v, rfl, hs, hb⟩
    rw [S_data, exmM1_parse] at hs ⊢
    obtain ⟨A, c, rfl, _⟩ := hs.shape
    exact ⟨A, c, rfl, hs.keep elOtc_good (Same.refl _ _) fun _ h => h.2, hb⟩
  have k2 : ∀ W A c, Sl 3 elOtc W (· < W.heap.size) (.slice A 3 c) exmM1d → Calls Tryz.prog 38 #[.slice A 3 c, .int .i64 (3)] W fun e W' => ∃ A c, e = .returned (.tuple #[.slice A 4 c, .int .i64 0]) ∧ Sl 3 elOtc W' (· < W'.heap.size) (.slice A 4 c) exmAd ∧ Below W.heap.size W W' := fun W A c h => by
    refine (m_Shift exmM1d _ (3) W h).mono ?_
    rintro e W' ⟨v, rfl, hs, hb⟩
    rw [exm_A] at hs ⊢
    obtain ⟨A, c, rfl, _⟩ := hs.shape
    exact ⟨A, c, rfl, hs.keep elOtc_good (Same.refl _ _) fun _ h => h.2, hb⟩
  have k3 : ∀ W A c, Sl 3 elOtc W (· < W.heap.size) (.slice A 3 c) exmM1d → Calls Tryz.prog 38 #[.slice A 3 c, .int .i64 (-1)] W fun e W' => ∃ A c, e = .returned (.tuple #[.slice A 3 c, .int .i64 0]) ∧ Sl 3 elOtc W' (· < W'.heap.size) (.slice A 3 c) exmBd ∧ Below W.heap.size W W' := fun W A c h => by
    refine (m_Shift exmM1d _ (-1) W h).mono ?_
    rintro e W' ⟨v, rfl, hs, hb⟩
    rw [exm_B] at hs ⊢
    obtain ⟨A, c, rfl, _⟩ := hs.shape
    exact ⟨A, c, rfl, hs.keep elOtc_good (Same.refl _ _) fun _ h => h.2, hb⟩
  have k4 : ∀ W, Below w.heap.size w W → Calls Tryz.prog 37 #[.string ⟨#[48, 58, 49, 53, 32, 49, 58, 49]⟩] W fun e W' => ∃ A c, e = .returned (.tuple #[.slice A 2 c, .int .i64 0]) ∧ Sl 3 elOtc W' (· < W'.heap.size) (.slice A 2 c) exmM2d ∧ Below W.heap.size W W' := fun W hW => by
    refine (ch_Parse (S exmM2) W (hg.below hW) (by decide)).mono ?_
    rintro e W' ⟨v, rfl, hs, hb⟩
    rw [S_data, exmM2_parse] at hs ⊢
    obtain ⟨A, c, rfl, _⟩ := hs.shape
    exact ⟨A, c, rfl, hs.keep elOtc_good (Same.refl _ _) fun _ h => h.2, hb⟩
  have k5 : ∀ W A c, Sl 3 elOtc W (· < W.heap.size) (.slice A 2 c) exmM2d → Calls Tryz.prog 38 #[.slice A 2 c, .int .i64 (5)] W fun e W' => ∃ A c, e = .returned (.tuple #[.slice A 1 c, .int .i64 0]) ∧ Sl 3 elOtc W' (· < W'.heap.size) (.slice A 1 c) exmCd ∧ Below W.heap.size W W' := fun W A c h => by
    refine (m_Shift exmM2d _ (5) W h).mono ?_
    rintro e W' ⟨v, rfl, hs, hb⟩
    rw [exm_C] at hs ⊢
    obtain ⟨A, c, rfl, _⟩ := hs.shape
    exact ⟨A, c, rfl, hs.keep elOtc_good (Same.refl _ _) fun _ h => h.2, hb⟩
  have k6 : ∀ W A c, Below w.heap.size w W → Sl 3 elOtc W (· < W.heap.size) (.slice A 4 c) exmAd → Calls Tryz.prog 39 #[.slice A 4 c] W fun e W' => e = .returned (.tuple #[.string ⟨#[48, 58, 49, 48, 32, 48, 87, 58, 49, 32, 49, 58, 52, 32, 52, 58, 49]⟩, .int .i64 0]) ∧ Below W.heap.size W W' := fun W A c hW h => by
    refine (ch_Text exmAd _ W (hg.below hW) h).mono ?_
    rintro e W' ⟨rfl, hb⟩
    rw [exmA_text]
    exact ⟨rfl, hb⟩
  have k7 : ∀ W A c, Below w.heap.size w W → Sl 3 elOtc W (· < W.heap.size) (.slice A 3 c) exmBd → Calls Tryz.prog 39 #[.slice A 3 c] W fun e W' => e = .returned (.tuple #[.string ⟨#[48, 58, 55, 32, 49, 58, 53, 32, 52, 58, 52]⟩, .int .i64 0]) ∧ Below W.heap.size W W' := fun W A c hW h => by
    refine (ch_Text exmBd _ W (hg.below hW) h).mono ?_
    rintro e W' ⟨rfl, hb⟩
    rw [exmB_text]
    exact ⟨rfl, hb⟩
  have k8 : ∀ W A c, Below w.heap.size w W → Sl 3 elOtc W (· < W.heap.size) (.slice A 1 c) exmCd → Calls Tryz.prog 39 #[.slice A 1 c] W fun e W' => e = .returned (.tuple #[.string ⟨#[48, 58, 49, 54]⟩, .int .i64 0]) ∧ Below W.heap.size W W' := fun W A c hW h => by
    refine (ch_Text exmCd _ W (hg.below hW) h).mono ?_
    rintro e W' ⟨rfl, hb⟩
    rw [exmC_text]
    exact ⟨rfl, hb⟩
  have K1 := Lib.hid k1
  have K2 := Lib.hid k2
  have K3 := Lib.hid k3
  have K4 := Lib.hid k4
  have K5 := Lib.hid k5
  have K6 := Lib.hid k6
  have K7 := Lib.hid k7
  have K8 := Lib.hid k8
  clear k1 k2 k3 k4 k5 k6 k7 k8 hg
  have tok0 : True := trivial
  have HB0 := Lib.hid (Below.refl w.heap.size w)
  go_enter Tryz.func11, Tryz.ntmps11
  go_wp2_with (first
    | (clear tok0; go_at_call 37; refine (K1.out _ HB0.out).mono ?_; rintro e w1 ⟨A1, c1, rfl, hs, hb⟩; have P1_1 := Lib.hid hs; have HB1 := Lib.hid (HB0.out.trans (hb.mono HB0.out.size)); clear hb hs; have tok1 : True := trivial)
    | (clear tok1; go_at_call 38; refine (K2.out _ _ _ P1_1.out).mono ?_; rintro e w2 ⟨A2, c2, rfl, hs, hb⟩; have P2_2 := Lib.hid hs; have P1_2 := Lib.hid (sl_on3 P1_1.out hb); have HB2 := Lib.hid (HB1.out.trans (hb.mono HB1.out.size)); clear hb hs; have tok2 : True := trivial)
    | (clear tok2; go_at_call 38; refine (K3.out _ _ _ P1_2.out).mono ?_; rintro e w3 ⟨A3, c3, rfl, hs, hb⟩; have P3_3 := Lib.hid hs; have P2_3 := Lib.hid (sl_on3 P2_2.out hb); have HB3 := Lib.hid (HB2.out.trans (hb.mono HB2.out.size)); clear hb hs; have tok3 : True := trivial)
    | (clear tok3; go_at_call 37; refine (K4.out _ HB3.out).mono ?_; rintro e w4 ⟨A4, c4, rfl, hs, hb⟩; have P4_4 := Lib.hid hs; have P2_4 := Lib.hid (sl_on3 P2_3.out hb); have P3_4 := Lib.hid (sl_on3 P3_3.out hb); have HB4 := Lib.hid (HB3.out.trans (hb.mono HB3.out.size)); clear hb hs; have tok4 : True := trivial)
    | (clear tok4; go_at_call 38; refine (K5.out _ _ _ P4_4.out).mono ?_; rintro e w5 ⟨A5, c5, rfl, hs, hb⟩; have P5_5 := Lib.hid hs; have P2_5 := Lib.hid (sl_on3 P2_4.out hb); have P3_5 := Lib.hid (sl_on3 P3_4.out hb); have HB5 := Lib.hid (HB4.out.trans (hb.mono HB4.out.size)); clear hb hs; have tok5 : True := trivial)
    | (clear tok5; go_at_call 39; refine (K6.out _ _ _ HB5.out P2_5.out).mono ?_; rintro e w6 ⟨rfl, hb⟩; have P3_6 := Lib.hid (sl_on3 P3_5.out hb); have P5_6 := Lib.hid (sl_on3 P5_5.out hb); have HB6 := Lib.hid (HB5.out.trans (hb.mono HB5.out.size)); clear hb; have tok6 : True := trivial)
    | (clear tok6; go_at_call 39; refine (K7.out _ _ _ HB6.out P3_6.out).mono ?_; rintro e w7 ⟨rfl, hb⟩; have P5_7 := Lib.hid (sl_on3 P5_6.out hb); have HB7 := Lib.hid (HB6.out.trans (hb.mono HB6.out.size)); clear hb; have tok7 : True := trivial)
    | (clear tok7; go_at_call 39; refine (K8.out _ _ _ HB7.out P5_7.out).mono ?_; rintro e w8 ⟨rfl, hb⟩; have HB8 := Lib.hid (HB7.out.trans (hb.mono HB7.out.size)); clear hb; have tok8 : True := trivial))
  go_ret
  exact ⟨rfl, HB8.out⟩
end Go.Proofs.YtglkejlimeakbaaGreatDoor
