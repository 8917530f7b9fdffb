/- Several texts of this family in one: D27b FD D40 D41 D42 D43 D44. -/
import Derived.Test.YtdlmmbfnmnglaaaGreatDoorGB5
import Derived.Test.YtdlmmbfnmnglaaaGreatDoorGB3
import Derived.Sort.Grow
import Derived.Deep.Draws
import Derived.Test.YtdlmmbfnmnglaaaGreatDoorSortC
import Derived.RangeFuncNested
import Derived.RangeFuncBound
import Derived.RangeFuncCalls
import Derived.RangeFuncLeaves
import Derived.RangeFuncBox
import Derived.Shelf.Abstract
import Derived.Shelf.RegionOpen
import Derived.WalkKit
import Derived.OwnWalkIn
import Derived.TacticsInMore
import Derived.LoopNIn
import Derived.LoopIn
import Derived.Sort.MapsRangeIn
import Derived.Maps.AppendAt
set_option linter.unusedSimpArgs false
set_option linter.unusedVariables false
namespace Go.Proofs.YtdlmmbfnmnglaaaGreatDoor
open Go.RowKit Go.Maps

theorem entC_zero {c : Chs} {lk : Cst → Int × Bool} : ∀ {l : List Cve}, (∀ x ∈ l, valLC c lk x.st = (x.val, true)) → entC c lk l = 0
  | [], _ => rfl
  | x :: l, h => by
    have hx := h x (by simp)
    have h0 : entE c lk x = 0 := by unfold entE; rw [hx, if_neg (by simp), if_neg (by simp)]
    rw [entC, if_neg (by rw [h0]; simp), entC_zero fun y hy => h y (by simp [hy])]
theorem TabIsC.accept {c : Chs} (h0 : (startC c).2 = 0) {l : List Cve} (h : TabIsC c (startC c).1 l) : acceptC c l = 0 := by
  obtain ⟨_, hc, hr⟩ := startC_ok h0
  have hf : FormC c l := fun i hi => ⟨stateC_ok.2 (((h.2 _).1 (List.getElem_mem hi)).1.ok hc hr), fun hp => h.1 (i - 1) i (by omega) hi (by omega)⟩
  rw [acceptC_ent h0 hf (by rw [h.look (ReachC.start c _)])]
  exact entC_zero fun x hx => by
    obtain ⟨h1, h2⟩ := (h.2 x).1 hx
    rw [h.val hc hr h1, h2]
end Go.Proofs.YtdlmmbfnmnglaaaGreatDoor

namespace Go.Proofs.YtdlmmbfnmnglaaaGreatDoor
open Go.RowKit

/-- As Below; and no draw is taken back. -/
structure Beld (B : Nat) (a w : World) : Prop extends Below B a w where
  drawn : a.drawn ≤ w.drawn
theorem Beld.refl (B : Nat) (w : World) : Beld B w w := ⟨Below.refl _ _, Nat.le_refl _⟩
theorem Beld.trans {B : Nat} {a b c : World} (h : Beld B a b) (k : Beld B b c) : Beld B a c := ⟨h.toBelow.trans k.toBelow, Nat.le_trans h.drawn k.drawn⟩
theorem Beld.mono {B B' : Nat} {w w' : World} (h : Beld B w w') (hB : B' ≤ B) : Beld B' w w' := ⟨h.toBelow.mono hB, h.drawn⟩
theorem Beld.drew {B : Nat} {a w : World} (h : Beld B a w) : Beld B a w.drew := ⟨h.toBelow.drew, Nat.le_succ_of_le h.drawn⟩
theorem Beld.alloc {B : Nat} {a w : World} (h : Beld B a w) (hB : B ≤ w.heap.size) (o : Obj) : Beld B a (w.alloc o) := ⟨h.toBelow.alloc hB o, h.drawn⟩
/-- What a call that makes memory alone leaves behind. -/
theorem Beld.grown {w w' : World} (h : Beld w.heap.size w w') : ∃ q os, w' = Sort.grow (w.drewN q) os := by
  refine ⟨w'.drawn - w.drawn, w'.heap.extract w.heap.size w'.heap.size, ?_⟩
  have hd : w.drawn + (w'.drawn - w.drawn) = w'.drawn := by have := h.drawn; omega
  have hh : w.heap ++ w'.heap.extract w.heap.size w'.heap.size = w'.heap := by
    refine Array.ext_getElem? fun k => ?_
    rw [Array.getElem?_append]
    split
    · rename_i hk; exact (h.block k hk).symm
    · rename_i hk
      have hs := h.size
      rw [Array.getElem?_extract]
      split
      · rw [show w.heap.size + (k - w.heap.size) = k by omega]
      · rename_i h2; rw [Array.getElem?_eq_none (by omega)]
  obtain ⟨h1, h2, h3⟩ := (⟨h.os, h.tape, h.output⟩ : _ ∧ _ ∧ _)
  cases w
  cases w'
  simp only [Sort.grow, World.drewN] at *
  subst h1 h2 h3
  rw [hh, hd]
/-- An operation yields a value of its slot's kind and turns nothing that was there. -/
def MeetsD (P : Program) (V : Tab) (o : Oper) (a : Act) (w : World) : Prop :=
  ∀ d, o.dst = some d → ∀ K Q, (∀ v w', Beld w.heap.size w w' → V d w' v → K (a.put o.dst v) w') → o.wp P a w K Q

structure RInD (ops : Array Oper) (V : Tab) (G : World → Prop) (init : List Nat) (a0 : Act) (w0 : World) (listed : Array Bool) (a : Act) (w : World) : Prop where
  size : a.tmps.size = a0.tmps.size
  dfr : a.defers = a0.defers
  g : G w
  below : Beld w0.heap.size w0 w
  ini : ∀ d ∈ init, Holds V a w d
  done : ∀ (i : Nat) (o : Oper) (d : Nat), ops[i]? = some o → listed.getD i false = true → o.dst = some d → Holds V a w d
  keep : ∀ k, (∀ (i : Nat) (o : Oper), ops[i]? = some o → o.dst ≠ some k) → a.tmps[k]? = a0.tmps[k]?

section
variable {P : Program} {ops : Array Oper} {V : Tab} {G : World → Prop} {needs : Nat → List Nat} {init : List Nat} {N : Nat} {Q : Exit → Act → World → Prop} {a0 : Act} {w0 : World}
theorem Holds.putD {a : Act} {w w' : World} {d k : Nat} {v : Value} (hsV : ∀ d w w' v, V d w v → Beld w.heap.size w w' → V d w' v) (h : Holds V a w k) (hb : Beld w.heap.size w w') (hv : V d w' v) : Holds V (a.put (some d) v) w' k := by
  obtain ⟨u, h1, h2⟩ := h
  unfold Holds
  rw [put_get]
  split
  · rename_i hc; obtain ⟨rfl, _⟩ := hc; exact ⟨v, rfl, hv⟩
  · exact ⟨u, h1, hsV _ _ _ _ h2 hb⟩
theorem meets_valueD {o : Oper} {a : Act} {w : World} {v : Value} (hr : (execOp a.eval o).run P w = .ok (.value v) w) (hv : ∀ d, o.dst = some d → V d w v) : MeetsD P V o a w := by
  intro d hd K Q hK
  unfold Oper.wp
  rw [hr]
  exact hK v w (Beld.refl _ _) (hv d hd)
theorem meets_moveD {o : Oper} {a : Act} {w : World} {x : Operand} (ho : o.op = .move x ∨ o.op = .assign x) (hv : ∀ d, o.dst = some d → V d w (a.eval x)) : MeetsD P V o a w := by
  refine meets_valueD (v := a.eval x) ?_ hv
  unfold execOp
  rcases ho with ho | ho <;> simp only [ho, Sem.run_pure]
theorem meets_fieldD {o : Oper} {a : Act} {w : World} {s : TypeId} {x : Operand} {f : Nat} {p q : Addr} (ho : o.op = .fieldAddr s x f) (hx : a.eval x = .pointer (some p))
    (hr : (Instr.fieldAt s (.pointer (some p)) f).run P w = .ok (.pointer (some q)) w) (hv : ∀ d, o.dst = some d → V d w (.pointer (some q))) : MeetsD P V o a w := by
  refine meets_valueD (v := .pointer (some q)) ?_ hv
  unfold execOp
  simp only [ho, hx, Sem.run_bind, hr, Result.andThen_ok, Sem.run_pure]
theorem meets_loadD {o : Oper} {a : Act} {w : World} {t : TypeId} {x : Operand} {p : Addr} {v : Value} (ho : o.op = .load t x) (hx : a.eval x = .pointer (some p))
    (hr : (Instr.loadAt t (.pointer (some p))).run P w = .ok v w) (hv : ∀ d, o.dst = some d → V d w v) : MeetsD P V o a w := by
  refine meets_valueD (v := v) ?_ hv
  unfold execOp
  simp only [ho, hx, Sem.run_bind, hr, Result.andThen_ok, Sem.run_pure]
theorem meets_buildD {o : Oper} {a : Act} {w : World} {t e : TypeId} {len : Nat} {parts : Array (Nat × Operand)} (ho : o.op = .buildSlice t len parts) (cells : Array Value)
    (hr : (Instr.buildSlice t len (parts.map fun (i, x) => (i, a.eval x))).run P w = .ok (.slice (some ⟨w.heap.size, 0, none⟩) len len) (w.alloc (.cells cells e)))
    (hv : ∀ d, o.dst = some d → V d (w.alloc (.cells cells e)) (.slice (some ⟨w.heap.size, 0, none⟩) len len)) : MeetsD P V o a w := by
  intro d hd K Q hK
  unfold Oper.wp execOp
  simp only [ho, Sem.run_bind, hr, Result.andThen_ok, Sem.run_pure]
  exact hK _ _ (Beld.alloc (Beld.refl _ _) (Nat.le_refl _) _) (hv d hd)
theorem meets_callD {o : Oper} {a : Act} {w : World} {c : Call} {g : Operand} {f : FuncId} {fn : Func} {args : Array Value} (ho : o.op = .call c) (hc : c.callee = .value g) (hg : a.eval g = .func (.func f) #[] #[]) (ha : c.args.map a.eval = args)
    (hf : P.funcs[f]? = some fn) (hname : (fn.name == "runtime.NumGoroutine") = false) (hb : fn.body.isSome = true)
    (hk : ∀ d, o.dst = some d → Calls P f args w fun e w' => ∃ v, e = .returned v ∧ Beld w.heap.size w w' ∧ V d w' v) : MeetsD P V o a w := by
  intro d hd K Q hK
  unfold Oper.wp execOp
  obtain ⟨b, hb⟩ := Option.isSome_iff_exists.1 hb
  have hr := enter_run (P := P) hf hname hb args w
  simp only [ho, resolve, hc, hg, ha, Deferred.ofValue, invoke, Sem.run_bind, Sem.run_pure, Result.andThen_ok, Array.append_empty, Array.empty_append, hr]
  refine (hk d hd).mono ?_
  rintro e w' ⟨v, rfl, h1, h2⟩
  exact hK v w' h1 h2
end
structure FreeD (P : Program) (ops : Array Oper) (V : Tab) (G : World → Prop) (needs : Nat → List Nat) (init : List Nat) (N : Nat) : Prop where
  back : ∀ (i : Nat) (o : Oper), ops[i]? = some o → ∀ e ∈ o.after, e.on < i
  dst : ∀ (i : Nat) (o : Oper), ops[i]? = some o → ∃ d, o.dst = some d ∧ d < N
  need : ∀ (i : Nat) (o : Oper), ops[i]? = some o → ∀ d ∈ needs i, d ∈ init ∨ ∃ e ∈ o.after, Region.binds .any e = true ∧ ∃ p, ops[e.on]? = some p ∧ p.dst = some d
  sV : ∀ d w w' v, V d w v → Beld w.heap.size w w' → V d w' v
  sG : ∀ w w', G w → Beld w.heap.size w w' → G w'
  step : ∀ (i : Nat) (o : Oper), ops[i]? = some o → ∀ a w, G w → (∀ x ∈ needs i, Holds V a w x) → (Region.wanted o (yielded ops a.tmps) = true ∧ MeetsD P V o a w) ∨ (Region.wanted o (yielded ops a.tmps) = false ∧ ∀ d, o.dst = some d → V d w undef)
section
variable {P : Program} {ops : Array Oper} {V : Tab} {G : World → Prop} {needs : Nat → List Nat} {init : List Nat} {N : Nat} {Q : Exit → Act → World → Prop} {a0 : Act} {w0 : World}
theorem all_listedD (hback : ∀ (i : Nat) (o : Oper), ops[i]? = some o → ∀ e ∈ o.after, e.on < i) {listed : Array Bool} (hr : Region.ready .any ops listed = []) (hsz : listed.size = ops.size) : ∀ i, i < ops.size → listed.getD i false = true := by
  intro i
  induction i using Nat.strongRecOn with
  | ind i ih =>
    intro hi
    cases hl : listed.getD i false with
    | true => rfl
    | false =>
      exfalso
      have h2 : listed.getD i true = false := by
        have hlt : i < listed.size := by omega
        simp [hlt] at hl ⊢; exact hl
      have ho : ops[i]? = some ops[i] := Array.getElem?_eq_getElem hi
      have : i ∈ Region.ready .any ops listed := mem_ready.2 ⟨h2, _, ho, fun e he _ => ih e.on (hback i _ ho e he) (by have := hback i _ ho e he; omega)⟩
      rw [hr] at this
      cases this
theorem wpAny_freeD (hF : FreeD P ops V G needs init N) (hN : N ≤ a0.tmps.size) (fin : ∀ a w, RInD ops V G init a0 w0 (Array.replicate ops.size true) a w → Q .normal a w) :
    ∀ (fuel : Nat) (listed : Array Bool) (a : Act) (w : World), listed.size = ops.size → listed.toList.count false ≤ fuel → RInD ops V G init a0 w0 listed a w → wpAny P .any ops Q fuel listed a w := by
  have hfin : ∀ (listed : Array Bool) (a : Act) (w : World), listed.size = ops.size → Region.ready .any ops listed = [] → RInD ops V G init a0 w0 listed a w → Q .normal a w := by
    intro listed a w hsz hr h
    refine fin a w ⟨h.size, h.dfr, h.g, h.below, h.ini, fun i o d ho _ hd => h.done i o d ho (all_listedD hF.back hr hsz i (Array.getElem?_eq_some_iff.1 ho).1) hd, h.keep⟩
  intro fuel
  induction fuel with
  | zero =>
    intro listed a w hsz hc h
    have hr : Region.ready .any ops listed = [] := by
      cases hr : Region.ready .any ops listed with
      | nil => rfl
      | cons j t =>
        exfalso
        have hj : j ∈ Region.ready .any ops listed := by rw [hr]; simp
        obtain ⟨h1, o, ho, _⟩ := mem_ready.1 hj
        have hlt : j < listed.size := by have := (Array.getElem?_eq_some_iff.1 ho).1; omega
        have h2 : listed[j]? = some false := by
          rw [Array.getElem?_eq_getElem hlt]; simp [hlt] at h1; rw [h1]
        have : false ∈ listed.toList := Array.mem_toList_iff.2 (Array.mem_of_getElem? h2)
        have := List.count_pos_iff.2 this
        omega
    exact ⟨hr, hfin listed a w hsz hr h⟩
  | succ fuel ih =>
    intro listed a w hsz hc h
    refine ⟨fun hr => hfin listed a w hsz hr h, fun i hi => ?_⟩
    obtain ⟨h1, o, ho, hall⟩ := mem_ready.1 hi
    obtain ⟨d, hd, hdN⟩ := hF.dst i o ho
    have hlt : i < listed.size := by have := (Array.getElem?_eq_some_iff.1 ho).1; omega
    have h2 : listed[i]? = some false := by
      rw [Array.getElem?_eq_getElem hlt]; simp [hlt] at h1; rw [h1]
    have hcnt := count_set listed.toList i (by rw [Array.getElem?_toList]; exact h2)
    have hneeds : ∀ x ∈ needs i, Holds V a w x := fun x hx => by
      rcases hF.need i o ho x hx with hx | ⟨e, he, hbi, p, hp, hpd⟩
      · exact h.ini x hx
      · exact h.done e.on p x hp (hall e he hbi) hpd
    have go : ∀ v w', Beld w.heap.size w w' → V d w' v → wpAny P .any ops Q fuel (listed.setIfInBounds i true) (a.put o.dst v) w' := fun v w' hb hv => by
      rw [hd]
      refine ih _ _ _ (by simpa using hsz) (by rw [Array.toList_setIfInBounds]; omega) ⟨by unfold Act.put; simpa using h.size, h.dfr, hF.sG _ _ h.g hb, h.below.trans (hb.mono h.below.size), fun x hx => (h.ini x hx).putD hF.sV hb hv, fun j p x hj hl hx => ?_, fun k hk => ?_⟩
      · by_cases hji : j = i
        · subst hji
          rw [ho] at hj; obtain rfl := Option.some.inj hj
          have hdx : d = x := Option.some.inj (hd.symm.trans hx)
          subst hdx
          refine ⟨v, ?_, hv⟩
          rw [put_get, if_pos ⟨rfl, by rw [h.size]; exact Nat.lt_of_lt_of_le hdN hN⟩]
        · have hl' : listed.getD j false = true := by rw [getD_set_ne false (Ne.symm hji)] at hl; exact hl
          exact (h.done j p x hj hl' hx).putD hF.sV hb hv
      · rw [put_get, if_neg (fun hc => hk i o ho (by rw [hd, hc.1]))]
        exact h.keep k hk
    unfold wpOp
    rw [ho]
    dsimp only
    rcases hF.step i o ho a w h.g hneeds with ⟨hw, hm⟩ | ⟨hw, hm⟩
    · rw [hw, if_pos rfl]
      exact .inl (hm d hd _ _ go)
    · rw [hw, if_neg (by simp)]
      exact go undef w (Beld.refl _ _) (hm d hd)
theorem wp_region_freeD {ops' : Array Oper} {id : Nat} (he : ops = ops') (hm : P.follows .mixedOrders = true) (hF : FreeD P ops' V G needs init N) (hN : N ≤ a0.tmps.size) (hG : G w0) (hini : ∀ d ∈ init, Holds V a0 w0 d)
    (fin : ∀ a w, RInD ops' V G init a0 w0 (Array.replicate ops'.size true) a w → Q .normal a w) : (Code.region id ops true).wp P Q a0 w0 := by
  subst he
  have hb : Beld w0.heap.size w0 { w0 with drawn := w0.drawn + 1 } := Beld.drew (Beld.refl _ _)
  refine wp_region_any hm (wpAny_freeD hF hN fin _ _ _ _ (by simp) (by simp) ⟨rfl, rfl, hF.sG _ _ hG hb, hb, fun d hd => ?_, fun i o d ho hl => ?_, fun _ _ => rfl⟩)
  · obtain ⟨v, h1, h2⟩ := hini d hd
    exact ⟨v, h1, hF.sV _ _ _ _ h2 hb⟩
  · exfalso
    have hlt := (Array.getElem?_eq_some_iff.1 ho).1
    simp [hlt] at hl
end
theorem RInD.atG {ops : Array Oper} {V : Tab} {G : World → Prop} {init : List Nat} {a0 a : Act} {w0 w : World} (h : RInD ops V G init a0 w0 (Array.replicate ops.size true) a w) (i d : Nat) (hd : (ops[i]?).bind (·.dst) = some d) : Holds V a w d := by
  cases ho : ops[i]? with
  | none => rw [ho] at hd; cases hd
  | some o =>
    rw [ho] at hd
    have hlt := (Array.getElem?_eq_some_iff.1 ho).1
    exact h.done i o d ho (by simp [hlt]) hd
end Go.Proofs.YtdlmmbfnmnglaaaGreatDoor

namespace Go.Proofs.YtdlmmbfnmnglaaaGreatDoor
open Go.RowKit

theorem beld_two (w : World) (o1 o2 : Obj) : Beld w.heap.size w ((w.alloc o1).alloc o2) := ⟨below_two w o1 o2, Nat.le_refl _⟩
set_option maxRecDepth 100000 in
set_option maxHeartbeats 1000000 in
theorem cmp_OrcD (l : List Int) (v : Value) (F : Nat → Prop) (w : World) (h : Sl 1 elInt w F v l) (hF : ∀ b, F b → b < w.heap.size) : Calls Tryz.prog 69 #[v] w fun e w' => e = .returned (.int .i64 (orLc l)) ∧ Beld w.heap.size w w' := by
  obtain ⟨z, hz⟩ : ∃ z, z = orLc l := ⟨_, rfl⟩
  rw [← hz]
  obtain ⟨A, c, rfl, hc, hc2⟩ := h.shape
  have HZ : Hid (z = orLc (l.drop 0)) := hz
  have HL := Lib.hid h
  have HB := Lib.hid (Beld.refl w.heap.size w)
  have HF := Lib.hid hF
  clear hz h hF
  go_enter Tryz.func69, Tryz.ntmps69
  go_wp2
  go_loopw [8] (fun i wr => ∃ k : Nat, k ≤ l.length ∧ i = .int .i64 k ∧ Beld w.heap.size w wr ∧ Hid (z = orLc (l.drop k))) (fun i _ => l.length - (intOf i).toNat)
  case atStart => exact ⟨0, Nat.zero_le _, rfl, HB.out, HZ⟩
  case round =>
    obtain ⟨k, hk, rfl, hb, hzz⟩ := hrel
    have HBB := Lib.hid hb
    by_cases hlt : k < l.length
    · obtain ⟨b0, o, rfl, hbl, yy0⟩ := int_at HL.out hlt
      have y0 := (hb.toBelow.cell (p := ⟨b0, o + k, none⟩) (HF.out _ hbl)).trans yy0
      have hz2 := hzz.out
      rw [drop_get hlt, orLc] at hz2
      obtain ⟨p, hp⟩ : ∃ p, p = l[k] := ⟨_, rfl⟩
      rw [← hp] at hz2 y0
      clear hb hzz hp yy0
      by_cases hin : p = 0
      · rw [if_pos hin] at hz2
        have e1 : (p != 0) = false := by simp [hin]
        have HZZ := Lib.hid hz2
        clear hz2 hin
        go_wp2
        go_roundw
        case rel => exact ⟨k + 1, by omega, by go_num, HBB.out, HZZ⟩
        case measure => simp [intOf]; omega
      · rw [if_neg hin] at hz2
        have e1 : (p != 0) = true := by simp [hin]
        have HZZ := Lib.hid hz2
        clear hz2 hin
        go_wp2
        go_ret
        exact ⟨ret_i HZZ.out.symm, HBB.out⟩
    · obtain rfl : k = l.length := by omega
      have hz2 := hzz.out
      rw [List.drop_of_length_le (Nat.le_refl _), orLc] at hz2
      have HZZ := Lib.hid hz2
      clear hb hzz hz2
      go_wp2
      go_ret
      exact ⟨ret_i HZZ.out.symm, HBB.out⟩
set_option maxRecDepth 100000 in
set_option maxHeartbeats 2000000 in
theorem cc_freeD (s t : Cst) (w : World) :
    FreeD Tryz.prog ccOps (ccV s t w.heap.size) (fun W => Beld w.heap.size w W ∧ Blk W w.heap.size 30 #[.int .i64 s.ball, .int .i64 s.need, .int .i64 s.str, .int .i64 s.par, .int .i64 s.nxt] ∧ Blk W (w.heap.size + 1) 30 #[.int .i64 t.ball, .int .i64 t.need, .int .i64 t.str, .int .i64 t.par, .int .i64 t.nxt]) (fun i => ccNeeds.getD i []) [2, 3] 32 := by
  refine ⟨backG_of (by kernel_rfl), dstG_of (by kernel_rfl), needG_of (by kernel_rfl), fun d w1 w2 v h hb => ?_, fun W W' h hb => ⟨h.1.trans (hb.mono h.1.size), h.2.1.below hb.toBelow h.2.1.lt, h.2.2.below hb.toBelow h.2.2.lt⟩, ?_⟩
  · unfold ccV at h ⊢
    by_cases hd : d = 30
    · rw [if_pos hd] at h ⊢
      exact h.keep elInt_good (Same.of_below hb.toBelow) fun b hb2 => Nat.lt_of_lt_of_le hb2 hb.size
    · rw [if_neg hd] at h ⊢
      exact h
  intro i o ho a W hG hn
  have hlt : i < 28 := by rw [← cc_size]; exact (Array.getElem?_eq_some_iff.1 ho).1
  have hcase : i = 0 ∨ i = 1 ∨ i = 2 ∨ i = 3 ∨ i = 4 ∨ i = 5 ∨ i = 6 ∨ i = 7 ∨ i = 8 ∨ i = 9 ∨ i = 10 ∨ i = 11 ∨ i = 12 ∨ i = 13 ∨ i = 14 ∨ i = 15 ∨ i = 16 ∨ i = 17 ∨ i = 18 ∨ i = 19 ∨ i = 20 ∨ i = 21 ∨ i = 22 ∨ i = 23 ∨ i = 24 ∨ i = 25 ∨ i = 26 ∨ i = 27 := by omega
  rcases hcase with rfl | rfl | rfl | rfl | rfl | rfl | rfl | rfl | rfl | rfl | rfl | rfl | rfl | rfl | rfl | rfl | rfl | rfl | rfl | rfl | rfl | rfl | rfl | rfl | rfl | rfl | rfl | rfl
  · obtain ⟨h1, h2⟩ := opG_of (x := .fieldAddr 30 (.tmp 2) 0) (d := some 5) (by kernel_rfl) ho
    refine .inl ⟨free_not (guardG_of (by kernel_rfl) ho), ?_⟩
    exact meets_fieldD h1 (cc_val 2 (.pointer (some ⟨w.heap.size, 0, none⟩)) hn (of_decide_eq_true (by kernel_rfl)) (by decide) rfl) (by kernel_rfl : (Instr.fieldAt 30 (.pointer (some ⟨w.heap.size, 0, none⟩)) 0).run Tryz.prog W = .ok (.pointer (some ⟨w.heap.size, 0, none⟩)) W) (cc_put h2 (by decide) rfl)
  · obtain ⟨h1, h2⟩ := opG_of (x := .load 3 (.tmp 5)) (d := some 6) (by kernel_rfl) ho
    refine .inl ⟨free_not (guardG_of (by kernel_rfl) ho), ?_⟩
    exact meets_loadD h1 (cc_val 5 (.pointer (some ⟨w.heap.size, 0, none⟩)) hn (of_decide_eq_true (by kernel_rfl)) (by decide) rfl) (loadAt_cell (by kernel_rfl) ((hG.2.1.cell 0).trans rfl)) (cc_put h2 (by decide) rfl)
  · obtain ⟨h1, h2⟩ := opG_of (x := .fieldAddr 30 (.tmp 3) 0) (d := some 7) (by kernel_rfl) ho
    refine .inl ⟨free_not (guardG_of (by kernel_rfl) ho), ?_⟩
    exact meets_fieldD h1 (cc_val 3 (.pointer (some ⟨w.heap.size + 1, 0, none⟩)) hn (of_decide_eq_true (by kernel_rfl)) (by decide) rfl) (by kernel_rfl : (Instr.fieldAt 30 (.pointer (some ⟨w.heap.size + 1, 0, none⟩)) 0).run Tryz.prog W = .ok (.pointer (some ⟨w.heap.size + 1, 0, none⟩)) W) (cc_put h2 (by decide) rfl)
  · obtain ⟨h1, h2⟩ := opG_of (x := .load 3 (.tmp 7)) (d := some 8) (by kernel_rfl) ho
    refine .inl ⟨free_not (guardG_of (by kernel_rfl) ho), ?_⟩
    exact meets_loadD h1 (cc_val 7 (.pointer (some ⟨w.heap.size + 1, 0, none⟩)) hn (of_decide_eq_true (by kernel_rfl)) (by decide) rfl) (loadAt_cell (by kernel_rfl) ((hG.2.2.cell 0).trans rfl)) (cc_put h2 (by decide) rfl)
  · obtain ⟨h1, h2⟩ := opG_of (x := .call { callee := .value (.func 70), args := #[.tmp 6, .tmp 8], argTypes := #[3, 3] }) (d := some 9) (by kernel_rfl) ho
    refine .inl ⟨free_not (guardG_of (by kernel_rfl) ho), ?_⟩
    refine meets_callD (args := #[.int .i64 s.ball, .int .i64 t.ball]) h1 rfl rfl (by have e1 := (cc_val 6 (.int .i64 s.ball) hn (of_decide_eq_true (by kernel_rfl)) (by decide) rfl); have e2 := (cc_val 8 (.int .i64 t.ball) hn (of_decide_eq_true (by kernel_rfl)) (by decide) rfl); simp [e1, e2]) Tryz.func70 (by kernel_rfl) (by kernel_rfl) fun d hd => ?_
    refine (cmp_intE _ _ W).mono ?_
    rintro e W' ⟨rfl, rfl⟩
    exact ⟨_, rfl, Beld.refl _ _, cc_put h2 (by decide) rfl d hd⟩
  · obtain ⟨h1, h2⟩ := opG_of (x := .fieldAddr 30 (.tmp 2) 1) (d := some 10) (by kernel_rfl) ho
    refine .inl ⟨free_not (guardG_of (by kernel_rfl) ho), ?_⟩
    exact meets_fieldD h1 (cc_val 2 (.pointer (some ⟨w.heap.size, 0, none⟩)) hn (of_decide_eq_true (by kernel_rfl)) (by decide) rfl) (by kernel_rfl : (Instr.fieldAt 30 (.pointer (some ⟨w.heap.size, 0, none⟩)) 1).run Tryz.prog W = .ok (.pointer (some ⟨w.heap.size, 1, none⟩)) W) (cc_put h2 (by decide) rfl)
  · obtain ⟨h1, h2⟩ := opG_of (x := .load 3 (.tmp 10)) (d := some 11) (by kernel_rfl) ho
    refine .inl ⟨free_not (guardG_of (by kernel_rfl) ho), ?_⟩
    exact meets_loadD h1 (cc_val 10 (.pointer (some ⟨w.heap.size, 1, none⟩)) hn (of_decide_eq_true (by kernel_rfl)) (by decide) rfl) (loadAt_cell (by kernel_rfl) ((hG.2.1.cell 1).trans rfl)) (cc_put h2 (by decide) rfl)
  · obtain ⟨h1, h2⟩ := opG_of (x := .fieldAddr 30 (.tmp 3) 1) (d := some 12) (by kernel_rfl) ho
    refine .inl ⟨free_not (guardG_of (by kernel_rfl) ho), ?_⟩
    exact meets_fieldD h1 (cc_val 3 (.pointer (some ⟨w.heap.size + 1, 0, none⟩)) hn (of_decide_eq_true (by kernel_rfl)) (by decide) rfl) (by kernel_rfl : (Instr.fieldAt 30 (.pointer (some ⟨w.heap.size + 1, 0, none⟩)) 1).run Tryz.prog W = .ok (.pointer (some ⟨w.heap.size + 1, 1, none⟩)) W) (cc_put h2 (by decide) rfl)
  · obtain ⟨h1, h2⟩ := opG_of (x := .load 3 (.tmp 12)) (d := some 13) (by kernel_rfl) ho
    refine .inl ⟨free_not (guardG_of (by kernel_rfl) ho), ?_⟩
    exact meets_loadD h1 (cc_val 12 (.pointer (some ⟨w.heap.size + 1, 1, none⟩)) hn (of_decide_eq_true (by kernel_rfl)) (by decide) rfl) (loadAt_cell (by kernel_rfl) ((hG.2.2.cell 1).trans rfl)) (cc_put h2 (by decide) rfl)
  · obtain ⟨h1, h2⟩ := opG_of (x := .call { callee := .value (.func 70), args := #[.tmp 11, .tmp 13], argTypes := #[3, 3] }) (d := some 14) (by kernel_rfl) ho
    refine .inl ⟨free_not (guardG_of (by kernel_rfl) ho), ?_⟩
    refine meets_callD (args := #[.int .i64 s.need, .int .i64 t.need]) h1 rfl rfl (by have e1 := (cc_val 11 (.int .i64 s.need) hn (of_decide_eq_true (by kernel_rfl)) (by decide) rfl); have e2 := (cc_val 13 (.int .i64 t.need) hn (of_decide_eq_true (by kernel_rfl)) (by decide) rfl); simp [e1, e2]) Tryz.func70 (by kernel_rfl) (by kernel_rfl) fun d hd => ?_
    refine (cmp_intE _ _ W).mono ?_
    rintro e W' ⟨rfl, rfl⟩
    exact ⟨_, rfl, Beld.refl _ _, cc_put h2 (by decide) rfl d hd⟩
  · obtain ⟨h1, h2⟩ := opG_of (x := .fieldAddr 30 (.tmp 2) 2) (d := some 15) (by kernel_rfl) ho
    refine .inl ⟨free_not (guardG_of (by kernel_rfl) ho), ?_⟩
    exact meets_fieldD h1 (cc_val 2 (.pointer (some ⟨w.heap.size, 0, none⟩)) hn (of_decide_eq_true (by kernel_rfl)) (by decide) rfl) (by kernel_rfl : (Instr.fieldAt 30 (.pointer (some ⟨w.heap.size, 0, none⟩)) 2).run Tryz.prog W = .ok (.pointer (some ⟨w.heap.size, 2, none⟩)) W) (cc_put h2 (by decide) rfl)
  · obtain ⟨h1, h2⟩ := opG_of (x := .load 3 (.tmp 15)) (d := some 16) (by kernel_rfl) ho
    refine .inl ⟨free_not (guardG_of (by kernel_rfl) ho), ?_⟩
    exact meets_loadD h1 (cc_val 15 (.pointer (some ⟨w.heap.size, 2, none⟩)) hn (of_decide_eq_true (by kernel_rfl)) (by decide) rfl) (loadAt_cell (by kernel_rfl) ((hG.2.1.cell 2).trans rfl)) (cc_put h2 (by decide) rfl)
  · obtain ⟨h1, h2⟩ := opG_of (x := .fieldAddr 30 (.tmp 3) 2) (d := some 17) (by kernel_rfl) ho
    refine .inl ⟨free_not (guardG_of (by kernel_rfl) ho), ?_⟩
    exact meets_fieldD h1 (cc_val 3 (.pointer (some ⟨w.heap.size + 1, 0, none⟩)) hn (of_decide_eq_true (by kernel_rfl)) (by decide) rfl) (by kernel_rfl : (Instr.fieldAt 30 (.pointer (some ⟨w.heap.size + 1, 0, none⟩)) 2).run Tryz.prog W = .ok (.pointer (some ⟨w.heap.size + 1, 2, none⟩)) W) (cc_put h2 (by decide) rfl)
  · obtain ⟨h1, h2⟩ := opG_of (x := .load 3 (.tmp 17)) (d := some 18) (by kernel_rfl) ho
    refine .inl ⟨free_not (guardG_of (by kernel_rfl) ho), ?_⟩
    exact meets_loadD h1 (cc_val 17 (.pointer (some ⟨w.heap.size + 1, 2, none⟩)) hn (of_decide_eq_true (by kernel_rfl)) (by decide) rfl) (loadAt_cell (by kernel_rfl) ((hG.2.2.cell 2).trans rfl)) (cc_put h2 (by decide) rfl)
  · obtain ⟨h1, h2⟩ := opG_of (x := .call { callee := .value (.func 70), args := #[.tmp 16, .tmp 18], argTypes := #[3, 3] }) (d := some 19) (by kernel_rfl) ho
    refine .inl ⟨free_not (guardG_of (by kernel_rfl) ho), ?_⟩
    refine meets_callD (args := #[.int .i64 s.str, .int .i64 t.str]) h1 rfl rfl (by have e1 := (cc_val 16 (.int .i64 s.str) hn (of_decide_eq_true (by kernel_rfl)) (by decide) rfl); have e2 := (cc_val 18 (.int .i64 t.str) hn (of_decide_eq_true (by kernel_rfl)) (by decide) rfl); simp [e1, e2]) Tryz.func70 (by kernel_rfl) (by kernel_rfl) fun d hd => ?_
    refine (cmp_intE _ _ W).mono ?_
    rintro e W' ⟨rfl, rfl⟩
    exact ⟨_, rfl, Beld.refl _ _, cc_put h2 (by decide) rfl d hd⟩
  · obtain ⟨h1, h2⟩ := opG_of (x := .fieldAddr 30 (.tmp 2) 3) (d := some 20) (by kernel_rfl) ho
    refine .inl ⟨free_not (guardG_of (by kernel_rfl) ho), ?_⟩
    exact meets_fieldD h1 (cc_val 2 (.pointer (some ⟨w.heap.size, 0, none⟩)) hn (of_decide_eq_true (by kernel_rfl)) (by decide) rfl) (by kernel_rfl : (Instr.fieldAt 30 (.pointer (some ⟨w.heap.size, 0, none⟩)) 3).run Tryz.prog W = .ok (.pointer (some ⟨w.heap.size, 3, none⟩)) W) (cc_put h2 (by decide) rfl)
  · obtain ⟨h1, h2⟩ := opG_of (x := .load 3 (.tmp 20)) (d := some 21) (by kernel_rfl) ho
    refine .inl ⟨free_not (guardG_of (by kernel_rfl) ho), ?_⟩
    exact meets_loadD h1 (cc_val 20 (.pointer (some ⟨w.heap.size, 3, none⟩)) hn (of_decide_eq_true (by kernel_rfl)) (by decide) rfl) (loadAt_cell (by kernel_rfl) ((hG.2.1.cell 3).trans rfl)) (cc_put h2 (by decide) rfl)
  · obtain ⟨h1, h2⟩ := opG_of (x := .fieldAddr 30 (.tmp 3) 3) (d := some 22) (by kernel_rfl) ho
    refine .inl ⟨free_not (guardG_of (by kernel_rfl) ho), ?_⟩
    exact meets_fieldD h1 (cc_val 3 (.pointer (some ⟨w.heap.size + 1, 0, none⟩)) hn (of_decide_eq_true (by kernel_rfl)) (by decide) rfl) (by kernel_rfl : (Instr.fieldAt 30 (.pointer (some ⟨w.heap.size + 1, 0, none⟩)) 3).run Tryz.prog W = .ok (.pointer (some ⟨w.heap.size + 1, 3, none⟩)) W) (cc_put h2 (by decide) rfl)
  · obtain ⟨h1, h2⟩ := opG_of (x := .load 3 (.tmp 22)) (d := some 23) (by kernel_rfl) ho
    refine .inl ⟨free_not (guardG_of (by kernel_rfl) ho), ?_⟩
    exact meets_loadD h1 (cc_val 22 (.pointer (some ⟨w.heap.size + 1, 3, none⟩)) hn (of_decide_eq_true (by kernel_rfl)) (by decide) rfl) (loadAt_cell (by kernel_rfl) ((hG.2.2.cell 3).trans rfl)) (cc_put h2 (by decide) rfl)
  · obtain ⟨h1, h2⟩ := opG_of (x := .call { callee := .value (.func 70), args := #[.tmp 21, .tmp 23], argTypes := #[3, 3] }) (d := some 24) (by kernel_rfl) ho
    refine .inl ⟨free_not (guardG_of (by kernel_rfl) ho), ?_⟩
    refine meets_callD (args := #[.int .i64 s.par, .int .i64 t.par]) h1 rfl rfl (by have e1 := (cc_val 21 (.int .i64 s.par) hn (of_decide_eq_true (by kernel_rfl)) (by decide) rfl); have e2 := (cc_val 23 (.int .i64 t.par) hn (of_decide_eq_true (by kernel_rfl)) (by decide) rfl); simp [e1, e2]) Tryz.func70 (by kernel_rfl) (by kernel_rfl) fun d hd => ?_
    refine (cmp_intE _ _ W).mono ?_
    rintro e W' ⟨rfl, rfl⟩
    exact ⟨_, rfl, Beld.refl _ _, cc_put h2 (by decide) rfl d hd⟩
  · obtain ⟨h1, h2⟩ := opG_of (x := .fieldAddr 30 (.tmp 2) 4) (d := some 25) (by kernel_rfl) ho
    refine .inl ⟨free_not (guardG_of (by kernel_rfl) ho), ?_⟩
    exact meets_fieldD h1 (cc_val 2 (.pointer (some ⟨w.heap.size, 0, none⟩)) hn (of_decide_eq_true (by kernel_rfl)) (by decide) rfl) (by kernel_rfl : (Instr.fieldAt 30 (.pointer (some ⟨w.heap.size, 0, none⟩)) 4).run Tryz.prog W = .ok (.pointer (some ⟨w.heap.size, 4, none⟩)) W) (cc_put h2 (by decide) rfl)
  · obtain ⟨h1, h2⟩ := opG_of (x := .load 3 (.tmp 25)) (d := some 26) (by kernel_rfl) ho
    refine .inl ⟨free_not (guardG_of (by kernel_rfl) ho), ?_⟩
    exact meets_loadD h1 (cc_val 25 (.pointer (some ⟨w.heap.size, 4, none⟩)) hn (of_decide_eq_true (by kernel_rfl)) (by decide) rfl) (loadAt_cell (by kernel_rfl) ((hG.2.1.cell 4).trans rfl)) (cc_put h2 (by decide) rfl)
  · obtain ⟨h1, h2⟩ := opG_of (x := .fieldAddr 30 (.tmp 3) 4) (d := some 27) (by kernel_rfl) ho
    refine .inl ⟨free_not (guardG_of (by kernel_rfl) ho), ?_⟩
    exact meets_fieldD h1 (cc_val 3 (.pointer (some ⟨w.heap.size + 1, 0, none⟩)) hn (of_decide_eq_true (by kernel_rfl)) (by decide) rfl) (by kernel_rfl : (Instr.fieldAt 30 (.pointer (some ⟨w.heap.size + 1, 0, none⟩)) 4).run Tryz.prog W = .ok (.pointer (some ⟨w.heap.size + 1, 4, none⟩)) W) (cc_put h2 (by decide) rfl)
  · obtain ⟨h1, h2⟩ := opG_of (x := .load 3 (.tmp 27)) (d := some 28) (by kernel_rfl) ho
    refine .inl ⟨free_not (guardG_of (by kernel_rfl) ho), ?_⟩
    exact meets_loadD h1 (cc_val 27 (.pointer (some ⟨w.heap.size + 1, 4, none⟩)) hn (of_decide_eq_true (by kernel_rfl)) (by decide) rfl) (loadAt_cell (by kernel_rfl) ((hG.2.2.cell 4).trans rfl)) (cc_put h2 (by decide) rfl)
  · obtain ⟨h1, h2⟩ := opG_of (x := .call { callee := .value (.func 70), args := #[.tmp 26, .tmp 28], argTypes := #[3, 3] }) (d := some 29) (by kernel_rfl) ho
    refine .inl ⟨free_not (guardG_of (by kernel_rfl) ho), ?_⟩
    refine meets_callD (args := #[.int .i64 s.nxt, .int .i64 t.nxt]) h1 rfl rfl (by have e1 := (cc_val 26 (.int .i64 s.nxt) hn (of_decide_eq_true (by kernel_rfl)) (by decide) rfl); have e2 := (cc_val 28 (.int .i64 t.nxt) hn (of_decide_eq_true (by kernel_rfl)) (by decide) rfl); simp [e1, e2]) Tryz.func70 (by kernel_rfl) (by kernel_rfl) fun d hd => ?_
    refine (cmp_intE _ _ W).mono ?_
    rintro e W' ⟨rfl, rfl⟩
    exact ⟨_, rfl, Beld.refl _ _, cc_put h2 (by decide) rfl d hd⟩
  · obtain ⟨h1, h2⟩ := opG_of (x := .buildSlice 26 5 #[(0, .tmp 9), (1, .tmp 14), (2, .tmp 19), (3, .tmp 24), (4, .tmp 29)]) (d := some 30) (by kernel_rfl) ho
    refine .inl ⟨free_not (guardG_of (by kernel_rfl) ho), ?_⟩
    refine meets_buildD (e := 3) h1 #[.int .i64 (cmpI s.ball t.ball), .int .i64 (cmpI s.need t.need), .int .i64 (cmpI s.str t.str), .int .i64 (cmpI s.par t.par), .int .i64 (cmpI s.nxt t.nxt)] ?_ (fun d hd => ?_)
    · have e0 := (cc_val 9 (.int .i64 (cmpI s.ball t.ball)) hn (of_decide_eq_true (by kernel_rfl)) (by decide) rfl); have e1 := (cc_val 14 (.int .i64 (cmpI s.need t.need)) hn (of_decide_eq_true (by kernel_rfl)) (by decide) rfl); have e2 := (cc_val 19 (.int .i64 (cmpI s.str t.str)) hn (of_decide_eq_true (by kernel_rfl)) (by decide) rfl); have e3 := (cc_val 24 (.int .i64 (cmpI s.par t.par)) hn (of_decide_eq_true (by kernel_rfl)) (by decide) rfl); have e4 := (cc_val 29 (.int .i64 (cmpI s.nxt t.nxt)) hn (of_decide_eq_true (by kernel_rfl)) (by decide) rfl)
      simp only [List.map_toArray, List.map_cons, List.map_nil, e0, e1, e2, e3, e4]
      exact bi_5c W _ _ _ _ _
    · rw [h2] at hd
      obtain rfl := Option.some.inj hd
      unfold ccV
      rw [if_pos rfl]
      exact ints_fivec W _ _ _ _ _
  · obtain ⟨h1, h2⟩ := opG_of (x := .call { callee := .value (.func 69), args := #[.tmp 30], argTypes := #[26] }) (d := some 31) (by kernel_rfl) ho
    refine .inl ⟨free_not (guardG_of (by kernel_rfl) ho), ?_⟩
    obtain ⟨u, k1, k2⟩ := hn 30 (of_decide_eq_true (by kernel_rfl))
    unfold ccV at k2
    rw [if_pos rfl] at k2
    refine meets_callD (args := #[u]) h1 rfl rfl (by have e1 : a.eval (.tmp 30) = u := eval_tmp k1; simp [e1]) Tryz.func69 (by kernel_rfl) (by kernel_rfl) fun d hd => ?_
    refine (cmp_OrcD _ _ _ W k2 fun b h => h).mono ?_
    rintro e W' ⟨rfl, hb⟩
    exact ⟨_, rfl, hb, cc_put h2 (by decide) rfl d hd⟩
  · obtain ⟨h1, h2⟩ := opG_of (x := .assign (.tmp 31)) (d := some 4) (by kernel_rfl) ho
    refine .inl ⟨free_not (guardG_of (by kernel_rfl) ho), ?_⟩
    exact meets_moveD (.inr h1) (cc_put h2 (by decide) (cc_val 31 (.int .i64 (cmpS s t)) hn (of_decide_eq_true (by kernel_rfl)) (by decide) rfl))
set_option maxRecDepth 100000 in
set_option maxHeartbeats 2000000 in
theorem ch44_orderD (s t : Cst) (w : World) : Calls Tryz.prog 28 #[stV s, stV t] w fun e w' => e = .returned (.int .i64 (cmpS s t)) ∧ Beld w.heap.size w w' := by
  have hF := cc_freeD s t w
  have hb := beld_two w (.cells #[.int .i64 s.ball, .int .i64 s.need, .int .i64 s.str, .int .i64 s.par, .int .i64 s.nxt] 30) (.cells #[.int .i64 t.ball, .int .i64 t.need, .int .i64 t.str, .int .i64 t.par, .int .i64 t.nxt] 30)
  have h1 := (Blk.new w 30 #[.int .i64 s.ball, .int .i64 s.need, .int .i64 s.str, .int .i64 s.par, .int .i64 s.nxt]).alloc (.cells #[.int .i64 t.ball, .int .i64 t.need, .int .i64 t.str, .int .i64 t.par, .int .i64 t.nxt] 30)
  have h2 := blk_two w (.cells #[.int .i64 s.ball, .int .i64 s.need, .int .i64 s.str, .int .i64 s.par, .int .i64 s.nxt] 30) 30 #[.int .i64 t.ball, .int .i64 t.need, .int .i64 t.str, .int .i64 t.par, .int .i64 t.nxt]
  have HG := Lib.hid (⟨hb, h1, h2⟩ : _ ∧ _ ∧ _)
  have HF := Lib.hid hF
  unfold stV
  clear hF hb h1 h2
  go_enter Tryz.func28, Tryz.ntmps28
  go_wp2
  refine wp_region_freeD (by kernel_rfl : _ = ccOps) (by kernel_rfl) HF.out (of_decide_eq_true (by kernel_rfl)) HG.out (fun d hd => ?_) ?_
  · simp only [List.mem_cons, List.not_mem_nil, or_false] at hd
    rcases hd with rfl | rfl
    · exact ⟨_, rfl, by unfold ccV; rw [if_neg (by decide)]; rfl⟩
    · exact ⟨_, rfl, by unfold ccV; rw [if_neg (by decide)]; rfl⟩
  · rintro ⟨⟨l⟩, df⟩ wx hin
    obtain ⟨v4, hv4, hs4⟩ := hin.atG 27 4 (by kernel_rfl)
    have hsz : l.length = 32 := hin.size
    have hdf : df = [] := hin.dfr
    have HG2 := Lib.hid hin.g
    clear hin
    subst hdf
    unfold ccV at hs4
    rw [if_neg (by decide)] at hs4
    have hs5 : v4 = .int .i64 (cmpS s t) := hs4
    subst hs5
    clear hs4
    dsimp only at hv4
    obtain ⟨z, hz⟩ : ∃ z, z = cmpS s t := ⟨_, rfl⟩
    rw [← hz] at hv4
    have HZ := Lib.hid hz
    clear hz
    iterate 32 (obtain ⟨_, t, e, h2⟩ := listG_cons hsz; clear hsz; subst e; have hsz := h2; clear h2)
    have e0 := List.eq_nil_of_length_eq_zero hsz
    clear hsz
    subst e0
    simp only [List.getElem?_toArray, List.getElem?_cons_zero, List.getElem?_cons_succ, Option.some.injEq] at hv4
    subst hv4
    go_wp2
    go_ret
    exact ⟨ret_i HZ.out, HG2.out.1⟩
instance instCstJ : Inhabited Cst := ⟨⟨0, 0, 0, 0, 0⟩⟩
def encC (s : Cst) : List Value := [.int .i64 s.ball, .int .i64 s.need, .int .i64 s.str, .int .i64 s.par, .int .i64 s.nxt]
def elCst (_ : World) (_ : Nat → Prop) (cs : List Value) (x : Cst) : Prop := cs = encC x
theorem elCst_good : Good elCst := ⟨fun h _ _ => h⟩
theorem swoC : Sort.SWO (ltOf cmpS) where
  irrefl x := by unfold ltOf; rw [decide_eq_false_iff_not]; exact cmpS_irr x
  trans x y z h1 h2 := by
    unfold ltOf at *
    rw [decide_eq_true_eq] at *
    exact cmpS_trans h1 h2
  ntrans x y z h1 h2 := by
    unfold ltOf at *
    rw [decide_eq_false_iff_not, lessS_iff] at *
    omega
theorem cmpLaysC (blk off size : Nat) (w : World) : CmpLays Tryz.prog 28 #[] encC 5 cmpS blk off size w :=
  fun m os dk _ x y => (ch44_orderD x y _).mono fun e w' h => ⟨h.1, h.2.grown⟩
theorem getD5 {α : Type} [Inhabited α] (l : List α) {i : Nat} (h : i < l.length) : l.toArray[i]! = l[i] := by simp [h]
theorem holds_ownC {l : List Cst} {B g cap : Nat} {W : World} (h : OwnSl 5 elCst 30 B W (.slice (some ⟨g, 0, none⟩) l.length cap) l) : Sort.HoldsK encC 5 W g 0 l.toArray := by
  obtain ⟨css, hlen, ho, hsz, hel⟩ := h
  intro t ht
  rw [Sort.size_flatK] at ht
  have htl : t < l.length * 5 := by simpa using ht
  have hi : t / 5 < l.length := by omega
  have hcs : css[t / 5]? = some css[t / 5] := List.getElem?_eq_getElem (by omega)
  have he : css[t / 5] = encC l[t / 5] := hel (t / 5) l[t / 5] css[t / 5] (List.getElem?_eq_getElem hi) hcs
  have hc5 : t % 5 < (encC l[t / 5]).length := Nat.mod_lt _ (by decide)
  have hu : css[t / 5][t % 5]? = some (encC l[t / 5])[t % 5] := by rw [he, List.getElem?_eq_getElem hc5]
  have hf := flatten_get hsz hcs hu
  rw [show t / 5 * 5 + t % 5 = t from by omega] at hf
  refine ⟨?_, by rw [Nat.zero_add]; exact ho.frozenAt t⟩
  rw [Nat.zero_add, ho.cellAt t (by simpa using htl), hf, Sort.get_flatK _ _ _ _ ht, getD5 l hi]
  have : (encC l[t / 5])[t % 5]! = (encC l[t / 5])[t % 5] := getElem!_pos (encC l[t / 5]) (t % 5) hc5
  rw [this]
  rfl
theorem sl_holdsC {l : List Cst} {g cap n : Nat} {W : World} (hn : n = l.length) (h1 : l.length ≤ cap) (h2 : cap ≤ maxLen) (h : Sort.HoldsK encC 5 W g 0 l.toArray) : Sl 5 elCst W (fun b => b = g) (.slice (some ⟨g, 0, none⟩) n cap) l := by
  subst hn
  refine ⟨_, cap, rfl, h1, h2, fun _ => ⟨g, 0, rfl, rfl, fun i a hi => ?_⟩⟩
  have hil := (List.getElem?_eq_some_iff.1 hi).1
  have hia : l[i] = a := (List.getElem?_eq_some_iff.1 hi).2
  refine ⟨encC a, rfl, fun j u hj => ?_, rfl⟩
  have hj5 : j < 5 := (List.getElem?_eq_some_iff.1 hj).1
  have := (h.cell (i := i) (c := j) (by simpa using hil) hj5).1
  rw [this, getD5 l hil, hia, getElem!_pos (encC a) j (show j < (encC a).length from hj5)]
  exact congrArg some (List.getElem?_eq_some_iff.1 hj).2
theorem only_sortedC {w : World} {g n : Nat} {os : Array Obj} (d : Array Cst) : Only g w (sortWorldK encC 5 w g 0 n d os) := by
  refine ⟨rfl, rfl, rfl, by simp [sortWorldK, Sort.putRowK, Sort.putRow, Sort.mapBlock, Sort.grow, Sort.ahead], fun k hk hne => ?_⟩
  unfold sortWorldK Sort.putRowK
  rw [Sort.heap_grow_old _ _ (by simpa using hk)]
  have : g ≠ k := fun e => hne (by rw [e])
  simp [Sort.putRow, Sort.mapBlock, Sort.ahead, Array.getElem?_modify, this]
set_option maxHeartbeats 1000000 in
theorem cst_Sort (l : List Cst) (B g cap : Nat) (W : World) (h : OwnSl 5 elCst 30 B W (.slice (some ⟨g, 0, none⟩) l.length cap) l) (hl : l.length ≤ 1000000000000) :
    Calls Tryz.prog 95 #[.slice (some ⟨g, 0, none⟩) l.length cap, .func (.func 28) #[] #[]] W fun e w' => e = .returned (.tuple #[]) ∧
      ∃ l' : List Cst, l'.Perm l ∧ l'.length = l.length ∧ (l'.Pairwise fun a b => ¬ cmpS b a < 0) ∧ Sl 5 elCst w' (fun b => b = g) (.slice (some ⟨g, 0, none⟩) l.length cap) l' ∧ Only g W w' := by
  have hb := h.block g rfl
  have hcap : l.length ≤ cap ∧ cap ≤ maxLen := by
    obtain ⟨css, hlen, ho, _⟩ := h
    rcases ho.2 with ⟨hv, _⟩ | ⟨g', cap', cur, hv, _, _, h1, h2, _⟩
    · cases hv
    · injection hv with _ _ e; subst e; exact ⟨h1, h2⟩
  have eg : ∀ args w, (callFunc 28 args).run Tryz.prog w = .ok (.enter 28 args) w := enters_of Tryz.func28 (by kernel_rfl) rfl
  have hH := holds_ownC h
  have hcon := AnyQ.slices_SortFunc Tryz.sortCst 5 Tryz.isAgg30 Tryz.sizeOf30 encC (fun _ => rfl) (fun x v hv => by simp [encC] at hv; rcases hv with rfl | rfl | rfl | rfl | rfl <;> rfl) cmpS swoC 28 #[] g 0 cap l.toArray W eg (cmpLaysC g 0 l.toArray.size W) hH hb.2 (by simp; omega)
  change Calls Tryz.prog 95 _ _ _ at hcon
  have hsz : l.toArray.size = l.length := by simp
  rw [hsz] at hcon
  refine hcon.mono ?_
  rintro e w' ⟨rfl, d', n, os, hp, hs, rfl⟩
  have hds : d'.size = l.length := by rw [hp.1]; simp
  refine ⟨rfl, d'.toList, ?_, by simpa using hds, ?_, ?_, only_sortedC d'⟩
  · have := hp.2.2
    rw [show d'.extract 0 l.length = d' from by rw [← hds]; simp, show l.toArray.extract 0 l.length = l.toArray from by simp] at this
    simpa using this
  · rw [List.pairwise_iff_getElem]
    intro i j hi hj hij
    have := hs i j (Nat.zero_le _) hij (by rw [← hds]; simpa using hj)
    unfold ltOf at this
    rw [getElem!_pos d' j (by simpa using hj), getElem!_pos d' i (by simpa using hi)] at this
    simpa using this
  · have hH2 := holdsK_sortWorldK_c encC 5 W g 0 l.toArray d' n os hH hb.2 (by rw [hds]; simp)
    refine sl_holdsC (by simpa using hds.symm) (by simp; omega) hcap.2 ?_
    simpa using hH2
end Go.Proofs.YtdlmmbfnmnglaaaGreatDoor

namespace Go.Proofs.YtdlmmbfnmnglaaaGreatDoor
open Go.RowKit Go.Maps Go.Shelf
attribute [local go_sem] Oper.semAt_some

/-- What keys have come out of a map, in any order: each once. -/
structure CollK (D : DataW Unit) (left : Lit → Bool) (l : List Cst) : Prop where
  has : ∀ s ∈ l, Maps.has D (keyS s) = true ∧ left (keyS s) = false ∧ Smol s
  all : ∀ s, Smol s → Maps.has D (keyS s) = true → left (keyS s) = false → s ∈ l
  one : l.Nodup
theorem CollK.start (D : DataW Unit) : CollK D (Maps.has D) [] := ⟨fun e he => (by cases he), fun s _ h1 h2 => (by rw [h1] at h2; cases h2), List.nodup_nil⟩
theorem CollK.step {D : DataW Unit} {left : Lit → Bool} {l : List Cst} (h : CollK D left l) {e : Cst} (h1 : Maps.has D (keyS e) = true) (h2 : left (keyS e) = true) (h3 : Smol e) :
    CollK D (fun z => left z && !z.sameKey (keyS e)) (l ++ [e]) := by
  refine ⟨fun x hx => ?_, fun s hs hh hl => ?_, ?_⟩
  · rcases List.mem_append.1 hx with hx | hx
    · obtain ⟨k1, k2, k3⟩ := h.has x hx
      exact ⟨k1, by rw [k2]; rfl, k3⟩
    · simp at hx; subst hx
      exact ⟨h1, by rw [WideAt.sameKey_self (key_lit _)]; simp, h3⟩
  · cases hc : left (keyS s)
    · exact List.mem_append.2 (.inl (h.all s hs hh hc))
    · rw [hc] at hl
      by_cases e2 : e = s
      · simp [e2]
      · exfalso
        have : (keyS s).sameKey (keyS e) = false := Go.Maps.sameKey_ne fun e3 => e2 (key_inj h3 hs e3.symm)
        rw [this] at hl; cases hl
  · rw [List.nodup_append]
    refine ⟨h.one, by simp, fun x hx y hy e2 => ?_⟩
    simp at hy; subst hy e2
    obtain ⟨_, k2, _⟩ := h.has x hx
    rw [h2] at k2; cases k2
set_option maxRecDepth 100000 in
set_option maxHeartbeats 2000000 in
theorem ch_keys1 (c : Chs) (hc : OkC c) (r : Cst) (F : Fence) (n : Nat) (hf : F.fn 96) (hro : F.round = none) (hn : 1 ≤ n) (l Bm b nn : Nat) (D0 : DataW Unit) (hk : Known c r D0) (J Jx : List Cst → World → Prop)
    (hY : ∀ pre x W, J pre W → pre.length < Maps.size D0 → YieldAt F (n - 1) Tryz.prog l #[stV x] W fun e W' =>
      (e = .returned (.bool true) ∧ J (pre ++ [x]) W' ∧ KeepsWalks W W') ∨ (e = .returned (.bool false) ∧ Jx (pre ++ [x]) W'))
    (W : World) (hJ : AbidesFrom W.heap.size J) (hm : W.cell? ⟨Bm, 0, none⟩ = some (.map (some b))) (hown : Vals W b nn D0) (h0 : J [] W) :
    CallsIn F n Tryz.prog 96 #[.func (.yield l) #[] #[], .pointer (some ⟨Bm, 0, none⟩)] W fun e W' => (∃ v, e = .returned v) ∧
      ((∃ ss : List Cst, (CollK D0 (fun _ => false) ss ∧ ss.length ≤ Maps.size D0) ∧ J ss W') ∨ (∃ pre : List Cst, True ∧ Jx pre W')) := by
  refine callsIn_of_wp Tryz.func96 rfl hf ?_ hro
  simp only [Tryz.ntmps96, List.size_toArray, List.length_cons, List.length_nil, Nat.reduceAdd, Nat.reduceSub, Array.replicate_succ, Array.replicate_zero, List.push_toArray, List.append_toArray, List.nil_append, List.cons_append]
  gi_wp2_with (gi_at_range; refine wpListIn_range_own _ rfl _ 67 rfl 30 2 law44 Tryz.underlying67 (plainElem Tryz.prog 2) b nn D0 rfl hown ?_; intro w0 hrg0 hg0 hs0)
  go_frame
  gi_loopw [3] (fun _ wr => ∃ (left : Lit → Bool) (cnt : Nat) (ss : List Cst), wr.ranges Tryz.prog 30 (plainElem Tryz.prog 2) b W.heap.size nn D0 left cnt ∧ ss.length + cnt ≤ Maps.size D0 ∧ CollK D0 left ss ∧ J ss wr)
    (fun _ wr => wr.rangeLeft b W.heap.size)
  case atStart => exact ⟨_, _, [], hrg0, by simp, CollK.start D0, hJ [] W w0 none h0 hg0 (fun r e => by cases e)⟩
  case round =>
    obtain ⟨left, cnt, ss, hrg, hcs, hC, hJs⟩ := hrel
    gi_wp2_with (gi_at_next; refine wpListIn_next_ranges _ rfl _ rfl 30 law44 (plainElem Tryz.prog 2) (fun v : Value => v) (Value.int .i64) (fun key kl _ => ⟨key, rfl⟩) (fun v y hv => by obtain ⟨c9, rfl, _⟩ := plainElem_int_inv Tryz.underlying2 hv; exact ⟨c9, rfl⟩) b W.heap.size nn _ _ _ rfl hrg ?_ ?_)
    · intro hc0 hl0
      have hle : left = fun _ => false := funext hl0
      gi_wp2
      go_end0
      exact ⟨⟨_, rfl⟩, .inl ⟨ss, ⟨by rw [← hle]; exact hC, by omega⟩, hJs⟩⟩
    · intro x cc kl y1 y2 w2 cnt2 hkey hlk hRv hat hrg2 hlt hg2 hs2 hen
      have hhas := has_true_of_atKey hat
      obtain ⟨s, rfl, rfl, hs⟩ := keyS_inv hc hk hkey hhas
      have hC2 := hC.step hhas hlk (hs.smol hc)
      have hJ2 : J ss w2 := hJ ss wr w2 (some W.heap.size) hJs hg2 (fun r e => by cases e; exact ⟨Nat.le_refl _, hrg.iter_walk⟩)
      obtain ⟨⟨q0, q1, q2, q3, q4⟩, hq⟩ : ∃ x, x = s := ⟨_, rfl⟩
      have hJ3 : J ss (w2.alloc (.cells #[.int .i64 q0, .int .i64 q1, .int .i64 q2, .int .i64 q3, .int .i64 q4] 30)) := hJ ss w2 _ none hJ2 (World.grownBy_alloc _ _ _) (fun r e => by cases e)
      obtain ⟨fn, tmps, assign, body, hy, hR⟩ := hY ss s _ hJ3 (by omega)
      rw [← hq] at hy hen hR
      unfold stV at hy hen
      dsimp only at hy hen
      have HR := Lib.hid hR
      have HC2 := Lib.hid hC2
      have HRG2 := Lib.hid (hrg2.alloc (.cells #[.int .i64 q0, .int .i64 q1, .int .i64 q2, .int .i64 q3, .int .i64 q4] 30))
      have HLT := Lib.hid hlt
      have HCS := Lib.hid hcs
      have HRG := Lib.hid hrg
      clear hs2 hR hC2 hJ2 hJ3 hJs hC hkey hlk hRv hat hrg2 hlt hg2 hhas hs hcs hrg hJ hY
      gi_wp2
      refine HR.out.mono ?_
      rintro e W3 (⟨rfl, hJ3, hk3⟩ | ⟨rfl, hJx3⟩)
      · have HRG3 := Lib.hid (HRG2.out.of_walks hk3)
        have HJ3 := Lib.hid hJ3
        clear hJ3 hk3
        gi_wp2
        go_roundw
        case rel => exact ⟨_, cnt2, ss ++ [s], HRG3.out, by have h1 := HCS.out; have h2 := HLT.out; simp; omega, HC2.out, by rw [hq] at HJ3; exact HJ3.out⟩
        case measure => rw [HRG3.out.left_eq, HRG.out.left_eq]; exact HLT.out
      · gi_wp2
        refine bodyPost_ret (results_none rfl _ _ _) rfl ?_
        exact ⟨⟨_, rfl⟩, .inr ⟨_, trivial, hJx3⟩⟩
/-- maps.Keys hands back a value that stops. -/
theorem ch_keys_stops (c : Chs) (hc : OkC c) (r : Cst) (F : Fence) (n : Nat) (hf : F.fn 96) (hro : F.round = none) (hn : 1 ≤ n) (Bm b nn : Nat) (D0 : DataW Unit) (hk : Known c r D0) (w : World) (hBm : Bm < w.heap.size)
    (hm : w.cell? ⟨Bm, 0, none⟩ = some (.map (some b))) (hown : Vals w b nn D0) :
    SeqStops F n Tryz.prog 96 #[.pointer (some ⟨Bm, 0, none⟩)] stV (fun ss => CollK D0 (fun _ => false) ss ∧ ss.length ≤ Maps.size D0) (fun _ => True) (Maps.size D0) w := fun l J Jx W hW hJ _ hY h0 => by
  exact ch_keys1 c hc r F n hf hro hn l Bm b nn D0 hk J Jx hY W hJ ((hW.cell (p := ⟨Bm, 0, none⟩) hBm).trans hm) (vals_below hown hW) h0
set_option maxHeartbeats 1000000 in
theorem ch_keys (F : Fence) (n : Nat) (hf : F.fn 51) (hro : F.round = none) (mb : Option Nat) (w : World) :
    CallsIn F n Tryz.prog 51 #[.map mb] w fun e w' => e = .returned (.func (.func 96) #[] #[.pointer (some ⟨w.heap.size, 0, none⟩)]) ∧ w' = w.alloc (.cells #[.map mb] 67) := by
  refine callsIn_of_wp Tryz.func51 rfl hf ?_ hro
  simp only [Tryz.ntmps51, List.size_toArray, List.length_cons, List.length_nil, Nat.reduceAdd, Nat.reduceSub, Array.replicate_succ, Array.replicate_zero, List.push_toArray, List.append_toArray, List.nil_append, List.cons_append]
  gi_wp2
  go_ret
  exact ⟨rfl, rfl⟩
end Go.Proofs.YtdlmmbfnmnglaaaGreatDoor

namespace Go.Proofs.YtdlmmbfnmnglaaaGreatDoor
open Go.RowKit Go.Maps Go.Shelf
attribute [local go_sem] Oper.semAt_some

theorem infoCst : (Tryz.prog.info? 30).map (fun i => (i.zero, i.size, i.bytes)) = some (some (.agg #[.int .i64 0, .int .i64 0, .int .i64 0, .int .i64 0, .int .i64 0]), 5, 40) := by kernel_rfl
theorem row_someC {W : World} {base e size k : Nat} {v : Value} {xs : List Value} (h : W.ownsRow base e size v k xs) (hk : k ≠ 0) : ∃ g cap, v = .slice (some ⟨g, 0, none⟩) k cap := by
  rcases h.2 with ⟨_, h0⟩ | ⟨g, cap, _, e, _⟩
  · exact absurd h0 hk
  · exact ⟨g, cap, e⟩
theorem sl_cst_ne : 92 ≠ 30 := by decide
set_option maxRecDepth 100000 in
set_option maxHeartbeats 4000000 in
theorem ch_appendSeq (F : Fence) (n : Nat) (hf : F.fn 124) (hro : F.round = none) (hn : 3 ≤ n) (gf : Nat) (lb : Array Value) (hFg : F.fn gf) (eg : ∀ args w, (callFunc gf args).run Tryz.prog w = .ok (.enter gf args) w)
    (S Sp : List Cst → Prop) (N : Nat) (hN : N ≤ 36000000000) (w : World) (hseq : SeqStops F (n - 1) Tryz.prog gf lb stV S Sp N w) :
    CallsIn F n Tryz.prog 124 #[.slice none 0 0, .func (.func gf) #[] lb] w fun e w' => ∃ (v : Value) (ss : List Cst), e = .returned v ∧ S ss ∧ w'.ownsRow w.heap.size 30 5 v ss.length (ss.map encC).flatten ∧ Below w.heap.size w w' := by
  have h1 : 1 ≤ n := by omega
  obtain ⟨i0, hi, hz0, hz1, hz2⟩ := info_parts infoCst
  refine callsIn_of_wp_marks Tryz.func124 rfl hf ?_ hro
  simp only [Tryz.ntmps124, List.size_toArray, List.length_cons, List.length_nil, Nat.reduceAdd, Nat.reduceSub, Array.replicate_succ, Array.replicate_zero, List.push_toArray, List.append_toArray, List.nil_append, List.cons_append]
  gi_wp2
  have bO := Boxed.new w 92 (.slice none 0 0)
  have hB0 : Below w.heap.size w (w.alloc (.cells #[.slice none 0 0] 92)) := (Below.refl _ w).alloc (Nat.le_refl _) _
  refine wpIn_rangeFunc_ownH hro h1 (gf := gf) (lb := lb) rfl hFg eg hseq walksK_t walksK_b hB0 (fun _ => rfl)
    (fun pre W => (∃ v, Boxed W w.heap.size 92 v ∧ W.ownsRow w.heap.size 30 5 v pre.length (pre.map encC).flatten ∧ True) ∧ Below w.heap.size w W)
    (fun _ _ _ => False)
    (OwnFrom.and (Own.from (holdsRow_own w.heap.size w.heap.size 92 30 5 (fun pre : List Cst => pre.length) (fun pre => (pre.map encC).flatten) (fun _ _ => True)) _) (ownFrom_below (Nat.le_refl _) (by simp)))
    (fun _ _ _ _ _ hs _ _ => hs)
    ⟨⟨_, bO, World.ownsRow_nil _ _ _ _, trivial⟩, hB0⟩
    (fun x a' W => ∃ Bx, w.heap.size < Bx ∧ Blk W Bx 30 (encC x).toArray ∧ a' = { tmps := #[.slice none 0 0, .func (.func gf) #[] lb, .pointer (some ⟨w.heap.size, 0, none⟩), undef, .slice none 0 0, .pointer (some ⟨Bx, 0, none⟩), .func (.func gf) #[] lb, stV x, undef, undef, undef, undef, undef], defers := [] })
    (fun x a' _ X Y row hs hg hr => by
      obtain ⟨Bx, g1, g2, g3⟩ := hs
      exact ⟨Bx, g1, g2.grown hg (fun e => by obtain ⟨_, o, ho, hc⟩ := hr Bx e; rw [show X.heap[Bx]? = _ from g2] at ho; cases ho; cases hc), g3⟩)
    ?assign ?body ?done ?stop
  case assign =>
    rintro l pre x W K ⟨⟨v, hv, hrow, _⟩, hB⟩ hK
    have hk := fun (Bx : Nat) W' => hK { tmps := #[.slice none 0 0, .func (.func gf) #[] lb, .pointer (some ⟨w.heap.size, 0, none⟩), undef, .slice none 0 0, .pointer (some ⟨Bx, 0, none⟩), .func (.func gf) #[] lb, stV x, undef, undef, undef, undef, undef], defers := [] } W'
    obtain ⟨q0, q1, q2, q3, q4⟩ := x
    unfold stV at hk ⊢
    dsimp only at hk ⊢
    have HK := Lib.hid hk
    have hvl := hv.lt
    clear hk hK
    gi_wp2
    exact HK.out _ _ ((KeepsOthers.alloc _ _).from _) (KeepsWalks.alloc _ _) ⟨⟨v, hv.alloc _, hrow.alloc _, trivial⟩, hB.alloc hB.size _⟩ ⟨W.heap.size, hvl, Blk.new W 30 _, rfl⟩
  case body =>
    rintro l pre x a' W hl _ ⟨⟨v, hv, hrow, _⟩, hB⟩ ⟨Bx, hBx, hbx, rfl⟩ hlt
    have hc := hv.cell
    have hroom : pre.length + 1 ≤ maxLen ∧ (pre.length + 1) * 40 ≤ 140737488355328 := by simp only [maxLen]; omega
    have hfl : ((pre ++ [x]).map encC).flatten = (pre.map encC).flatten ++ encC x := by simp
    have hln : (pre ++ [x]).length = pre.length + 1 := by simp
    obtain ⟨q0, q1, q2, q3, q4⟩ := x
    have c0 := hbx.cell 0
    have c1 := hbx.cell 1
    have c2 := hbx.cell 2
    have c3 := hbx.cell 3
    have c4 := hbx.cell 4
    unfold encC at c0 c1 c2 c3 c4
    simp only [List.getElem?_toArray, List.getElem?_cons_zero, List.getElem?_cons_succ] at c0 c1 c2 c3 c4
    have HFL := Lib.hid hfl
    have HLN := Lib.hid hln
    have HROOM := Lib.hid hroom
    have HB := Lib.hid hB
    have HV := Lib.hid hv
    have HROW := Lib.hid hrow
    have HBS := Lib.hid hB.size
    unfold stV
    clear hfl hln hroom hB hbx hseq hv hrow hlt
    gi_wp2_with (gi_at_builtin; refine wpListIn_append_own _ rfl _ _ 92 rfl w.heap.size 30 i0 (.agg #[.int .i64 0, .int .i64 0, .int .i64 0, .int .i64 0, .int .i64 0]) 5 40 Tryz.underlying92 hi hz0 hz1 hz2 rfl (by decide) _ _ _ rfl (HROW.out.alloc _) ⟨W.heap.size, 0, none⟩ 1 1 [.int .i64 q0, .int .i64 q1, .int .i64 q2, .int .i64 q3, .int .i64 q4] rfl rfl (cells_new _ _ _ _) (oneCells rfl) HROOM.out.1 HROOM.out.2 (by have := HBS.out; simp; omega) ?_; intro v' w1 hown' hgrow _; obtain ⟨g', cap', rfl⟩ := ownsRow_succ hown'; obtain ⟨hv1, hv2, hr2, hk2, hb2⟩ := HV.out.appended sl_cst_ne HROW.out HBS.out (Nat.le_refl _) hown' hgrow; have hc1 := hv1.cell; have hf1 := hv1.frozen; have HK2 := Lib.hid hk2; have HV2 := Lib.hid hv2; have HR2 := Lib.hid hr2; have HB2 := Lib.hid hb2; clear hc c0 c1 c2 c3 c4 hv1 hv2 hr2 hk2 hb2 hown' hgrow)
    exact ⟨HK2.out.from _, HK2.out.walks, ⟨_, HV2.out, by rw [HFL.out, HLN.out]; exact HR2.out⟩, HB.out.trans HB2.out⟩
  case done =>
    rintro D ys W hD hS ⟨⟨v, hv, hrow, _⟩, hB⟩ hK
    have hc := hv.cell
    gi_wp2
    refine ⟨by simp, .inl ⟨_, _, rfl, run_takeDeferred hK, ?_⟩⟩
    exact ⟨_, results_tmp rfl _ _ _, v, ys, rfl, hS, ownsRow_putObj hrow _ hK rfl, hB.trans (belowK_b (w := w) (Nat.le_refl _) W D _ _ (by simp at hD; omega) hK rfl rfl)⟩
  case stop =>
    rintro D c pre W _ _ h _
    exact h.elim
set_option maxHeartbeats 1000000 in
theorem ch_collect (F : Fence) (n : Nat) (hf : F.fn 94) (hf2 : F.fn 124) (hro : F.round = none) (hn : 4 ≤ n) (gf : Nat) (lb : Array Value) (hFg : F.fn gf) (eg : ∀ args w, (callFunc gf args).run Tryz.prog w = .ok (.enter gf args) w)
    (S Sp : List Cst → Prop) (N : Nat) (hN : N ≤ 36000000000) (w : World) (hseq : SeqStops F (n - 1 - 1) Tryz.prog gf lb stV S Sp N w) :
    CallsIn F n Tryz.prog 94 #[.func (.func gf) #[] lb] w fun e w' => ∃ (v : Value) (ss : List Cst), e = .returned v ∧ S ss ∧ w'.ownsRow w.heap.size 30 5 v ss.length (ss.map encC).flatten ∧ Below w.heap.size w w' := by
  have h1 : 1 ≤ n := by omega
  refine callsIn_of_wp Tryz.func94 rfl hf ?_ hro
  simp only [Tryz.ntmps94, List.size_toArray, List.length_cons, List.length_nil, Nat.reduceAdd, Nat.reduceSub, Array.replicate_succ, Array.replicate_zero, List.push_toArray, List.append_toArray, List.nil_append, List.cons_append]
  gi_wp2_with (gi_at_call 124; refine (ch_appendSeq F (n - 1) hf2 hro (by omega) gf lb hFg eg S Sp N hN _ hseq).mono ?_; rintro e w' ⟨v, ss, rfl, hS, hrow, hb⟩)
  go_ret
  exact ⟨v, ss, rfl, hS, hrow, hb⟩
/-- slices.SortedFunc over what maps.Keys hands back: the keys, in order. -/
theorem ch_sortedFunc (c : Chs) (hc : OkC c) (r : Cst) (Bm b nn : Nat) (D0 : DataW Unit) (hk : Known c r D0) (hr : OkS c r) (hh : Maps.has D0 (keyS r) = true) (hnn : Maps.size D0 ≤ 36000000000) (w : World) (hBm : Bm < w.heap.size)
    (hm : w.cell? ⟨Bm, 0, none⟩ = some (.map (some b))) (hown : Vals w b nn D0) :
    Calls Tryz.prog 50 #[.func (.func 96) #[] #[.pointer (some ⟨Bm, 0, none⟩)], .func (.func 28) #[] #[]] w fun e w' => ∃ (g cap : Nat) (l : List Cst), e = .returned (.slice (some ⟨g, 0, none⟩) l.length cap) ∧ (w.heap.size ≤ g ∧ g < w'.heap.size) ∧ l.length ≤ 36000000000 ∧
      (∃ ss, CollK D0 (fun _ => false) ss ∧ l.Perm ss) ∧ (l.Pairwise fun x y => ¬ cmpS y x < 0) ∧ Sl 5 elCst w' (fun b => b = g) (.slice (some ⟨g, 0, none⟩) l.length cap) l ∧ Below w.heap.size w w' := by
  refine (callsIn_wide (n := 6)).1 ?_
  have hseq := (ch_keys_stops c hc r Fence.wide 3 trivial rfl (by omega) Bm b nn D0 hk w hBm hm hown)
  have hcol := ch_collect Fence.wide 5 trivial trivial rfl (by omega) 96 #[.pointer (some ⟨Bm, 0, none⟩)] trivial (enters_of Tryz.func96 (by kernel_rfl) rfl) _ _ _ hnn w hseq
  have hsrt := fun (l : List Cst) g cap W h1 h2 => callsIn_wide (n := 5) |>.2 (cst_Sort l w.heap.size g cap W h1 h2)
  refine callsIn_of_wp Tryz.func50 rfl trivial ?_ rfl
  simp only [Tryz.ntmps50, List.size_toArray, List.length_cons, List.length_nil, Nat.reduceAdd, Nat.reduceSub, Array.replicate_succ, Array.replicate_zero, List.push_toArray, List.append_toArray, List.nil_append, List.cons_append]
  have HC := Lib.hid hcol
  have HS := Lib.hid hsrt
  have HK := Lib.hid hk
  clear hseq hcol hsrt hk hm hown
  gi_wp2_with (first
    | (refine ⟨trivial, ?_⟩; gi_at_call 94; refine HC.out.mono ?_; rintro e w2 ⟨v, ss, rfl, ⟨hS, hlen⟩, hrow, hb⟩; obtain ⟨g, cap, rfl⟩ : ∃ g cap, v = .slice (some ⟨g, 0, none⟩) ss.length cap := row_someC hrow (fun h0 => by have h9 := hS.all r (hr.smol hc) hh rfl; rw [List.eq_nil_of_length_eq_zero h0] at h9; cases h9); have HROW := Lib.hid (show OwnSl 5 elCst 30 w.heap.size w2 (.slice (some ⟨g, 0, none⟩) ss.length cap) ss from ⟨ss.map encC, by simp, hrow, fun cs h => (by obtain ⟨x, _, rfl⟩ := List.mem_map.1 h; rfl), fun i a cs h1 h2 => (by rw [List.getElem?_map, h1] at h2; exact (Option.some.inj h2).symm)⟩); have HSS := Lib.hid hS; have HLEN := Lib.hid hlen; have HB := Lib.hid hb; clear hS hlen hrow hb)
    | (refine ⟨trivial, ?_⟩; gi_at_call 95; refine (HS.out ss g cap w2 HROW.out (by have := HLEN.out; omega)).mono ?_; rintro e w3 ⟨rfl, l, hp, hl2, hs, hsl, ho⟩; have HP := Lib.hid hp; have HSO := Lib.hid hs; have HL2 := Lib.hid hl2; have HSL := Lib.hid hsl; have HO := Lib.hid ho; clear hp hl2 hs hsl ho))
  go_ret
  exact ⟨g, cap, l, by rw [HL2.out] <;> rfl, ⟨(HROW.out.block g rfl).1, Nat.lt_of_lt_of_le (HROW.out.block g rfl).2 HO.out.size⟩, by have := HLEN.out; have := HL2.out; omega, ⟨ss, HSS.out, HP.out⟩, HSO.out.imp (fun h => by omega), by rw [HL2.out]; exact HSL.out, HB.out.trans (HO.out.below (HROW.out.block g rfl).1 HB.out.size)⟩
end Go.Proofs.YtdlmmbfnmnglaaaGreatDoor

namespace Go.Proofs.YtdlmmbfnmnglaaaGreatDoor
open Go.RowKit Go.Maps Go.Shelf

def entV (c : Chs) (s : Cst) : Cve := ⟨s, valS c s⟩
theorem keys_tab {c : Chs} (hc : OkC c) {r : Cst} (hr : OkS c r) {D : DataW Unit} (hk : Known c r D) (hop : Maps.has D (keyS r) = true) {ss l : List Cst} (hC : CollK D (fun _ => false) ss) (hp : l.Perm ss) (hs : l.Pairwise fun x y => ¬ cmpS y x < 0) : TabIsC c r (l.map (entV c)) := by
  refine ⟨strictC_of ?_ ?_, fun e => ?_⟩
  · rw [List.pairwise_map]
    exact hs.imp fun h => leC_iff.2 h
  · rw [List.pairwise_map]
    exact (hp.nodup_iff.2 hC.one).imp fun h => h
  rw [List.mem_map]
  constructor
  · rintro ⟨s, hs2, rfl⟩
    obtain ⟨k1, _, k3⟩ := hC.has s (hp.mem_iff.1 hs2)
    obtain ⟨s', e1, e2, e3⟩ := hk.sub _ k1
    have := key_inj k3 (e2.smol hc) e1
    subst this
    exact ⟨e3, rfl⟩
  · rintro ⟨h1, h2⟩
    have hh : OkS c e.st ∧ Maps.has D (keyS e.st) = true := h1 (fun s => OkS c s ∧ Maps.has D (keyS s) = true) ⟨hr, hop⟩ fun s x hs hx => ⟨nextsC_ok hc hs.1 hx, hk.clo s hs.1 hs.2 _ hx⟩
    exact ⟨e.st, hp.mem_iff.2 (hC.all _ (hh.1.smol hc) hh.2 rfl), by unfold entV; rw [← h2]⟩
theorem step_lookup_int {H : Type} {P : Program} {ops : Array Oper} {o : Oper} {a : Act} {w : World} {K : Act → World → Prop} {Q : Exit → Act → World → Prop} {E : Prop} (hgd : o.guard = none) (m x : Operand) (t : TypeId) (hop : o.op = Op.lookup t m x false)
    (k e : TypeId) (q : IntKind) (Kd : Keyed P k) (ht : P.underlying t = some (.map k e)) (he : P.underlying e = some (.int q)) (hz : (zeroValue e).run P w = .ok (.int q 0) w) (b n : Nat) (D : DataW H)
    (hm : a.eval m = .map (some b)) (hown : w.ownsMap P k (plainElem P e) b n D) (key : Value) (kl : Lit) (hx : a.eval x = key) (hkey : keyOf P k key = some kl)
    (h : ∀ c : Int, D.atKey kl (.lit (.int q 0)) = .lit (.int q c) → (Lit.int q c).wf = true → K (a.put o.dst (.int q c)) w) :
    if Region.wanted o (yielded ops a.tmps) = true then Oper.wp P o a w K Q else E := by
  have hw : Region.wanted o (yielded ops a.tmps) = true := by simp [Region.wanted, hgd]
  rw [if_pos hw]
  obtain ⟨c, hrun, hat, hwc⟩ := hown.lookup_int Kd ht he hz hkey
  unfold Oper.wp
  simp [execOp, hop, hm, hx, hrun, Result.andThen]
  exact h c hat hwc
/-- The row of entries under way. -/
structure TlC (wB W : World) (lc : List Cve) (v : Value) : Prop where
  bel : Below wB.heap.size wB W
  own : OwnSl 6 elCv 32 wB.heap.size W v lc
theorem TlC.below {wB W W' : World} {lc : List Cve} {v : Value} (h : TlC wB W lc v) (hb : Below W.heap.size W W') : TlC wB W' lc v := ⟨h.bel.trans (hb.mono h.bel.size), h.own.below elCv_good hb⟩
theorem TlC.app {wB W W' : World} {lc lc' : List Cve} {v v' : Value} (h : TlC wB W lc v) (ho : OwnSl 6 elCv 32 wB.heap.size W' v' lc') (hg : W.grownBy W' v.ownBlock) : TlC wB W' lc' v' := ⟨below_own h.bel h.own hg (Nat.le_refl _) h.bel.size, ho⟩
theorem cst_at {w : World} {F : Nat → Prop} {A : Option Addr} {n c : Nat} {l : List Cst} (h : Sl 5 elCst w F (.slice A n c) l) {k : Nat} (hk : k < l.length) :
    ∃ b o, A = some ⟨b, o, none⟩ ∧ F b ∧ w.cell? ⟨b, o + k * 5, none⟩ = some (.int .i64 l[k].ball) ∧ w.cell? ⟨b, o + k * 5 + 1, none⟩ = some (.int .i64 l[k].need) ∧ w.cell? ⟨b, o + k * 5 + 2, none⟩ = some (.int .i64 l[k].str) ∧ w.cell? ⟨b, o + k * 5 + 3, none⟩ = some (.int .i64 l[k].par) ∧ w.cell? ⟨b, o + k * 5 + 4, none⟩ = some (.int .i64 l[k].nxt) := by
  obtain ⟨b, o, cs, e, hF, hcs, hcell, hel⟩ := h.at hk
  have hel : cs = _ := hel
  subst hel
  exact ⟨b, o, e, hF, hcell 0 _ rfl, hcell 1 _ rfl, hcell 2 _ rfl, hcell 3 _ rfl, hcell 4 _ rfl⟩
set_option maxRecDepth 100000 in
set_option maxHeartbeats 8000000 in
theorem ch44_Table (c : Chs) (bv wv pv ov : Value) (w : World) (h : ChAt w (· < w.heap.size) bv wv pv ov c) (h6 : c.bows.length ≤ 6) :
    Calls Tryz.prog 17 #[chV c bv wv pv ov] w (TabPostC c w) := by
  have k1 := fun W (hW : Below w.heap.size w W) => ch44_Start c _ _ _ _ W (h.below hW)
  have hok0 := fun h0 => startC_ok (c := c) h0
  unfold TabPostC
  obtain ⟨⟨s, u⟩, hsu⟩ : ∃ x, x = startC c := ⟨_, rfl⟩
  simp only [← hsu] at k1 hok0 ⊢
  have hbig : ∀ s, OkS c s → 0 + cntV (leftC c s) ≤ 2000000000000000000 := fun s hs => by
    have h1 : leftC c s ≤ 6 := by have := hs.ball; unfold leftC; omega
    have h2 := cntV_mono h1
    have h3 := cntV7
    omega
  have kfl := fun (hc : OkC c) (hs : OkS c s) (W : World) (gs b : Nat) (D : DataW Unit) (hD : D = .map []) (hW : AcMC w W gs b 0 D s c bv wv pv ov) => (ch44_solve c hc (leftC c s) s rfl hs s (ReachC.start c s) bv wv pv ov (· < w.heap.size) b 0 D W (h.keep (Same.of_below hW.r.bel) fun _ h => h) (fun x hx => ⟨Nat.lt_of_lt_of_le hx hW.r.bel.size, by have := hW.hb; have := hW.r.lt; have : x < w.heap.size := hx; omega⟩) hW.vals (by subst hD; exact Known.none c s) (hbig s hs)).mono (R' := fun e W' => ∃ D', e = .returned (.int .i64 (valS c s)) ∧ AcMC w W' gs b 36000000000 D' s c bv wv pv ov ∧ Known c s D' ∧ Maps.has D' (keyS s) = true) (by
    rintro e W' ⟨rfl, ho, D', a1, a2, a3, a4⟩
    have h1 : leftC c s ≤ 6 := by have := hs.ball; unfold leftC; omega
    have h2 := cntV_mono h1
    have h3 := cntV7
    exact ⟨D', rfl, hW.into ho (a1.mono (by omega)), a2, a4⟩)
  have kkeys := fun (mb : Option Nat) W => (callsIn_wide (n := 3)).1 (ch_keys Fence.wide 3 trivial rfl mb W)
  have ksrt := fun (hc : OkC c) (hs : OkS c s) (Bm b : Nat) (D : DataW Unit) (hk : Known c s D) (hh : Maps.has D (keyS s) = true) W (hB : Bm < W.heap.size) (hm : W.cell? ⟨Bm, 0, none⟩ = some (.map (some b))) (hv : Vals W b 36000000000 D) => ch_sortedFunc c hc s Bm b 36000000000 D hk hs hh hv.size_le W hB hm hv
  unfold chV at k1 kfl ⊢
  obtain ⟨A, ca, rfl, hc1, hc2⟩ := h.mdl.bat.shape
  obtain ⟨A1, ca1, rfl, hc3, hc4⟩ := h.mdl.bow.shape
  obtain ⟨A2, ca2, rfl, hc5, hc6⟩ := h.bow.shape
  obtain ⟨A3, ca3, rfl, hc7, hc8⟩ := h.ord.shape
  have HX := Lib.hid (AcRC.new w c (.slice A c.mdl.bats.length ca) (.slice A1 c.mdl.bows.length ca1) (.slice A2 c.bows.length ca2) (.slice A3 c.ord.length ca3))
  have hmm := @run_makeMap Tryz.prog
  have tok0 : True := trivial
  by_cases h0 : u = 0
  case neg =>
    have H0 := Lib.hid h0
    have eu : (u != 0) = true := by simp [h0]
    obtain ⟨s0, s1, s2, s3, s4⟩ := s
    unfold stV at k1
    dsimp only at k1
    have K1 := Lib.hid k1
    clear h0 k1 hsu h kfl kkeys ksrt hok0 h6 hbig
    go_enter Tryz.func17, Tryz.ntmps17
    go_wp2_with (clear tok0; go_at_call 22; refine (K1.out _ HX.out.bel).mono ?_; rintro e w2 ⟨rfl, hb2⟩; have HX2 := Lib.hid (HX.out.below hb2); clear hb2; have tok1 : True := trivial)
    go_ret2
    exact .inl ⟨H0.out, rfl, HX2.out.bel.trans ((Below.alloc (Below.refl _ _) (Nat.le_refl _) _).mono HX2.out.bel.size)⟩
  obtain ⟨_, hc, hs⟩ := hok0 h0
  have eu : (u != 0) = false := by simp [h0]
  have H0 := Lib.hid h0
  have KSR := Lib.hid (ksrt hc hs)
  have KKE := Lib.hid kkeys
  have kf := kfl hc hs
  have HTAB := Lib.hid (fun (D : DataW Unit) (ss l : List Cst) (hk : Known c s D) (hop : Maps.has D (keyS s) = true) (hC : CollK D (fun _ => false) ss) (hp : l.Perm ss) (hs2 : l.Pairwise fun x y => ¬ cmpS y x < 0) => keys_tab hc hs hk hop hC hp hs2)
  have HIN := Lib.hid (fun (D : DataW Unit) (ss l : List Cst) (hk : Known c s D) (hC : CollK D (fun _ => false) ss) (hp : l.Perm ss) (k : Nat) (hk2 : k < l.length) => (by
    obtain ⟨k1, _, k3⟩ := hC.has _ (hp.mem_iff.1 (List.getElem_mem hk2))
    obtain ⟨s', e1, e2, e3⟩ := hk.sub _ k1
    have e4 := key_inj k3 (e2.smol hc) e1
    rw [← e4] at e2
    exact ⟨hk.val _ e2 k1, key_of k3⟩ : D.atKey (keyS l[k]) (.lit (.int .i64 0)) = .lit (.int .i64 (valS c l[k])) ∧ keyOf Tryz.prog 30 (stV l[k]) = some (keyS l[k])))
  obtain ⟨vv, hvv⟩ : ∃ vv, vv = valS c s := ⟨_, rfl⟩
  rw [← hvv] at kf
  obtain ⟨s0, s1, s2, s3, s4⟩ := s
  unfold stV at k1 kf
  dsimp only at k1 kf
  have K1 := Lib.hid k1
  have KF := Lib.hid kf
  clear h0 k1 hsu h kfl kkeys ksrt hok0 h6 hc hs kf hvv hbig
  go_enter Tryz.func17, Tryz.ntmps17
  go_wp2_with (first
    | (clear tok0; go_at_call 22; refine (K1.out _ HX.out.bel).mono ?_; rintro e w2 ⟨rfl, hb2⟩; have HX2 := Lib.hid (HX.out.below hb2); have HM2 := Lib.hid (AcMC.new (AcC.new HX2.out ⟨s0, s1, s2, s3, s4⟩) (by simp)); obtain ⟨x0, x1, x2, x3, x4, x5, x6, g0, g1, g2, g3, g4⟩ := HM2.out.cells; clear hb2; have tok1 : True := trivial)
    | (clear tok1; go_at_call 49; refine (KF.out _ _ _ _ rfl HM2.out).mono ?_; rintro e w3 ⟨D3, rfl, hm3, hk3, hh3⟩; have HM3 := Lib.hid hm3; have HK3 := Lib.hid (And.intro hk3 hh3); clear hm3 hk3 hh3 x0 x1 x2 x3 x4 x5 x6 g0 g1 g2 g3 g4; have tok2 : True := trivial)
    | (clear tok2; go_at_call 51; refine (KKE.out _ _).mono ?_; rintro e w4 ⟨rfl, hw4⟩; have HV4 := Lib.hid (show Vals w4 (w2.heap.size + 1) 36000000000 D3 from by rw [hw4]; exact vals_below HM3.out.vals (Below.alloc (Below.refl _ _) (Nat.le_refl _) _)); have HBX := Lib.hid (show w3.heap.size < w4.heap.size ∧ w4.cell? ⟨w3.heap.size, 0, none⟩ = some (.map (some (w2.heap.size + 1))) from by rw [hw4]; exact ⟨by simp, (Blk.new w3 67 #[.map (some (w2.heap.size + 1))]).cell 0⟩); have HB4 := Lib.hid (show Below w3.heap.size w3 w4 from by rw [hw4]; exact Below.alloc (Below.refl _ _) (Nat.le_refl _) _); clear hw4; have tok3 : True := trivial)
    | (clear tok3; go_at_call 50; refine (KSR.out _ _ _ HK3.out.1 HK3.out.2 _ HBX.out.1 HBX.out.2 HV4.out).mono ?_; rintro e w5 ⟨gl, cl, l, rfl, hgl, hln, ⟨ss, hC, hp⟩, hso, hsl, hb5⟩; have HC := Lib.hid hC; have HP := Lib.hid hp; have HSO := Lib.hid hso; have HSL := Lib.hid (hsl.keep elCst_good (G := (· < w5.heap.size)) (Same.refl _ _) (fun b hb => by rw [hb]; exact hgl.2)); have HB5 := Lib.hid hb5; have HV5 := Lib.hid (vals_below HV4.out hb5); have HLN := Lib.hid hln; clear hC hp hso hsl hb5 hgl hln; have tok4 : True := trivial))
  have HL := Lib.hid (fun (k : Nat) (hk : k < l.length) => HIN.out D3 ss l HK3.out.1 HC.out HP.out k hk)
  have HTI := Lib.hid (HTAB.out D3 ss l HK3.out.1 HK3.out.2 HC.out HP.out HSO.out)
  have HT0 := Lib.hid (show TlC w5 w5 [] (.slice none 0 0) from ⟨Below.refl _ _, OwnSl.nil _⟩)
  have HBA := Lib.hid (HM3.out.r.bel.trans ((HB4.out.trans (HB5.out.mono HB4.out.size)).mono HM3.out.r.bel.size))
  have HSZ := Lib.hid (show w.heap.size ≤ w5.heap.size from HBA.out.size)
  clear HIN HTAB HC HP HSO HK3 HM3 HBX HB4 HB5 HV4 HM2 HX2 KSR KKE KF K1 hmm HX
  go_loopw [7, 27] (fun v i wr => ∃ (k : Nat) (lc : List Cve) (Ao : Option Addr) (no co : Nat), k ≤ l.length ∧ i = .int .i64 k ∧ v = .slice Ao no co ∧ Hid (TlC w5 wr lc (.slice Ao no co)) ∧ Hid (lc = (l.take k).map (entV c))) (fun _ i _ => l.length - (intOf i).toNat)
  case atStart => exact ⟨0, [], none, 0, 0, Nat.zero_le _, rfl, rfl, HT0, Lib.hid (by simp)⟩
  case round =>
    clear HT0
    obtain ⟨k, lc, Ao, no, co, hk, rfl, rfl, HT, HLC⟩ := hrel
    have hll : l.length ≤ 36000000000 := HLN.out
    have hwk : IntKind.i64.wrap ((k : Int) + 1) = (k : Int) + 1 := IntWalk.i64_in _ (by omega)
    by_cases hlt : k < l.length
    · obtain ⟨b0, o0, he0, hbl, yy⟩ := cst_at HSL.out (k := k) hlt
      obtain ⟨rfl, rfl⟩ : gl = b0 ∧ o0 = 0 := by injection he0 with h9; injection h9 with h8 h7; exact ⟨h8, h7.symm⟩
      simp only [Nat.zero_add] at yy
      obtain ⟨hat, hkey⟩ := HL.out k hlt
      have hnx : (l.take (k + 1)).map (entV c) = lc ++ [entV c l[k]] := by rw [HLC.out, List.take_add_one, List.getElem?_eq_getElem hlt, List.map_append]; rfl
      have hlcl : lc.length = k := by rw [HLC.out, List.length_map, List.length_take]; omega
      unfold entV at hnx
      obtain ⟨vv, hvv⟩ : ∃ x, x = valS c l[k] := ⟨_, rfl⟩
      rw [← hvv] at hat hnx
      obtain ⟨kst, hkst⟩ : ∃ x, x = keyS l[k] := ⟨_, rfl⟩
      rw [← hkst] at hat hkey
      obtain ⟨⟨q0, q1, q2, q3, q4⟩, hq⟩ : ∃ x, x = l[k] := ⟨_, rfl⟩
      rw [← hq] at hkey hnx
      simp only [← hq] at yy
      unfold stV at hkey
      dsimp only at hkey yy
      obtain ⟨z0, z1, z2, z3, z4⟩ := yy
      have y0 := (HT.out.bel.cell (p := ⟨gl, k * 5, none⟩) hbl).trans z0
      have y1 := (HT.out.bel.cell (p := ⟨gl, k * 5 + 1, none⟩) hbl).trans z1
      have y2 := (HT.out.bel.cell (p := ⟨gl, k * 5 + 2, none⟩) hbl).trans z2
      have y3 := (HT.out.bel.cell (p := ⟨gl, k * 5 + 3, none⟩) hbl).trans z3
      have y4 := (HT.out.bel.cell (p := ⟨gl, k * 5 + 4, none⟩) hbl).trans z4
      have HT1 := Lib.hid (HT.out.below (Below.alloc (Below.refl wr.heap.size wr) (Nat.le_refl _) (.cells #[.int .i64 q0, .int .i64 q1, .int .i64 q2, .int .i64 q3, .int .i64 q4] 30)))
      have HBK := Lib.hid (Blk.new wr 30 #[.int .i64 q0, .int .i64 q1, .int .i64 q2, .int .i64 q3, .int .i64 q4])
      have HVW := Lib.hid (vals_below HV5.out HT1.out.bel)
      have HKEY := Lib.hid hkey
      have HAT := Lib.hid hat
      have HNX := Lib.hid hnx
      have hroom : lc.length + 1 ≤ maxLen ∧ (lc.length + 1) * 48 ≤ 140737488355328 := by have := HLN.out; rw [hlcl]; simp only [maxLen]; omega
      have HROOM := Lib.hid hroom
      clear hat hkey hnx hlcl hvv hkst hq z0 z1 z2 z3 z4 he0 hroom
      go_wp2
      obtain ⟨W1, hW1⟩ : ∃ W1, W1 = wr.alloc (.cells #[.int .i64 q0, .int .i64 q1, .int .i64 q2, .int .i64 q3, .int .i64 q4] 30) := ⟨_, rfl⟩
      rw [← hW1] at HT1 HBK HVW ⊢
      clear y0 y1 y2 y3 y4 hW1
      have HTD := Lib.hid (HT1.out.below (Below.drew (Below.refl _ _)))
      have HVD := Lib.hid (vals_below HVW.out (Below.drew (Below.refl _ _)))
      obtain ⟨cc, hrun, hat2, _⟩ := HVD.out.lookup_int law44 Tryz.underlying67 Tryz.underlying2 (zero_i64 _) HKEY.out
      have hcc : cc = vv := (by have := hat2.symm.trans HAT.out; injection this with this; injection this)
      subst hcc
      clear hat2
      have HBD := Lib.hid HBK.out.drew
      have HTA := Lib.hid (((HT1.out.below (Below.alloc (Below.refl W1.heap.size W1) (Nat.le_refl _) (.cells #[.int .i64 q0, .int .i64 q1, .int .i64 q2, .int .i64 q3, .int .i64 q4, .int .i64 cc] 32))).below (Below.drew (Below.refl _ _)) : TlC w5 (W1.alloc (.cells #[.int .i64 q0, .int .i64 q1, .int .i64 q2, .int .i64 q3, .int .i64 q4, .int .i64 cc] 32)).drew lc (.slice Ao no co)))
      have HBA2 := Lib.hid ((HBK.out.alloc (.cells #[.int .i64 q0, .int .i64 q1, .int .i64 q2, .int .i64 q3, .int .i64 q4, .int .i64 cc] 32)).drew)
      have u0 : W1.drew.cell? ⟨wr.heap.size, 0, none⟩ = some (.int .i64 q0) := HBD.out.cell 0
      have u1 : W1.drew.cell? ⟨wr.heap.size, 1, none⟩ = some (.int .i64 q1) := HBD.out.cell 1
      have u2 : W1.drew.cell? ⟨wr.heap.size, 2, none⟩ = some (.int .i64 q2) := HBD.out.cell 2
      have u3 : W1.drew.cell? ⟨wr.heap.size, 3, none⟩ = some (.int .i64 q3) := HBD.out.cell 3
      have u4 : W1.drew.cell? ⟨wr.heap.size, 4, none⟩ = some (.int .i64 q4) := HBD.out.cell 4
      go_region_held3 (fun w' => w'.cell? ⟨wr.heap.size, 0, none⟩ = some (.int .i64 q0) ∧ w'.cell? ⟨wr.heap.size, 1, none⟩ = some (.int .i64 q1) ∧ w'.cell? ⟨wr.heap.size, 2, none⟩ = some (.int .i64 q2) ∧ w'.cell? ⟨wr.heap.size, 3, none⟩ = some (.int .i64 q3) ∧ w'.cell? ⟨wr.heap.size, 4, none⟩ = some (.int .i64 q4)) (first | exact ⟨u0, u1, u2, u3, u4⟩ | exact ⟨HBA2.out.cell 0, HBA2.out.cell 1, HBA2.out.cell 2, HBA2.out.cell 3, HBA2.out.cell 4⟩ | go_keep) ((refine step_append_el rfl (.tmp 31) (.tmp 37) _ rfl E_cv elCv_good _ _ lc rfl HTA.out.own ⟨W1.heap.size, 0, none⟩ 1 [.int .i64 q0, .int .i64 q1, .int .i64 q2, .int .i64 q3, .int .i64 q4, .int .i64 cc] rfl ⟨⟨q0, q1, q2, q3, q4⟩, cc⟩ rfl (fun j u hj => cells_new W1 _ _ _ j u hj) (oneCells rfl) rfl HROOM.out.1 HROOM.out.2 HTA.out.bel.size ?_; intro g6 c6 w6 hown6 hg6 hor; have HN := Lib.hid (HTA.out.app hown6 hg6); have HB6 := HBA2.out.grown hg6 (fun e => by have := (OwnSl.block HT.out.own _ e).2; omega); clear u0 u1 u2 u3 u4; have u0 := HB6.cell 0; have u1 := HB6.cell 1; have u2 := HB6.cell 2; have u3 := HB6.cell 3; have u4 := HB6.cell 4; clear hown6 hg6 hor HB6))
      all_goals go_wp2
      all_goals go_roundw
      case rel =>
        exact ⟨k + 1, lc ++ [⟨⟨q0, q1, q2, q3, q4⟩, _⟩], _, _, _, by omega, by go_num, rfl, HN, Lib.hid HNX.out.symm⟩
      case measure => simp [intOf]; omega
    · obtain rfl : k = l.length := by omega
      have hlc := HLC.out
      rw [List.take_length] at hlc
      have hti := HTI.out
      rw [← hlc] at hti
      obtain ⟨An, cn, hvn, hcn1, hcn2⟩ := (OwnSl.sl elCv_good HT.out.own).shape
      obtain ⟨rfl, rfl, rfl⟩ : Ao = An ∧ no = lc.length ∧ co = cn := by injection hvn with e1 e2 e3; exact ⟨e1, e2, e3⟩
      have HTT := Lib.hid hti
      have HLL := Lib.hid (show lc.length ≤ 36000000000 from by rw [hlc, List.length_map]; exact HLN.out)
      clear hlc hti hvn HLC hwk
      go_wp2
      go_ret2
      exact .inr ⟨H0.out, Ao, co, lc, rfl, HBA.out.trans (HT.out.bel.mono HSZ.out), HTT.out, HLL.out, own_baseC HSZ.out HT.out.own⟩
end Go.Proofs.YtdlmmbfnmnglaaaGreatDoor

namespace Go.Proofs.YtdlmmbfnmnglaaaGreatDoor
open Go.RowKit

theorem AcRC.cells {w W : World} {c : Chs} {bv wv pv ov : Value} (h : AcRC w W c bv wv pv ov) : W.cell? ⟨w.heap.size, 0, none⟩ = some bv ∧ W.cell? ⟨w.heap.size, 1, none⟩ = some wv ∧ W.cell? ⟨w.heap.size, 2, none⟩ = some pv ∧ W.cell? ⟨w.heap.size, 3, none⟩ = some (.int .i64 c.over) ∧ W.cell? ⟨w.heap.size, 4, none⟩ = some (.int .i64 c.done) ∧ W.cell? ⟨w.heap.size, 5, none⟩ = some (.int .i64 c.need) ∧ W.cell? ⟨w.heap.size, 6, none⟩ = some ov := ⟨h.box.cell 0, h.box.cell 1, h.box.cell 2, h.box.cell 3, h.box.cell 4, h.box.cell 5, h.box.cell 6⟩
theorem neq_cv (p0 p1 p2 p3 p4 vv : Int) (W : World) : (binOp .neq 32 (.agg #[.int .i64 p0, .int .i64 p1, .int .i64 p2, .int .i64 p3, .int .i64 p4, .int .i64 vv]) (.agg #[.int .i64 p0, .int .i64 p1, .int .i64 p2, .int .i64 p3, .int .i64 p4, .int .i64 vv])).run Tryz.prog W = .ok (.bool false) W := by
  simp [go_sem]
set_option maxRecDepth 100000 in
set_option maxHeartbeats 2000000 in
theorem law44_equal (l : List Cve) (v1 v2 : Value) (F1 F2 : Nat → Prop) (w : World) (h1 : Sl 6 elCv w F1 v1 l) (h2 : Sl 6 elCv w F2 v2 l) (hF1 : ∀ b, F1 b → b < w.heap.size) (hF2 : ∀ b, F2 b → b < w.heap.size) (hn : l.length ≤ 36000000000) :
    Calls Tryz.prog 18 #[v1, v2] w fun e w' => e = .returned (.bool true) ∧ Below w.heap.size w w' := by
  obtain ⟨A, c, rfl, hc, hc2⟩ := h1.shape
  obtain ⟨A1, c1, rfl, hc3, hc4⟩ := h2.shape
  have H1 := Lib.hid h1
  have H2 := Lib.hid h2
  have HF1 := Lib.hid hF1
  have HF2 := Lib.hid hF2
  have HB := Lib.hid (Below.refl w.heap.size w)
  clear h1 h2 hF1 hF2
  go_enter Tryz.func18, Tryz.ntmps18
  go_wp2
  go_loopw [13] (fun i wr => ∃ k : Nat, k ≤ l.length ∧ i = .int .i64 k ∧ Hid (Below w.heap.size w wr)) (fun i _ => l.length - (intOf i).toNat)
  case atStart => exact ⟨0, Nat.zero_le _, rfl, HB⟩
  case round =>
    clear HB
    obtain ⟨k, hk, rfl, HB⟩ := hrel
    by_cases hlt : k < l.length
    · obtain ⟨b0, o0, rfl, hb0, yy⟩ := cv_at H1.out (k := k) hlt
      obtain ⟨b1, o1, rfl, hb1, zz⟩ := cv_at H2.out (k := k) hlt
      have yy := sixC_below HB.out (HF1.out _ hb0) yy
      have zz := sixC_below HB.out (HF2.out _ hb1) zz
      obtain ⟨⟨⟨p0, p1, p2, p3, p4⟩, vv⟩, hp⟩ : ∃ x, x = l[k]'hlt := ⟨_, rfl⟩
      simp only [← hp] at yy zz
      clear hp
      obtain ⟨y0, y1, y2, y3, y4, y5⟩ := yy
      obtain ⟨z0, z1, z2, z3, z4, z5⟩ := zz
      have hcmp := fun W => neq_cv p0 p1 p2 p3 p4 vv W
      have hwk : IntKind.i64.wrap ((k : Int) + 1) = (k : Int) + 1 := IntWalk.i64_in _ (by omega)
      have HBD := Lib.hid (fun nq => (⟨HB.out.os, HB.out.tape, HB.out.output, HB.out.size, HB.out.block⟩ : Below w.heap.size w (wr.drewN nq)))
      go_wp2
      go_quiet (fail)
      go_wp2
      go_roundw
      case rel => exact ⟨k + 1, by omega, by go_num, Lib.hid (HBD.out _)⟩
      case measure => simp [intOf]; omega
    · obtain rfl : k = l.length := by omega
      go_wp2
      go_ret
      exact ⟨rfl, HB.out⟩
set_option maxRecDepth 100000 in
set_option maxHeartbeats 4000000 in
theorem law_ChaseTables (c : Chs) (bv wv pv ov : Value) (w : World) (hg : GlobN w) (h : ChAt w (· < w.heap.size) bv wv pv ov c) :
    Calls Tryz.prog 5 #[chV c bv wv pv ov] w fun e w' => e = .returned (.bool true) ∧ Below w.heap.size w w' := by
  have k1 := fun W (hW : Below w.heap.size w W) => law44_awake W (hg.below hW)
  have k2 := fun W (hW : Below w.heap.size w W) => law44_Small c _ _ _ _ W (h.below hW)
  have kt := fun (h6 : c.bows.length ≤ 6) W (hW : Below w.heap.size w W) => ch44_Table c bv wv pv ov W (h.below hW) h6
  have kr := fun (h6 : c.bows.length ≤ 6) W (hW : Below w.heap.size w W) => r44_Table c bv wv pv ov W (h.below hW) h6
  have ka := fun (v : Value) (l : List Cve) W (hW : Below w.heap.size w W) (hl : Sl 6 elCv W (· < W.heap.size) v l) (hn : l.length ≤ 1000000000000) => ch44_Accept c bv wv pv ov v l W (h.below hW) hl hn
  have hac := fun (h0 : (startC c).2 = 0) (l : List Cve) (ht : TabIsC c (startC c).1 l) => ht.accept h0
  unfold chV at k2 kt kr ka ⊢
  obtain ⟨A, ca, rfl, hc1, hc2⟩ := h.mdl.bat.shape
  obtain ⟨A1, ca1, rfl, hc3, hc4⟩ := h.mdl.bow.shape
  obtain ⟨A2, ca2, rfl, hc5, hc6⟩ := h.bow.shape
  obtain ⟨A3, ca3, rfl, hc7, hc8⟩ := h.ord.shape
  have HX0 := Lib.hid (AcRC.new w c (.slice A c.mdl.bats.length ca) (.slice A1 c.mdl.bows.length ca1) (.slice A2 c.bows.length ca2) (.slice A3 c.ord.length ca3))
  have K1 := Lib.hid k1
  have tok0 : True := trivial
  cases hs : smallC c
  · rw [hs] at k2
    have K2 := Lib.hid k2
    clear k1 k2 kt kr ka hac hs hg h
    go_enter Tryz.func5, Tryz.ntmps5
    go_wp2_with (first
      | (clear tok0; go_at_call 7; refine (K1.out _ HX0.out.bel).mono ?_; rintro e w1 ⟨rfl, hb⟩; have HX2 := Lib.hid (HX0.out.below hb); obtain ⟨x0, x1, x2, x3, x4, x5, x6⟩ := HX2.out.cells; clear hb; have tok1 : True := trivial)
      | (clear tok1; go_at_call 8; refine (K2.out _ HX2.out.bel).mono ?_; rintro e w2 ⟨rfl, hb⟩; have HX3 := Lib.hid (HX2.out.below hb); clear hb; have tok2 : True := trivial))
    go_ret
    exact ⟨rfl, HX3.out.bel⟩
  have h6 : c.bows.length ≤ 6 := by
    unfold smallC at hs
    rw [Bool.and_eq_true, Bool.not_eq_true'] at hs
    have := hs.1
    unfold bigC at this
    simp only [Bool.or_eq_false_iff, decide_eq_false_iff_not] at this
    omega
  rw [hs] at k2
  have K2 := Lib.hid k2
  have kt := kt h6
  have kr := kr h6
  unfold TabPostC at kt kr
  by_cases h0 : (startC c).2 = 0
  · obtain ⟨⟨s, u⟩, hsu⟩ : ∃ x, x = startC c := ⟨_, rfl⟩
    simp only [← hsu] at kt kr h0 hac
    have KT := Lib.hid (fun W hW => (kt W hW).mono (R' := fun e w' => ∃ A cp l, e = .returned (.tuple #[.slice A l.length cp, .int .i64 0]) ∧ Below W.heap.size W w' ∧ TabIsC c s l ∧ l.length ≤ 36000000000 ∧ Sl 6 elCv w' (· < w'.heap.size) (.slice A l.length cp) l) (by
      rintro e w' (⟨h1, _⟩ | ⟨_, A, cp, l, h2, h3, h4, h5, h6⟩)
      · exact absurd h0 h1
      · exact ⟨A, cp, l, h2, h3, h4, h5, (OwnSl.sl elCv_good h6).keep elCv_good (Same.refl _ _) fun b h => h.2⟩))
    have KR := Lib.hid (fun W hW => (kr W hW).mono (R' := fun e w' => ∃ A cp l, e = .returned (.tuple #[.slice A l.length cp, .int .i64 0]) ∧ Below W.heap.size W w' ∧ TabIsC c s l ∧ Sl 6 elCv w' (· < w'.heap.size) (.slice A l.length cp) l) (by
      rintro e w' (⟨h1, _⟩ | ⟨_, A, cp, l, h2, h3, h4, h5, h6⟩)
      · exact absurd h0 h1
      · exact ⟨A, cp, l, h2, h3, h4, (OwnSl.sl elCv_good h6).keep elCv_good (Same.refl _ _) fun b h => h.2⟩))
    have HAC := Lib.hid (hac h0)
    have KA := Lib.hid ka
    clear k1 k2 kt kr ka hac hs hg h h6 h0 hsu
    go_enter Tryz.func5, Tryz.ntmps5
    go_wp2_with (first
      | (clear tok0; go_at_call 7; refine (K1.out _ HX0.out.bel).mono ?_; rintro e w1 ⟨rfl, hb⟩; have HX2 := Lib.hid (HX0.out.below hb); obtain ⟨x0, x1, x2, x3, x4, x5, x6⟩ := HX2.out.cells; clear hb; have tok1 : True := trivial)
      | (clear tok1; go_at_call 8; refine (K2.out _ HX2.out.bel).mono ?_; rintro e w2 ⟨rfl, hb⟩; have HX3 := Lib.hid (HX2.out.below hb); clear x0 x1 x2 x3 x4 x5 x6; obtain ⟨x0, x1, x2, x3, x4, x5, x6⟩ := HX3.out.cells; clear hb; have tok2 : True := trivial)
      | (clear tok2; go_at_call 17; refine (KT.out _ HX3.out.bel).mono ?_; rintro e w3 ⟨B1, cp1, l, rfl, hb, hti, hln, hsl⟩; have HX4 := Lib.hid (HX3.out.below hb); have HTI := Lib.hid hti; have HLN := Lib.hid hln; have HS1 := Lib.hid hsl; clear x0 x1 x2 x3 x4 x5 x6; obtain ⟨x0, x1, x2, x3, x4, x5, x6⟩ := HX4.out.cells; clear hb hti hln hsl; have tok3 : True := trivial)
      | (clear tok3; go_at_call 9; refine (KR.out _ HX4.out.bel).mono ?_; rintro e w4 ⟨B2, cp2, l2, rfl, hb, hti, hsl⟩; have hll := hti.one HTI.out; subst hll; have HX5 := Lib.hid (HX4.out.below hb); have HS2 := Lib.hid hsl; have HS3 := Lib.hid (HS1.out.keep elCv_good (G := (· < w4.heap.size)) (Same.of_below hb) fun b h => Nat.lt_of_lt_of_le h hb.size); clear x0 x1 x2 x3 x4 x5 x6; obtain ⟨x0, x1, x2, x3, x4, x5, x6⟩ := HX5.out.cells; clear hb hti hsl; have tok4 : True := trivial)
      | (clear tok4; go_at_call 18; refine (law44_equal _ _ _ _ _ _ HS3.out HS2.out (fun b h => h) (fun b h => h) HLN.out).mono ?_; rintro e w5 ⟨rfl, hb⟩; have HX6 := Lib.hid (HX5.out.below hb); have HS4 := Lib.hid (HS3.out.keep elCv_good (G := (· < w5.heap.size)) (Same.of_below hb) fun b h => Nat.lt_of_lt_of_le h hb.size); clear x0 x1 x2 x3 x4 x5 x6; obtain ⟨x0, x1, x2, x3, x4, x5, x6⟩ := HX6.out.cells; clear hb; have tok5 : True := trivial)
      | (clear tok5; go_at_call 10; refine (KA.out _ _ _ HX6.out.bel HS4.out (by have := HLN.out; omega)).mono ?_; rintro e w6 ⟨rfl, hb⟩; have HX7 := Lib.hid (HX6.out.below hb); have hz := HAC.out _ HTI.out; rw [hz]; clear hb hz; have tok6 : True := trivial))
    go_ret
    exact ⟨rfl, HX7.out.bel⟩
  · obtain ⟨u, hu⟩ : ∃ x, x = (startC c).2 := ⟨_, rfl⟩
    simp only [← hu] at kt kr h0
    have KT := Lib.hid (fun W hW => (kt W hW).mono (R' := fun e w' => e = .returned (.tuple #[.slice none 0 0, .int .i64 u]) ∧ Below W.heap.size W w') (by
      rintro e w' (⟨_, h2, h3⟩ | ⟨h1, _⟩)
      · exact ⟨h2, h3⟩
      · exact absurd h1 h0))
    have KR := Lib.hid (fun W hW => (kr W hW).mono (R' := fun e w' => e = .returned (.tuple #[.slice none 0 0, .int .i64 u]) ∧ Below W.heap.size W w') (by
      rintro e w' (⟨_, h2, h3⟩ | ⟨h1, _⟩)
      · exact ⟨h2, h3⟩
      · exact absurd h1 h0))
    have eu : (u != 0) = true := by simp [h0]
    clear k1 k2 kt kr ka hac hs hg h h6 h0 hu
    go_enter Tryz.func5, Tryz.ntmps5
    go_wp2_with (first
      | (clear tok0; go_at_call 7; refine (K1.out _ HX0.out.bel).mono ?_; rintro e w1 ⟨rfl, hb⟩; have HX2 := Lib.hid (HX0.out.below hb); obtain ⟨x0, x1, x2, x3, x4, x5, x6⟩ := HX2.out.cells; clear hb; have tok1 : True := trivial)
      | (clear tok1; go_at_call 8; refine (K2.out _ HX2.out.bel).mono ?_; rintro e w2 ⟨rfl, hb⟩; have HX3 := Lib.hid (HX2.out.below hb); clear x0 x1 x2 x3 x4 x5 x6; obtain ⟨x0, x1, x2, x3, x4, x5, x6⟩ := HX3.out.cells; clear hb; have tok2 : True := trivial)
      | (clear tok2; go_at_call 17; refine (KT.out _ HX3.out.bel).mono ?_; rintro e w3 ⟨rfl, hb⟩; have HX4 := Lib.hid (HX3.out.below hb); clear x0 x1 x2 x3 x4 x5 x6; obtain ⟨x0, x1, x2, x3, x4, x5, x6⟩ := HX4.out.cells; clear hb; have tok3 : True := trivial)
      | (clear tok3; go_at_call 9; refine (KR.out _ HX4.out.bel).mono ?_; rintro e w4 ⟨rfl, hb⟩; have HX5 := Lib.hid (HX4.out.below hb); clear x0 x1 x2 x3 x4 x5 x6; obtain ⟨x0, x1, x2, x3, x4, x5, x6⟩ := HX5.out.cells; clear hb; have tok4 : True := trivial)
      | (clear tok4; go_at_call 18; refine (law44_equal [] _ _ (fun _ => False) (fun _ => False) _ (Sl.nil _ _) (Sl.nil _ _) (fun b h => h.elim) (fun b h => h.elim) (by simp)).mono ?_; rintro e w5 ⟨rfl, hb⟩; have HX6 := Lib.hid (HX5.out.below hb); clear x0 x1 x2 x3 x4 x5 x6; obtain ⟨x0, x1, x2, x3, x4, x5, x6⟩ := HX6.out.cells; clear hb; have tok5 : True := trivial))
    go_ret
    exact ⟨rfl, HX6.out.bel⟩
end Go.Proofs.YtdlmmbfnmnglaaaGreatDoor
