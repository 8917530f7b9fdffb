/- Several texts of this family in one: FG Z20 Z21 Z22 W12 Z23 Z24 Y5 Y6 Y9 P82 Z3 P83 Y4 V4 Y7. -/
import Derived.Test.YtdlmmbfnmnglaaaGreatDoorGA0
import Derived.Test.YtdlmmbfnmnglaaaGreatDoorGA3
import Derived.Test.YtdlmmbfnmnglaaaGreatDoorGA1
import Derived.DeepKeys5
import Derived.Maps.OwnSet
set_option linter.unusedSimpArgs false
set_option linter.unusedVariables false
namespace Go.Proofs.YtdlmmbfnmnglaaaGreatDoor
open Go.RowKit

/-! A region that draws its order, some of whose operations are not wanted. -/
structure FreeG (P : Program) (ops : Array Oper) (V : Tab) (G : World → Prop) (needs : Nat → List Nat) (init : List Nat) (N : Nat) : Prop where
  back : ∀ (i : Nat) (o : Oper), ops[i]? = some o → ∀ e ∈ o.after, e.on < i
  dst : ∀ (i : Nat) (o : Oper), ops[i]? = some o → ∃ d, o.dst = some d ∧ d < N
  need : ∀ (i : Nat) (o : Oper), ops[i]? = some o → ∀ d ∈ needs i, d ∈ init ∨ ∃ e ∈ o.after, Region.binds .any e = true ∧ ∃ p, ops[e.on]? = some p ∧ p.dst = some d
  sV : ∀ d w w' v, V d w v → Below w.heap.size w w' → V d w' v
  sG : ∀ w w', G w → Below w.heap.size w w' → G w'
  step : ∀ (i : Nat) (o : Oper), ops[i]? = some o → ∀ a w, G w → (∀ x ∈ needs i, Holds V a w x) → (Region.wanted o (yielded ops a.tmps) = true ∧ Meets P V o a w) ∨ (Region.wanted o (yielded ops a.tmps) = false ∧ ∀ d, o.dst = some d → V d w undef)
section
variable {P : Program} {ops : Array Oper} {V : Tab} {G : World → Prop} {needs : Nat → List Nat} {init : List Nat} {N : Nat} {Q : Exit → Act → World → Prop} {a0 : Act} {w0 : World}
theorem all_listedG (hback : ∀ (i : Nat) (o : Oper), ops[i]? = some o → ∀ e ∈ o.after, e.on < i) {listed : Array Bool} (hr : Region.ready .any ops listed = []) (hsz : listed.size = ops.size) : ∀ i, i < ops.size → listed.getD i false = true := by
  intro i
  induction i using Nat.strongRecOn with
  | ind i ih =>
    intro hi
    cases hl : listed.getD i false with
    | true => rfl
    | false =>
      exfalso
      have h2 : listed.getD i true = false := by
        have hlt : i < listed.size := by omega
        simp [hlt] at hl ⊢; exact hl
      have ho : ops[i]? = some ops[i] := Array.getElem?_eq_getElem hi
      have : i ∈ Region.ready .any ops listed := mem_ready.2 ⟨h2, _, ho, fun e he _ => ih e.on (hback i _ ho e he) (by have := hback i _ ho e he; omega)⟩
      rw [hr] at this
      cases this
theorem wpAny_freeG (hF : FreeG P ops V G needs init N) (hN : N ≤ a0.tmps.size) (fin : ∀ a w, RIn ops V G init a0 w0 (Array.replicate ops.size true) a w → Q .normal a w) :
    ∀ (fuel : Nat) (listed : Array Bool) (a : Act) (w : World), listed.size = ops.size → listed.toList.count false ≤ fuel → RIn ops V G init a0 w0 listed a w → wpAny P .any ops Q fuel listed a w := by
  have hfin : ∀ (listed : Array Bool) (a : Act) (w : World), listed.size = ops.size → Region.ready .any ops listed = [] → RIn ops V G init a0 w0 listed a w → Q .normal a w := by
    intro listed a w hsz hr h
    refine fin a w ⟨h.size, h.dfr, h.g, h.below, h.ini, fun i o d ho _ hd => h.done i o d ho (all_listedG hF.back hr hsz i (Array.getElem?_eq_some_iff.1 ho).1) hd, h.keep⟩
  intro fuel
  induction fuel with
  | zero =>
    intro listed a w hsz hc h
    have hr : Region.ready .any ops listed = [] := by
      cases hr : Region.ready .any ops listed with
      | nil => rfl
      | cons j t =>
        exfalso
        have hj : j ∈ Region.ready .any ops listed := by rw [hr]; simp
        obtain ⟨h1, o, ho, _⟩ := mem_ready.1 hj
        have hlt : j < listed.size := by have := (Array.getElem?_eq_some_iff.1 ho).1; omega
        have h2 : listed[j]? = some false := by
          rw [Array.getElem?_eq_getElem hlt]; simp [hlt] at h1; rw [h1]
        have : false ∈ listed.toList := Array.mem_toList_iff.2 (Array.mem_of_getElem? h2)
        have := List.count_pos_iff.2 this
        omega
    exact ⟨hr, hfin listed a w hsz hr h⟩
  | succ fuel ih =>
    intro listed a w hsz hc h
    refine ⟨fun hr => hfin listed a w hsz hr h, fun i hi => ?_⟩
    obtain ⟨h1, o, ho, hall⟩ := mem_ready.1 hi
    obtain ⟨d, hd, hdN⟩ := hF.dst i o ho
    have hlt : i < listed.size := by have := (Array.getElem?_eq_some_iff.1 ho).1; omega
    have h2 : listed[i]? = some false := by
      rw [Array.getElem?_eq_getElem hlt]; simp [hlt] at h1; rw [h1]
    have hcnt := count_set listed.toList i (by rw [Array.getElem?_toList]; exact h2)
    have hneeds : ∀ x ∈ needs i, Holds V a w x := fun x hx => by
      rcases hF.need i o ho x hx with hx | ⟨e, he, hbi, p, hp, hpd⟩
      · exact h.ini x hx
      · exact h.done e.on p x hp (hall e he hbi) hpd
    have go : ∀ v w', Below w.heap.size w w' → V d w' v → wpAny P .any ops Q fuel (listed.setIfInBounds i true) (a.put o.dst v) w' := fun v w' hb hv => by
      rw [hd]
      refine ih _ _ _ (by simpa using hsz) (by rw [Array.toList_setIfInBounds]; omega) ⟨by unfold Act.put; simpa using h.size, h.dfr, hF.sG _ _ h.g hb, h.below.trans (hb.mono h.below.size), fun x hx => (h.ini x hx).put hF.sV hb hv, fun j p x hj hl hx => ?_, fun k hk => ?_⟩
      · by_cases hji : j = i
        · subst hji
          rw [ho] at hj; obtain rfl := Option.some.inj hj
          have hdx : d = x := Option.some.inj (hd.symm.trans hx)
          subst hdx
          refine ⟨v, ?_, hv⟩
          rw [put_get, if_pos ⟨rfl, by rw [h.size]; exact Nat.lt_of_lt_of_le hdN hN⟩]
        · have hl' : listed.getD j false = true := by rw [getD_set_ne false (Ne.symm hji)] at hl; exact hl
          exact (h.done j p x hj hl' hx).put hF.sV hb hv
      · rw [put_get, if_neg (fun hc => hk i o ho (by rw [hd, hc.1]))]
        exact h.keep k hk
    unfold wpOp
    rw [ho]
    dsimp only
    rcases hF.step i o ho a w h.g hneeds with ⟨hw, hm⟩ | ⟨hw, hm⟩
    · rw [hw, if_pos rfl]
      exact .inl (hm d hd _ _ go)
    · rw [hw, if_neg (by simp)]
      exact go undef w (Below.refl _ _) (hm d hd)
theorem wp_region_freeG {ops' : Array Oper} {id : Nat} (he : ops = ops') (hm : P.follows .mixedOrders = true) (hF : FreeG P ops' V G needs init N) (hN : N ≤ a0.tmps.size) (hG : G w0) (hini : ∀ d ∈ init, Holds V a0 w0 d)
    (fin : ∀ a w, RIn ops' V G init a0 w0 (Array.replicate ops'.size true) a w → Q .normal a w) : (Code.region id ops true).wp P Q a0 w0 := by
  subst he
  have hb : Below w0.heap.size w0 { w0 with drawn := w0.drawn + 1 } := Below.drew (Below.refl _ _)
  refine wp_region_any hm (wpAny_freeG hF hN fin _ _ _ _ (by simp) (by simp) ⟨rfl, rfl, hF.sG _ _ hG hb, hb, fun d hd => ?_, fun i o d ho hl => ?_, fun _ _ => rfl⟩)
  · obtain ⟨v, h1, h2⟩ := hini d hd
    exact ⟨v, h1, hF.sV _ _ _ _ h2 hb⟩
  · exfalso
    have hlt := (Array.getElem?_eq_some_iff.1 ho).1
    simp [hlt] at hl
end
/-- The operations of a region of a function's text. -/
def findR6 (n : Nat) : Code → Option (Array Oper)
  | .region id ops _ => if id = n then some ops else none
  | .seq a b => match findR6 n a with
    | some x => some x
    | none => findR6 n b
  | .cond _ a b => match findR6 n a with
    | some x => some x
    | none => findR6 n b
  | .block _ c => findR6 n c
  | .loop c => findR6 n c
  | .scope c => findR6 n c
  | _ => none
def backG (ops : Array Oper) : Bool := (List.range ops.size).all fun i => match ops[i]? with
  | some o => o.after.toList.all fun e => decide (e.on < i)
  | none => true
def dstG (ops : Array Oper) (N : Nat) : Bool := (List.range ops.size).all fun i => match ops[i]? with
  | some o => (match o.dst with | some d => decide (d < N) | none => false)
  | none => true
def needG (ops : Array Oper) (needs : List (List Nat)) (init : List Nat) : Bool := (List.range ops.size).all fun i => match ops[i]? with
  | some o => (needs.getD i []).all fun d => init.contains d || o.after.toList.any fun e => Region.binds .any e && (match ops[e.on]? with | some p => p.dst == some d | none => false)
  | none => true
theorem backG_of {ops : Array Oper} (h : backG ops = true) : ∀ (i : Nat) (o : Oper), ops[i]? = some o → ∀ e ∈ o.after, e.on < i := by
  intro i o ho e he
  have := List.all_eq_true.1 h i (List.mem_range.2 (Array.getElem?_eq_some_iff.1 ho).1)
  rw [ho] at this
  exact of_decide_eq_true (List.all_eq_true.1 this e (Array.mem_toList_iff.2 he))
theorem dstG_of {ops : Array Oper} {N : Nat} (h : dstG ops N = true) : ∀ (i : Nat) (o : Oper), ops[i]? = some o → ∃ d, o.dst = some d ∧ d < N := by
  intro i o ho
  have h2 := List.all_eq_true.1 h i (List.mem_range.2 (Array.getElem?_eq_some_iff.1 ho).1)
  rw [ho] at h2
  dsimp only at h2
  cases hd : o.dst with
  | none => rw [hd] at h2; cases h2
  | some d => rw [hd] at h2; exact ⟨d, rfl, of_decide_eq_true h2⟩
theorem needG_of {ops : Array Oper} {needs : List (List Nat)} {init : List Nat} (h : needG ops needs init = true) : ∀ (i : Nat) (o : Oper), ops[i]? = some o → ∀ d ∈ needs.getD i [], d ∈ init ∨ ∃ e ∈ o.after, Region.binds .any e = true ∧ ∃ p, ops[e.on]? = some p ∧ p.dst = some d := by
  intro i o ho d hd
  have := List.all_eq_true.1 h i (List.mem_range.2 (Array.getElem?_eq_some_iff.1 ho).1)
  rw [ho] at this
  have := List.all_eq_true.1 this d hd
  rcases Bool.or_eq_true_iff.1 this with h1 | h1
  · exact .inl (by simpa using h1)
  · obtain ⟨e, he, h2⟩ := List.any_eq_true.1 h1
    rw [Bool.and_eq_true] at h2
    refine .inr ⟨e, Array.mem_toList_iff.1 he, h2.1, ?_⟩
    cases hp : ops[e.on]? with
    | none => rw [hp] at h2; cases h2.2
    | some p => rw [hp] at h2; exact ⟨p, rfl, by simpa using h2.2⟩
theorem opG_of {ops : Array Oper} {i : Nat} {o : Oper} {x : Op} {d : Option Tmp} (h : (ops[i]?).map (fun o => (o.op, o.dst)) = some (x, d)) (ho : ops[i]? = some o) : o.op = x ∧ o.dst = d := by
  rw [ho] at h
  simpa using h
theorem free_not {ops : Array Oper} {o : Oper} (h : o.guard = none) {t : Array Value} : Region.wanted o (yielded ops t) = true := by unfold Region.wanted; rw [h]
theorem RIn.atG {ops : Array Oper} {V : Tab} {G : World → Prop} {init : List Nat} {a0 a : Act} {w0 w : World} (h : RIn ops V G init a0 w0 (Array.replicate ops.size true) a w) (i d : Nat) (hd : (ops[i]?).bind (·.dst) = some d) : Holds V a w d := by
  cases ho : ops[i]? with
  | none => rw [ho] at hd; cases hd
  | some o =>
    rw [ho] at hd
    have hlt := (Array.getElem?_eq_some_iff.1 ho).1
    exact h.done i o d ho (by simp [hlt]) hd
theorem listG_cons {α : Type} {n : Nat} {l : List α} (h : l.length = n + 1) : ∃ x t, l = x :: t ∧ t.length = n := by
  cases l with
  | nil => simp at h
  | cons x t => exact ⟨x, t, rfl, by simpa using h⟩
theorem guardG_of {ops : Array Oper} {i : Nat} {o : Oper} (h : (ops[i]?).map (·.guard) = some none) (ho : ops[i]? = some o) : o.guard = none := by
  rw [ho] at h
  simpa using h
/-- What a list of slots says. -/
def tabV (tab : List (Nat × Value)) : Tab := fun d _ v => v = (tab.lookup d).getD undef
theorem fg_tmp {tab : List (Nat × Value)} {a : Act} {w : World} {l : List Nat} (d : Nat) (v : Value) (hn : ∀ x ∈ l, Holds (tabV tab) a w x) (hd : l.contains d = true) (hv : (tab.lookup d).getD undef = v) : a.tmps[d]? = some v := by
  obtain ⟨u, h1, h2⟩ := hn d (by simpa using hd)
  have h2 : u = _ := h2
  rw [h1, h2, hv]
theorem fg_val {tab : List (Nat × Value)} {a : Act} {w : World} {l : List Nat} (d : Nat) (v : Value) (hn : ∀ x ∈ l, Holds (tabV tab) a w x) (hd : l.contains d = true) (hv : (tab.lookup d).getD undef = v) : a.eval (.tmp d) = v :=
  eval_tmp (fg_tmp d v hn hd hv)
theorem fg_put {tab : List (Nat × Value)} {w : World} {o : Oper} {d0 : Nat} {v : Value} (hd : o.dst = some d0) (hv : v = (tab.lookup d0).getD undef) : ∀ d, o.dst = some d → tabV tab d w v := by
  intro d h
  rw [hd] at h
  obtain rfl := Option.some.inj h
  exact hv
theorem guard_at {ops : Array Oper} {i j d : Nat} {o : Oper} {b b' : Bool} {a : Act} (hg : (ops[i]?).map (·.guard) = some (some (j, b))) (hj : (ops[j]?).bind (·.dst) = some d) (ho : ops[i]? = some o) (hv : a.tmps[d]? = some (.bool b')) : Region.wanted o (yielded ops a.tmps) = (b' == b) := by
  rw [ho] at hg
  have hg : o.guard = some (j, b) := by simpa using hg
  unfold Region.wanted
  rw [hg]
  have h3 : yielded ops a.tmps j = some b' := by
    unfold yielded
    rw [hj]
    show (match (some d).bind (a.tmps[·]?) with | some (.bool b) => some b | _ => none) = some b'
    rw [Option.bind_some, hv]
  dsimp only
  rw [h3]
  cases b <;> cases b' <;> rfl
theorem guard_un {ops : Array Oper} {i j d : Nat} {o : Oper} {b : Bool} {a : Act} (hg : (ops[i]?).map (·.guard) = some (some (j, b))) (hj : (ops[j]?).bind (·.dst) = some d) (ho : ops[i]? = some o) (hv : a.tmps[d]? = some undef) : Region.wanted o (yielded ops a.tmps) = false := by
  rw [ho] at hg
  have hg : o.guard = some (j, b) := by simpa using hg
  unfold Region.wanted
  rw [hg]
  have h3 : yielded ops a.tmps j = none := by
    unfold yielded
    rw [hj]
    show (match (some d).bind (a.tmps[·]?) with | some (.bool b) => some b | _ => none) = none
    rw [Option.bind_some, hv]
    rfl
  dsimp only
  rw [h3]
  cases b <;> rfl
/-- The frame with some slots put anew. -/
def updM : List (Option Value) → List Value → List Value
  | none :: m, x :: l => x :: updM m l
  | some v :: m, _ :: l => v :: updM m l
  | _, _ => []
theorem updM_get : ∀ (m : List (Option Value)) (l : List Value) (i : Nat), m.length = l.length → (updM m l)[i]? = (l[i]?).map fun x => ((m[i]?).getD none).getD x
  | [], [], _, _ => by simp [updM]
  | none :: m, x :: l, 0, _ => by simp [updM]
  | some v :: m, x :: l, 0, _ => by simp [updM]
  | none :: m, x :: l, i + 1, h => by
    rw [updM, List.getElem?_cons_succ, List.getElem?_cons_succ, List.getElem?_cons_succ, updM_get m l i (by simpa using h)]
  | some v :: m, x :: l, i + 1, h => by
    rw [updM, List.getElem?_cons_succ, List.getElem?_cons_succ, List.getElem?_cons_succ, updM_get m l i (by simpa using h)]
  | [], _ :: _, _, h => by simp at h
  | _ :: _, [], _, h => by simp at h
def maskOf (tab : List (Nat × Value)) (dl : List Nat) : Nat → Nat → List (Option Value)
  | _, 0 => []
  | k, n + 1 => (bif dl.contains k then some ((tab.lookup k).getD undef) else none) :: maskOf tab dl (k + 1) n
theorem maskOf_len (tab : List (Nat × Value)) (dl : List Nat) : ∀ n k, (maskOf tab dl k n).length = n
  | 0, _ => rfl
  | n + 1, k => by rw [maskOf, List.length_cons, maskOf_len tab dl n]
theorem maskOf_get (tab : List (Nat × Value)) (dl : List Nat) : ∀ (n k i : Nat), i < n → (maskOf tab dl k n)[i]? = some (bif dl.contains (k + i) then some ((tab.lookup (k + i)).getD undef) else none)
  | 0, _, _, h => by omega
  | n + 1, k, 0, _ => by rw [maskOf]; simp
  | n + 1, k, i + 1, h => by rw [maskOf, List.getElem?_cons_succ, maskOf_get tab dl n (k + 1) i (by omega), show k + 1 + i = k + (i + 1) by omega]
def dstIn (ops : Array Oper) (dl : List Nat) : Bool := ops.toList.all (fun o => match o.dst with | some d => dl.contains d | none => true) && dl.all fun d => ops.toList.any fun o => o.dst == some d
theorem wp_region_freeF {P : Program} {ops ops' : Array Oper} {tab : List (Nat × Value)} {dl : List Nat} {mask : List (Option Value)} {G : World → Prop} {needs : Nat → List Nat} {init : List Nat} {N id : Nat} {Q : Exit → Act → World → Prop} {l T : List Value} {df : List Deferred} {w0 : World}
    (he : ops = ops') (hm : P.follows .mixedOrders = true) (hF : FreeG P ops' (tabV tab) G needs init N) (hN : l.length = N) (hdl : dstIn ops' dl = true) (hmk : mask = maskOf tab dl 0 N) (hG : G w0) (hini : ∀ d ∈ init, l[d]? = some ((tab.lookup d).getD undef))
    (hT : updM mask l = T) (fin : ∀ w, G w → Below w0.heap.size w0 w → Q .normal ⟨T.toArray, df⟩ w) : (Code.region id ops true).wp P Q ⟨l.toArray, df⟩ w0 := by
  refine wp_region_freeG he hm hF (by simp [hN]) hG (fun d hd => ⟨_, by simpa using hini d hd, rfl⟩) fun a w hin => ?_
  have hdf : a.defers = df := hin.dfr
  have hta : a.tmps = T.toArray := by
    have hsz : a.tmps.size = l.length := by simpa using hin.size
    refine Array.ext_getElem? fun k => ?_
    have hml : mask.length = l.length := by rw [hmk, maskOf_len, hN]
    have eT : T.toArray[k]? = T[k]? := by simp
    rw [eT, ← hT, updM_get _ _ _ hml]
    unfold dstIn at hdl
    rw [Bool.and_eq_true] at hdl
    rcases Nat.lt_or_ge k l.length with hlt | hge
    · have hmg : mask[k]? = some (bif dl.contains k then some ((tab.lookup k).getD undef) else none) := by rw [hmk, maskOf_get _ _ _ _ _ (by omega), Nat.zero_add]
      rw [hmg, List.getElem?_eq_getElem hlt]
      cases hc : dl.contains k
      · have hk := hin.keep k fun i o ho e => by
          have h1 := List.all_eq_true.1 hdl.1 o (Array.mem_toList_iff.2 (Array.mem_of_getElem? ho))
          rw [e] at h1
          dsimp only at h1
          rw [hc] at h1; cases h1
        have el : l.toArray[k]? = l[k]? := by simp
        rw [hk]
        show l.toArray[k]? = _
        rw [el, List.getElem?_eq_getElem hlt]
        rfl
      · have h1 := List.all_eq_true.1 hdl.2 k (by simpa using hc)
        obtain ⟨o, ho, h2⟩ := List.any_eq_true.1 h1
        have h2 : o.dst = some k := by simpa using h2
        obtain ⟨i, hi⟩ := List.mem_iff_getElem?.1 ho
        rw [Array.getElem?_toList] at hi
        obtain ⟨v, h3, h4⟩ := hin.atG i k (by rw [hi]; exact h2)
        have h4 : v = _ := h4
        rw [h3, h4]
        rfl
    · rw [Array.getElem?_eq_none (by omega), (List.getElem?_eq_none hge : l[k]? = none)]
      rfl
  obtain ⟨tm, df'⟩ := a
  dsimp only at hdf hta
  subst hdf hta
  exact fin w hin.g hin.below
end Go.Proofs.YtdlmmbfnmnglaaaGreatDoor

namespace Go.Proofs.YtdlmmbfnmnglaaaGreatDoor
open Go.RowKit

def orL : List Int → Int
  | [] => 0
  | a :: l => if a = 0 then orL l else a
def cmpO (s t : Ost) : Int := orL [cmpI s.ball t.ball, cmpI s.need t.need, cmpI s.str t.str, cmpI s.par t.par, cmpI s.wait t.wait]
set_option maxRecDepth 100000 in
theorem nan_u16 (a : Int) (w : World) : Calls Tryz.prog 123 #[.int .u16 a] w fun e w' => e = .returned (.bool false) ∧ w = w' := by
  have e1 : (a != a) = false := by simp
  go_enter Tryz.func123, Tryz.ntmps123
  go_wp2
  go_ret
  exact ⟨rfl, rfl⟩
set_option maxRecDepth 100000 in
set_option maxHeartbeats 1000000 in
theorem cmp_u16E (a b : Int) (w : World) : Calls Tryz.prog 83 #[.int .u16 a, .int .u16 b] w fun e w' => e = .returned (.int .i64 (cmpI a b)) ∧ w = w' := by
  unfold cmpI
  by_cases h1 : a < b
  · rw [if_pos h1]
    go_enter Tryz.func83, Tryz.ntmps83
    go_wp2_with (go_at_call 123; refine (nan_u16 _ _).mono ?_; rintro e w2 ⟨rfl, rfl⟩)
    go_ret
    exact ⟨rfl, rfl⟩
  · rw [if_neg h1]
    by_cases h2 : b < a
    · rw [if_pos h2]
      go_enter Tryz.func83, Tryz.ntmps83
      go_wp2_with (go_at_call 123; refine (nan_u16 _ _).mono ?_; rintro e w2 ⟨rfl, rfl⟩)
      go_ret
      exact ⟨rfl, rfl⟩
    · rw [if_neg h2]
      go_enter Tryz.func83, Tryz.ntmps83
      go_wp2_with (go_at_call 123; refine (nan_u16 _ _).mono ?_; rintro e w2 ⟨rfl, rfl⟩)
      go_ret
      exact ⟨rfl, rfl⟩
set_option maxRecDepth 100000 in
set_option maxHeartbeats 1000000 in
theorem cmp_Or (l : List Int) (v : Value) (F : Nat → Prop) (w : World) (h : Sl 1 elInt w F v l) (hF : ∀ b, F b → b < w.heap.size) : Calls Tryz.prog 69 #[v] w fun e w' => e = .returned (.int .i64 (orL l)) ∧ Below w.heap.size w w' := by
  obtain ⟨z, hz⟩ : ∃ z, z = orL l := ⟨_, rfl⟩
  rw [← hz]
  obtain ⟨A, c, rfl, hc, hc2⟩ := h.shape
  have HZ : Hid (z = orL (l.drop 0)) := hz
  have HL := Lib.hid h
  have HB := Lib.hid (Below.refl w.heap.size w)
  have HF := Lib.hid hF
  clear hz h hF
  go_enter Tryz.func69, Tryz.ntmps69
  go_wp2
  go_loopw [8] (fun i wr => ∃ k : Nat, k ≤ l.length ∧ i = .int .i64 k ∧ Below w.heap.size w wr ∧ Hid (z = orL (l.drop k))) (fun i _ => l.length - (intOf i).toNat)
  case atStart => exact ⟨0, Nat.zero_le _, rfl, HB.out, HZ⟩
  case round =>
    obtain ⟨k, hk, rfl, hb, hzz⟩ := hrel
    have HBB := Lib.hid hb
    by_cases hlt : k < l.length
    · obtain ⟨b0, o, rfl, hbl, yy0⟩ := int_at HL.out hlt
      have y0 := (hb.cell (p := ⟨b0, o + k, none⟩) (HF.out _ hbl)).trans yy0
      have hz2 := hzz.out
      rw [drop_get hlt, orL] at hz2
      obtain ⟨p, hp⟩ : ∃ p, p = l[k] := ⟨_, rfl⟩
      rw [← hp] at hz2 y0
      clear hb hzz hp yy0
      by_cases hin : p = 0
      · rw [if_pos hin] at hz2
        have e1 : (p != 0) = false := by simp [hin]
        have HZZ := Lib.hid hz2
        clear hz2 hin
        go_wp2
        go_roundw
        case rel => exact ⟨k + 1, by omega, by go_num, HBB.out, HZZ⟩
        case measure => simp [intOf]; omega
      · rw [if_neg hin] at hz2
        have e1 : (p != 0) = true := by simp [hin]
        have HZZ := Lib.hid hz2
        clear hz2 hin
        go_wp2
        go_ret
        exact ⟨ret_i HZZ.out.symm, HBB.out⟩
    · obtain rfl : k = l.length := by omega
      have hz2 := hzz.out
      rw [List.drop_of_length_le (Nat.le_refl _), orL] at hz2
      have HZZ := Lib.hid hz2
      clear hb hzz hz2
      go_wp2
      go_ret
      exact ⟨ret_i HZZ.out.symm, HBB.out⟩
noncomputable def coOps : Array Oper := ((Tryz.f41.body).bind (findR6 1)).getD #[]
def coNeeds : List (List Nat) := [[2], [5], [3], [7], [6, 8], [2], [10], [3], [12], [11, 13], [2], [15], [3], [17], [16, 18], [2], [20], [3], [22], [21, 23], [2], [25], [3], [27], [26, 28], [9, 14, 19, 24, 29], [30], [31]]
def coTab (s t : Ost) (g d : Nat) : Value := (([(2, .pointer (some ⟨g, 0, none⟩)), (3, .pointer (some ⟨g + 1, 0, none⟩)), (5, .pointer (some ⟨g, 0, none⟩)), (6, .int .i64 s.ball), (7, .pointer (some ⟨g + 1, 0, none⟩)), (8, .int .i64 t.ball), (9, .int .i64 (cmpI s.ball t.ball)), (10, .pointer (some ⟨g, 1, none⟩)), (11, .int .i64 s.need), (12, .pointer (some ⟨g + 1, 1, none⟩)), (13, .int .i64 t.need), (14, .int .i64 (cmpI s.need t.need)), (15, .pointer (some ⟨g, 2, none⟩)), (16, .int .i64 s.str), (17, .pointer (some ⟨g + 1, 2, none⟩)), (18, .int .i64 t.str), (19, .int .i64 (cmpI s.str t.str)), (20, .pointer (some ⟨g, 3, none⟩)), (21, .int .i64 s.par), (22, .pointer (some ⟨g + 1, 3, none⟩)), (23, .int .i64 t.par), (24, .int .i64 (cmpI s.par t.par)), (25, .pointer (some ⟨g, 4, none⟩)), (26, .int .u16 s.wait), (27, .pointer (some ⟨g + 1, 4, none⟩)), (28, .int .u16 t.wait), (29, .int .i64 (cmpI s.wait t.wait)), (31, .int .i64 (cmpO s t)), (4, .int .i64 (cmpO s t))] : List (Nat × Value)).lookup d).getD undef
def coV (s t : Ost) (g : Nat) : Tab := fun d w v => if d = 30 then Sl 1 elInt w (· < w.heap.size) v [cmpI s.ball t.ball, cmpI s.need t.need, cmpI s.str t.str, cmpI s.par t.par, cmpI s.wait t.wait] else v = coTab s t g d
theorem co_size : coOps.size = 28 := by kernel_rfl
theorem co_val {s t : Ost} {g : Nat} {a : Act} {w : World} (d : Nat) (v : Value) {l : List Nat} (hn : ∀ x ∈ l, Holds (coV s t g) a w x) (hd : d ∈ l) (h30 : d ≠ 30) (hv : coTab s t g d = v) : a.eval (.tmp d) = v := by
  obtain ⟨u, h1, h2⟩ := hn d hd
  unfold coV at h2
  rw [if_neg h30] at h2
  subst h2
  rw [← hv]; exact eval_tmp h1
theorem co_put {s t : Ost} {g : Nat} {w : World} {o : Oper} {d0 : Nat} {v : Value} (hd : o.dst = some d0) (h30 : d0 ≠ 30) (hv : v = coTab s t g d0) : ∀ d, o.dst = some d → coV s t g d w v := by
  intro d h
  rw [hd] at h
  obtain rfl := Option.some.inj h
  unfold coV
  rw [if_neg h30]; exact hv
theorem ints_five (w : World) (x0 x1 x2 x3 x4 : Int) : Sl 1 elInt (w.alloc (.cells #[.int .i64 x0, .int .i64 x1, .int .i64 x2, .int .i64 x3, .int .i64 x4] 3)) (· < (w.alloc (.cells #[.int .i64 x0, .int .i64 x1, .int .i64 x2, .int .i64 x3, .int .i64 x4] 3)).heap.size) (.slice (some ⟨w.heap.size, 0, none⟩) 5 5) [x0, x1, x2, x3, x4] := by
  have hk := Blk.new w 3 #[.int .i64 x0, .int .i64 x1, .int .i64 x2, .int .i64 x3, .int .i64 x4]
  refine ⟨_, 5, rfl, Nat.le_refl _, by decide, fun h0 => ⟨w.heap.size, 0, rfl, by simp, fun i x hi => ?_⟩⟩
  have hlt := (List.getElem?_eq_some_iff.1 hi).1
  have hc : i = 0 ∨ i = 1 ∨ i = 2 ∨ i = 3 ∨ i = 4 := by simp at hlt; omega
  rcases hc with rfl | rfl | rfl | rfl | rfl
  · simp at hi; subst hi
    refine ⟨[.int .i64 x0], rfl, fun j u hu => ?_, rfl⟩
    obtain rfl : j = 0 := by have := (List.getElem?_eq_some_iff.1 hu).1; simp at this; omega
    simp at hu; subst hu; exact hk.cell 0
  · simp at hi; subst hi
    refine ⟨[.int .i64 x1], rfl, fun j u hu => ?_, rfl⟩
    obtain rfl : j = 0 := by have := (List.getElem?_eq_some_iff.1 hu).1; simp at this; omega
    simp at hu; subst hu; exact hk.cell 1
  · simp at hi; subst hi
    refine ⟨[.int .i64 x2], rfl, fun j u hu => ?_, rfl⟩
    obtain rfl : j = 0 := by have := (List.getElem?_eq_some_iff.1 hu).1; simp at this; omega
    simp at hu; subst hu; exact hk.cell 2
  · simp at hi; subst hi
    refine ⟨[.int .i64 x3], rfl, fun j u hu => ?_, rfl⟩
    obtain rfl : j = 0 := by have := (List.getElem?_eq_some_iff.1 hu).1; simp at this; omega
    simp at hu; subst hu; exact hk.cell 3
  · simp at hi; subst hi
    refine ⟨[.int .i64 x4], rfl, fun j u hu => ?_, rfl⟩
    obtain rfl : j = 0 := by have := (List.getElem?_eq_some_iff.1 hu).1; simp at this; omega
    simp at hu; subst hu; exact hk.cell 4
theorem bi_5 (w : World) (x0 x1 x2 x3 x4 : Int) : (Instr.buildSlice 26 5 #[(0, .int .i64 x0), (1, .int .i64 x1), (2, .int .i64 x2), (3, .int .i64 x3), (4, .int .i64 x4)]).run Tryz.prog w = .ok (.slice (some ⟨w.heap.size, 0, none⟩) 5 5) (w.alloc (.cells #[.int .i64 x0, .int .i64 x1, .int .i64 x2, .int .i64 x3, .int .i64 x4] 3)) := by kernel_rfl
set_option maxRecDepth 100000 in
set_option maxHeartbeats 2000000 in
theorem co_free (s t : Ost) (w : World) :
    FreeG Tryz.prog coOps (coV s t w.heap.size) (fun W => Below w.heap.size w W ∧ Blk W w.heap.size 45 #[.int .i64 s.ball, .int .i64 s.need, .int .i64 s.str, .int .i64 s.par, .int .u16 s.wait] ∧ Blk W (w.heap.size + 1) 45 #[.int .i64 t.ball, .int .i64 t.need, .int .i64 t.str, .int .i64 t.par, .int .u16 t.wait]) (fun i => coNeeds.getD i []) [2, 3] 32 := by
  refine ⟨backG_of (by kernel_rfl), dstG_of (by kernel_rfl), needG_of (by kernel_rfl), fun d w1 w2 v h hb => ?_, fun W W' h hb => ⟨h.1.trans (hb.mono h.1.size), h.2.1.below hb h.2.1.lt, h.2.2.below hb h.2.2.lt⟩, ?_⟩
  · unfold coV at h ⊢
    by_cases hd : d = 30
    · rw [if_pos hd] at h ⊢
      exact h.keep elInt_good (Same.of_below hb) fun b hb2 => Nat.lt_of_lt_of_le hb2 hb.size
    · rw [if_neg hd] at h ⊢
      exact h
  intro i o ho a W hG hn
  have hlt : i < 28 := by rw [← co_size]; exact (Array.getElem?_eq_some_iff.1 ho).1
  have hcase : i = 0 ∨ i = 1 ∨ i = 2 ∨ i = 3 ∨ i = 4 ∨ i = 5 ∨ i = 6 ∨ i = 7 ∨ i = 8 ∨ i = 9 ∨ i = 10 ∨ i = 11 ∨ i = 12 ∨ i = 13 ∨ i = 14 ∨ i = 15 ∨ i = 16 ∨ i = 17 ∨ i = 18 ∨ i = 19 ∨ i = 20 ∨ i = 21 ∨ i = 22 ∨ i = 23 ∨ i = 24 ∨ i = 25 ∨ i = 26 ∨ i = 27 := by omega
  rcases hcase with rfl | rfl | rfl | rfl | rfl | rfl | rfl | rfl | rfl | rfl | rfl | rfl | rfl | rfl | rfl | rfl | rfl | rfl | rfl | rfl | rfl | rfl | rfl | rfl | rfl | rfl | rfl | rfl
  · obtain ⟨h1, h2⟩ := opG_of (x := .fieldAddr 45 (.tmp 2) 0) (d := some 5) (by kernel_rfl) ho
    refine .inl ⟨free_not (guardG_of (by kernel_rfl) ho), ?_⟩
    exact meets_field h1 (co_val 2 (.pointer (some ⟨w.heap.size, 0, none⟩)) hn (of_decide_eq_true (by kernel_rfl)) (by decide) rfl) (by kernel_rfl : (Instr.fieldAt 45 (.pointer (some ⟨w.heap.size, 0, none⟩)) 0).run Tryz.prog W = .ok (.pointer (some ⟨w.heap.size, 0, none⟩)) W) (co_put h2 (by decide) rfl)
  · obtain ⟨h1, h2⟩ := opG_of (x := .load 3 (.tmp 5)) (d := some 6) (by kernel_rfl) ho
    refine .inl ⟨free_not (guardG_of (by kernel_rfl) ho), ?_⟩
    exact meets_load h1 (co_val 5 (.pointer (some ⟨w.heap.size, 0, none⟩)) hn (of_decide_eq_true (by kernel_rfl)) (by decide) rfl) (loadAt_cell (by kernel_rfl) ((hG.2.1.cell 0).trans rfl)) (co_put h2 (by decide) rfl)
  · obtain ⟨h1, h2⟩ := opG_of (x := .fieldAddr 45 (.tmp 3) 0) (d := some 7) (by kernel_rfl) ho
    refine .inl ⟨free_not (guardG_of (by kernel_rfl) ho), ?_⟩
    exact meets_field h1 (co_val 3 (.pointer (some ⟨w.heap.size + 1, 0, none⟩)) hn (of_decide_eq_true (by kernel_rfl)) (by decide) rfl) (by kernel_rfl : (Instr.fieldAt 45 (.pointer (some ⟨w.heap.size + 1, 0, none⟩)) 0).run Tryz.prog W = .ok (.pointer (some ⟨w.heap.size + 1, 0, none⟩)) W) (co_put h2 (by decide) rfl)
  · obtain ⟨h1, h2⟩ := opG_of (x := .load 3 (.tmp 7)) (d := some 8) (by kernel_rfl) ho
    refine .inl ⟨free_not (guardG_of (by kernel_rfl) ho), ?_⟩
    exact meets_load h1 (co_val 7 (.pointer (some ⟨w.heap.size + 1, 0, none⟩)) hn (of_decide_eq_true (by kernel_rfl)) (by decide) rfl) (loadAt_cell (by kernel_rfl) ((hG.2.2.cell 0).trans rfl)) (co_put h2 (by decide) rfl)
  · obtain ⟨h1, h2⟩ := opG_of (x := .call { callee := .value (.func 70), args := #[.tmp 6, .tmp 8], argTypes := #[3, 3] }) (d := some 9) (by kernel_rfl) ho
    refine .inl ⟨free_not (guardG_of (by kernel_rfl) ho), ?_⟩
    refine meets_call (args := #[.int .i64 s.ball, .int .i64 t.ball]) h1 rfl rfl (by have e1 := (co_val 6 (.int .i64 s.ball) hn (of_decide_eq_true (by kernel_rfl)) (by decide) rfl); have e2 := (co_val 8 (.int .i64 t.ball) hn (of_decide_eq_true (by kernel_rfl)) (by decide) rfl); simp [e1, e2]) Tryz.func70 (by kernel_rfl) (by kernel_rfl) fun d hd => ?_
    refine (cmp_intE _ _ W).mono ?_
    rintro e W' ⟨rfl, rfl⟩
    exact ⟨_, rfl, Below.refl _ _, co_put h2 (by decide) rfl d hd⟩
  · obtain ⟨h1, h2⟩ := opG_of (x := .fieldAddr 45 (.tmp 2) 1) (d := some 10) (by kernel_rfl) ho
    refine .inl ⟨free_not (guardG_of (by kernel_rfl) ho), ?_⟩
    exact meets_field h1 (co_val 2 (.pointer (some ⟨w.heap.size, 0, none⟩)) hn (of_decide_eq_true (by kernel_rfl)) (by decide) rfl) (by kernel_rfl : (Instr.fieldAt 45 (.pointer (some ⟨w.heap.size, 0, none⟩)) 1).run Tryz.prog W = .ok (.pointer (some ⟨w.heap.size, 1, none⟩)) W) (co_put h2 (by decide) rfl)
  · obtain ⟨h1, h2⟩ := opG_of (x := .load 3 (.tmp 10)) (d := some 11) (by kernel_rfl) ho
    refine .inl ⟨free_not (guardG_of (by kernel_rfl) ho), ?_⟩
    exact meets_load h1 (co_val 10 (.pointer (some ⟨w.heap.size, 1, none⟩)) hn (of_decide_eq_true (by kernel_rfl)) (by decide) rfl) (loadAt_cell (by kernel_rfl) ((hG.2.1.cell 1).trans rfl)) (co_put h2 (by decide) rfl)
  · obtain ⟨h1, h2⟩ := opG_of (x := .fieldAddr 45 (.tmp 3) 1) (d := some 12) (by kernel_rfl) ho
    refine .inl ⟨free_not (guardG_of (by kernel_rfl) ho), ?_⟩
    exact meets_field h1 (co_val 3 (.pointer (some ⟨w.heap.size + 1, 0, none⟩)) hn (of_decide_eq_true (by kernel_rfl)) (by decide) rfl) (by kernel_rfl : (Instr.fieldAt 45 (.pointer (some ⟨w.heap.size + 1, 0, none⟩)) 1).run Tryz.prog W = .ok (.pointer (some ⟨w.heap.size + 1, 1, none⟩)) W) (co_put h2 (by decide) rfl)
  · obtain ⟨h1, h2⟩ := opG_of (x := .load 3 (.tmp 12)) (d := some 13) (by kernel_rfl) ho
    refine .inl ⟨free_not (guardG_of (by kernel_rfl) ho), ?_⟩
    exact meets_load h1 (co_val 12 (.pointer (some ⟨w.heap.size + 1, 1, none⟩)) hn (of_decide_eq_true (by kernel_rfl)) (by decide) rfl) (loadAt_cell (by kernel_rfl) ((hG.2.2.cell 1).trans rfl)) (co_put h2 (by decide) rfl)
  · obtain ⟨h1, h2⟩ := opG_of (x := .call { callee := .value (.func 70), args := #[.tmp 11, .tmp 13], argTypes := #[3, 3] }) (d := some 14) (by kernel_rfl) ho
    refine .inl ⟨free_not (guardG_of (by kernel_rfl) ho), ?_⟩
    refine meets_call (args := #[.int .i64 s.need, .int .i64 t.need]) h1 rfl rfl (by have e1 := (co_val 11 (.int .i64 s.need) hn (of_decide_eq_true (by kernel_rfl)) (by decide) rfl); have e2 := (co_val 13 (.int .i64 t.need) hn (of_decide_eq_true (by kernel_rfl)) (by decide) rfl); simp [e1, e2]) Tryz.func70 (by kernel_rfl) (by kernel_rfl) fun d hd => ?_
    refine (cmp_intE _ _ W).mono ?_
    rintro e W' ⟨rfl, rfl⟩
    exact ⟨_, rfl, Below.refl _ _, co_put h2 (by decide) rfl d hd⟩
  · obtain ⟨h1, h2⟩ := opG_of (x := .fieldAddr 45 (.tmp 2) 2) (d := some 15) (by kernel_rfl) ho
    refine .inl ⟨free_not (guardG_of (by kernel_rfl) ho), ?_⟩
    exact meets_field h1 (co_val 2 (.pointer (some ⟨w.heap.size, 0, none⟩)) hn (of_decide_eq_true (by kernel_rfl)) (by decide) rfl) (by kernel_rfl : (Instr.fieldAt 45 (.pointer (some ⟨w.heap.size, 0, none⟩)) 2).run Tryz.prog W = .ok (.pointer (some ⟨w.heap.size, 2, none⟩)) W) (co_put h2 (by decide) rfl)
  · obtain ⟨h1, h2⟩ := opG_of (x := .load 3 (.tmp 15)) (d := some 16) (by kernel_rfl) ho
    refine .inl ⟨free_not (guardG_of (by kernel_rfl) ho), ?_⟩
    exact meets_load h1 (co_val 15 (.pointer (some ⟨w.heap.size, 2, none⟩)) hn (of_decide_eq_true (by kernel_rfl)) (by decide) rfl) (loadAt_cell (by kernel_rfl) ((hG.2.1.cell 2).trans rfl)) (co_put h2 (by decide) rfl)
  · obtain ⟨h1, h2⟩ := opG_of (x := .fieldAddr 45 (.tmp 3) 2) (d := some 17) (by kernel_rfl) ho
    refine .inl ⟨free_not (guardG_of (by kernel_rfl) ho), ?_⟩
    exact meets_field h1 (co_val 3 (.pointer (some ⟨w.heap.size + 1, 0, none⟩)) hn (of_decide_eq_true (by kernel_rfl)) (by decide) rfl) (by kernel_rfl : (Instr.fieldAt 45 (.pointer (some ⟨w.heap.size + 1, 0, none⟩)) 2).run Tryz.prog W = .ok (.pointer (some ⟨w.heap.size + 1, 2, none⟩)) W) (co_put h2 (by decide) rfl)
  · obtain ⟨h1, h2⟩ := opG_of (x := .load 3 (.tmp 17)) (d := some 18) (by kernel_rfl) ho
    refine .inl ⟨free_not (guardG_of (by kernel_rfl) ho), ?_⟩
    exact meets_load h1 (co_val 17 (.pointer (some ⟨w.heap.size + 1, 2, none⟩)) hn (of_decide_eq_true (by kernel_rfl)) (by decide) rfl) (loadAt_cell (by kernel_rfl) ((hG.2.2.cell 2).trans rfl)) (co_put h2 (by decide) rfl)
  · obtain ⟨h1, h2⟩ := opG_of (x := .call { callee := .value (.func 70), args := #[.tmp 16, .tmp 18], argTypes := #[3, 3] }) (d := some 19) (by kernel_rfl) ho
    refine .inl ⟨free_not (guardG_of (by kernel_rfl) ho), ?_⟩
    refine meets_call (args := #[.int .i64 s.str, .int .i64 t.str]) h1 rfl rfl (by have e1 := (co_val 16 (.int .i64 s.str) hn (of_decide_eq_true (by kernel_rfl)) (by decide) rfl); have e2 := (co_val 18 (.int .i64 t.str) hn (of_decide_eq_true (by kernel_rfl)) (by decide) rfl); simp [e1, e2]) Tryz.func70 (by kernel_rfl) (by kernel_rfl) fun d hd => ?_
    refine (cmp_intE _ _ W).mono ?_
    rintro e W' ⟨rfl, rfl⟩
    exact ⟨_, rfl, Below.refl _ _, co_put h2 (by decide) rfl d hd⟩
  · obtain ⟨h1, h2⟩ := opG_of (x := .fieldAddr 45 (.tmp 2) 3) (d := some 20) (by kernel_rfl) ho
    refine .inl ⟨free_not (guardG_of (by kernel_rfl) ho), ?_⟩
    exact meets_field h1 (co_val 2 (.pointer (some ⟨w.heap.size, 0, none⟩)) hn (of_decide_eq_true (by kernel_rfl)) (by decide) rfl) (by kernel_rfl : (Instr.fieldAt 45 (.pointer (some ⟨w.heap.size, 0, none⟩)) 3).run Tryz.prog W = .ok (.pointer (some ⟨w.heap.size, 3, none⟩)) W) (co_put h2 (by decide) rfl)
  · obtain ⟨h1, h2⟩ := opG_of (x := .load 3 (.tmp 20)) (d := some 21) (by kernel_rfl) ho
    refine .inl ⟨free_not (guardG_of (by kernel_rfl) ho), ?_⟩
    exact meets_load h1 (co_val 20 (.pointer (some ⟨w.heap.size, 3, none⟩)) hn (of_decide_eq_true (by kernel_rfl)) (by decide) rfl) (loadAt_cell (by kernel_rfl) ((hG.2.1.cell 3).trans rfl)) (co_put h2 (by decide) rfl)
  · obtain ⟨h1, h2⟩ := opG_of (x := .fieldAddr 45 (.tmp 3) 3) (d := some 22) (by kernel_rfl) ho
    refine .inl ⟨free_not (guardG_of (by kernel_rfl) ho), ?_⟩
    exact meets_field h1 (co_val 3 (.pointer (some ⟨w.heap.size + 1, 0, none⟩)) hn (of_decide_eq_true (by kernel_rfl)) (by decide) rfl) (by kernel_rfl : (Instr.fieldAt 45 (.pointer (some ⟨w.heap.size + 1, 0, none⟩)) 3).run Tryz.prog W = .ok (.pointer (some ⟨w.heap.size + 1, 3, none⟩)) W) (co_put h2 (by decide) rfl)
  · obtain ⟨h1, h2⟩ := opG_of (x := .load 3 (.tmp 22)) (d := some 23) (by kernel_rfl) ho
    refine .inl ⟨free_not (guardG_of (by kernel_rfl) ho), ?_⟩
    exact meets_load h1 (co_val 22 (.pointer (some ⟨w.heap.size + 1, 3, none⟩)) hn (of_decide_eq_true (by kernel_rfl)) (by decide) rfl) (loadAt_cell (by kernel_rfl) ((hG.2.2.cell 3).trans rfl)) (co_put h2 (by decide) rfl)
  · obtain ⟨h1, h2⟩ := opG_of (x := .call { callee := .value (.func 70), args := #[.tmp 21, .tmp 23], argTypes := #[3, 3] }) (d := some 24) (by kernel_rfl) ho
    refine .inl ⟨free_not (guardG_of (by kernel_rfl) ho), ?_⟩
    refine meets_call (args := #[.int .i64 s.par, .int .i64 t.par]) h1 rfl rfl (by have e1 := (co_val 21 (.int .i64 s.par) hn (of_decide_eq_true (by kernel_rfl)) (by decide) rfl); have e2 := (co_val 23 (.int .i64 t.par) hn (of_decide_eq_true (by kernel_rfl)) (by decide) rfl); simp [e1, e2]) Tryz.func70 (by kernel_rfl) (by kernel_rfl) fun d hd => ?_
    refine (cmp_intE _ _ W).mono ?_
    rintro e W' ⟨rfl, rfl⟩
    exact ⟨_, rfl, Below.refl _ _, co_put h2 (by decide) rfl d hd⟩
  · obtain ⟨h1, h2⟩ := opG_of (x := .fieldAddr 45 (.tmp 2) 4) (d := some 25) (by kernel_rfl) ho
    refine .inl ⟨free_not (guardG_of (by kernel_rfl) ho), ?_⟩
    exact meets_field h1 (co_val 2 (.pointer (some ⟨w.heap.size, 0, none⟩)) hn (of_decide_eq_true (by kernel_rfl)) (by decide) rfl) (by kernel_rfl : (Instr.fieldAt 45 (.pointer (some ⟨w.heap.size, 0, none⟩)) 4).run Tryz.prog W = .ok (.pointer (some ⟨w.heap.size, 4, none⟩)) W) (co_put h2 (by decide) rfl)
  · obtain ⟨h1, h2⟩ := opG_of (x := .load 43 (.tmp 25)) (d := some 26) (by kernel_rfl) ho
    refine .inl ⟨free_not (guardG_of (by kernel_rfl) ho), ?_⟩
    exact meets_load h1 (co_val 25 (.pointer (some ⟨w.heap.size, 4, none⟩)) hn (of_decide_eq_true (by kernel_rfl)) (by decide) rfl) (loadAt_cell (by kernel_rfl) ((hG.2.1.cell 4).trans rfl)) (co_put h2 (by decide) rfl)
  · obtain ⟨h1, h2⟩ := opG_of (x := .fieldAddr 45 (.tmp 3) 4) (d := some 27) (by kernel_rfl) ho
    refine .inl ⟨free_not (guardG_of (by kernel_rfl) ho), ?_⟩
    exact meets_field h1 (co_val 3 (.pointer (some ⟨w.heap.size + 1, 0, none⟩)) hn (of_decide_eq_true (by kernel_rfl)) (by decide) rfl) (by kernel_rfl : (Instr.fieldAt 45 (.pointer (some ⟨w.heap.size + 1, 0, none⟩)) 4).run Tryz.prog W = .ok (.pointer (some ⟨w.heap.size + 1, 4, none⟩)) W) (co_put h2 (by decide) rfl)
  · obtain ⟨h1, h2⟩ := opG_of (x := .load 43 (.tmp 27)) (d := some 28) (by kernel_rfl) ho
    refine .inl ⟨free_not (guardG_of (by kernel_rfl) ho), ?_⟩
    exact meets_load h1 (co_val 27 (.pointer (some ⟨w.heap.size + 1, 4, none⟩)) hn (of_decide_eq_true (by kernel_rfl)) (by decide) rfl) (loadAt_cell (by kernel_rfl) ((hG.2.2.cell 4).trans rfl)) (co_put h2 (by decide) rfl)
  · obtain ⟨h1, h2⟩ := opG_of (x := .call { callee := .value (.func 83), args := #[.tmp 26, .tmp 28], argTypes := #[43, 43] }) (d := some 29) (by kernel_rfl) ho
    refine .inl ⟨free_not (guardG_of (by kernel_rfl) ho), ?_⟩
    refine meets_call (args := #[.int .u16 s.wait, .int .u16 t.wait]) h1 rfl rfl (by have e1 := (co_val 26 (.int .u16 s.wait) hn (of_decide_eq_true (by kernel_rfl)) (by decide) rfl); have e2 := (co_val 28 (.int .u16 t.wait) hn (of_decide_eq_true (by kernel_rfl)) (by decide) rfl); simp [e1, e2]) Tryz.func83 (by kernel_rfl) (by kernel_rfl) fun d hd => ?_
    refine (cmp_u16E _ _ W).mono ?_
    rintro e W' ⟨rfl, rfl⟩
    exact ⟨_, rfl, Below.refl _ _, co_put h2 (by decide) rfl d hd⟩
  · obtain ⟨h1, h2⟩ := opG_of (x := .buildSlice 26 5 #[(0, .tmp 9), (1, .tmp 14), (2, .tmp 19), (3, .tmp 24), (4, .tmp 29)]) (d := some 30) (by kernel_rfl) ho
    refine .inl ⟨free_not (guardG_of (by kernel_rfl) ho), ?_⟩
    refine meets_build (e := 3) h1 #[.int .i64 (cmpI s.ball t.ball), .int .i64 (cmpI s.need t.need), .int .i64 (cmpI s.str t.str), .int .i64 (cmpI s.par t.par), .int .i64 (cmpI s.wait t.wait)] ?_ (fun d hd => ?_)
    · have e0 := (co_val 9 (.int .i64 (cmpI s.ball t.ball)) hn (of_decide_eq_true (by kernel_rfl)) (by decide) rfl); have e1 := (co_val 14 (.int .i64 (cmpI s.need t.need)) hn (of_decide_eq_true (by kernel_rfl)) (by decide) rfl); have e2 := (co_val 19 (.int .i64 (cmpI s.str t.str)) hn (of_decide_eq_true (by kernel_rfl)) (by decide) rfl); have e3 := (co_val 24 (.int .i64 (cmpI s.par t.par)) hn (of_decide_eq_true (by kernel_rfl)) (by decide) rfl); have e4 := (co_val 29 (.int .i64 (cmpI s.wait t.wait)) hn (of_decide_eq_true (by kernel_rfl)) (by decide) rfl)
      simp only [List.map_toArray, List.map_cons, List.map_nil, e0, e1, e2, e3, e4]
      exact bi_5 W _ _ _ _ _
    · rw [h2] at hd
      obtain rfl := Option.some.inj hd
      unfold coV
      rw [if_pos rfl]
      exact ints_five W _ _ _ _ _
  · obtain ⟨h1, h2⟩ := opG_of (x := .call { callee := .value (.func 69), args := #[.tmp 30], argTypes := #[26] }) (d := some 31) (by kernel_rfl) ho
    refine .inl ⟨free_not (guardG_of (by kernel_rfl) ho), ?_⟩
    obtain ⟨u, k1, k2⟩ := hn 30 (of_decide_eq_true (by kernel_rfl))
    unfold coV at k2
    rw [if_pos rfl] at k2
    refine meets_call (args := #[u]) h1 rfl rfl (by have e1 : a.eval (.tmp 30) = u := eval_tmp k1; simp [e1]) Tryz.func69 (by kernel_rfl) (by kernel_rfl) fun d hd => ?_
    refine (cmp_Or _ _ _ W k2 fun b h => h).mono ?_
    rintro e W' ⟨rfl, hb⟩
    exact ⟨_, rfl, hb, co_put h2 (by decide) rfl d hd⟩
  · obtain ⟨h1, h2⟩ := opG_of (x := .assign (.tmp 31)) (d := some 4) (by kernel_rfl) ho
    refine .inl ⟨free_not (guardG_of (by kernel_rfl) ho), ?_⟩
    exact meets_move (.inr h1) (co_put h2 (by decide) (co_val 31 (.int .i64 (cmpO s t)) hn (of_decide_eq_true (by kernel_rfl)) (by decide) rfl))
set_option maxRecDepth 100000 in
set_option maxHeartbeats 2000000 in
theorem or_compare (s t : Ost) (w : World) : Calls Tryz.prog 41 #[osV s, osV t] w fun e w' => e = .returned (.int .i64 (cmpO s t)) ∧ Below w.heap.size w w' := by
  have hF := co_free s t w
  have hb := below_two w (.cells #[.int .i64 s.ball, .int .i64 s.need, .int .i64 s.str, .int .i64 s.par, .int .u16 s.wait] 45) (.cells #[.int .i64 t.ball, .int .i64 t.need, .int .i64 t.str, .int .i64 t.par, .int .u16 t.wait] 45)
  have h1 := (Blk.new w 45 #[.int .i64 s.ball, .int .i64 s.need, .int .i64 s.str, .int .i64 s.par, .int .u16 s.wait]).alloc (.cells #[.int .i64 t.ball, .int .i64 t.need, .int .i64 t.str, .int .i64 t.par, .int .u16 t.wait] 45)
  have h2 := blk_two w (.cells #[.int .i64 s.ball, .int .i64 s.need, .int .i64 s.str, .int .i64 s.par, .int .u16 s.wait] 45) 45 #[.int .i64 t.ball, .int .i64 t.need, .int .i64 t.str, .int .i64 t.par, .int .u16 t.wait]
  have HG := Lib.hid (⟨hb, h1, h2⟩ : _ ∧ _ ∧ _)
  have HF := Lib.hid hF
  unfold osV
  clear hF hb h1 h2
  go_enter Tryz.func41, Tryz.ntmps41
  go_wp2
  refine wp_region_freeG (by kernel_rfl : _ = coOps) (by kernel_rfl) HF.out (of_decide_eq_true (by kernel_rfl)) HG.out (fun d hd => ?_) ?_
  · simp only [List.mem_cons, List.not_mem_nil, or_false] at hd
    rcases hd with rfl | rfl
    · exact ⟨_, rfl, by unfold coV; rw [if_neg (by decide)]; rfl⟩
    · exact ⟨_, rfl, by unfold coV; rw [if_neg (by decide)]; rfl⟩
  · rintro ⟨⟨l⟩, df⟩ wx hin
    obtain ⟨v4, hv4, hs4⟩ := hin.atG 27 4 (by kernel_rfl)
    have hsz : l.length = 32 := hin.size
    have hdf : df = [] := hin.dfr
    have HG2 := Lib.hid hin.g
    clear hin
    subst hdf
    unfold coV at hs4
    rw [if_neg (by decide)] at hs4
    have hs5 : v4 = .int .i64 (cmpO s t) := hs4
    subst hs5
    clear hs4
    dsimp only at hv4
    obtain ⟨z, hz⟩ : ∃ z, z = cmpO s t := ⟨_, rfl⟩
    rw [← hz] at hv4
    have HZ := Lib.hid hz
    clear hz
    iterate 32 (obtain ⟨_, t, e, h2⟩ := listG_cons hsz; clear hsz; subst e; have hsz := h2; clear h2)
    have e0 := List.eq_nil_of_length_eq_zero hsz
    clear hsz
    subst e0
    simp only [List.getElem?_toArray, List.getElem?_cons_zero, List.getElem?_cons_succ, Option.some.injEq] at hv4
    subst hv4
    go_wp2
    go_ret
    exact ⟨ret_i HZ.out, HG2.out.1⟩
end Go.Proofs.YtdlmmbfnmnglaaaGreatDoor

namespace Go.Proofs.YtdlmmbfnmnglaaaGreatDoor
open Go.RowKit

theorem cmpI_ways (x y : Int) : (x < y ∧ cmpI x y = -1) ∨ (x = y ∧ cmpI x y = 0) ∨ (y < x ∧ cmpI x y = 1) := by
  unfold cmpI
  by_cases h : x < y
  · exact .inl ⟨h, if_pos h⟩
  · by_cases h2 : y < x
    · exact .inr (.inr ⟨h2, by rw [if_neg h, if_pos h2]⟩)
    · exact .inr (.inl ⟨by omega, by rw [if_neg h, if_neg h2]⟩)
/-- The order of states. -/
def lessO (s t : Ost) : Bool := decide (cmpO s t < 0)
def lessX (s t : Ost) : Bool := if s.ball ≠ t.ball then decide (s.ball < t.ball) else if s.need ≠ t.need then decide (s.need < t.need) else if s.str ≠ t.str then decide (s.str < t.str) else if s.par ≠ t.par then decide (s.par < t.par) else decide (s.wait < t.wait)
theorem lessX_is (s t : Ost) : lessX s t = lessO s t := by
  unfold lessX lessO cmpO
  rcases cmpI_ways s.ball t.ball with ⟨h, e⟩ | ⟨h, e⟩ | ⟨h, e⟩
  · rw [if_pos (by omega), e, decide_eq_true h]; rfl
  · rw [if_neg (by omega), e, orL, if_pos rfl]
    rcases cmpI_ways s.need t.need with ⟨h, e⟩ | ⟨h, e⟩ | ⟨h, e⟩
    · rw [if_pos (by omega), e, decide_eq_true h]; rfl
    · rw [if_neg (by omega), e, orL, if_pos rfl]
      rcases cmpI_ways s.str t.str with ⟨h, e⟩ | ⟨h, e⟩ | ⟨h, e⟩
      · rw [if_pos (by omega), e, decide_eq_true h]; rfl
      · rw [if_neg (by omega), e, orL, if_pos rfl]
        rcases cmpI_ways s.par t.par with ⟨h, e⟩ | ⟨h, e⟩ | ⟨h, e⟩
        · rw [if_pos (by omega), e, decide_eq_true h]; rfl
        · rw [if_neg (by omega), e, orL, if_pos rfl]
          rcases cmpI_ways s.wait t.wait with ⟨h, e⟩ | ⟨h, e⟩ | ⟨h, e⟩
          · rw [e, decide_eq_true h]; rfl
          · rw [e, decide_eq_false (by omega)]; rfl
          · rw [e, decide_eq_false (by omega)]; rfl
        · rw [if_pos (by omega), e, decide_eq_false (by omega)]; rfl
      · rw [if_pos (by omega), e, decide_eq_false (by omega)]; rfl
    · rw [if_pos (by omega), e, decide_eq_false (by omega)]; rfl
  · rw [if_pos (by omega), e, decide_eq_false (by omega)]; rfl
theorem orL_zero : ∀ {l : List Int}, orL l = 0 → ∀ x ∈ l, x = 0
  | [], _, x, h => by cases h
  | a :: l, h, x, hx => by
    rw [orL] at h
    by_cases ha : a = 0
    · rw [if_pos ha] at h
      rcases List.mem_cons.1 hx with rfl | hx
      · exact ha
      · exact orL_zero h x hx
    · rw [if_neg ha] at h; exact absurd h ha
theorem cmpO_eq {s t : Ost} : cmpO s t = 0 ↔ s = t := by
  constructor
  · intro h
    have hz := orL_zero h
    have f : ∀ x y : Int, cmpI x y = 0 → x = y := fun x y h => by rcases cmpI_ways x y with ⟨_, e⟩ | ⟨k, _⟩ | ⟨_, e⟩ <;> omega
    obtain ⟨a1, a2, a3, a4, a5⟩ := s
    obtain ⟨b1, b2, b3, b4, b5⟩ := t
    have e1 := f _ _ (hz _ (by simp : cmpI a1 b1 ∈ _))
    have e2 := f _ _ (hz _ (by simp : cmpI a2 b2 ∈ _))
    have e3 := f _ _ (hz _ (by simp : cmpI a3 b3 ∈ _))
    have e4 := f _ _ (hz _ (by simp : cmpI a4 b4 ∈ _))
    have e5 := f _ _ (hz _ (by simp : cmpI a5 b5 ∈ _))
    rw [e1, e2, e3, e4, e5]
  · rintro rfl
    have f : ∀ x : Int, cmpI x x = 0 := fun x => by unfold cmpI; rw [if_neg (by omega), if_neg (by omega)]
    unfold cmpO
    simp [f, orL]
set_option maxRecDepth 100000 in
set_option maxHeartbeats 2000000 in
theorem r45_Less (s t : Ost) (w : World) : Calls Tryz.prog 47 #[osV s, osV t] w fun e w' => e = .returned (.bool (lessO s t)) ∧ Below w.heap.size w w' := by
  rw [← lessX_is]
  have HB := Lib.hid (below_two w (.cells #[.int .i64 s.ball, .int .i64 s.need, .int .i64 s.str, .int .i64 s.par, .int .u16 s.wait] 45) (.cells #[.int .i64 t.ball, .int .i64 t.need, .int .i64 t.str, .int .i64 t.par, .int .u16 t.wait] 45))
  unfold osV lessX
  obtain ⟨a1, a2, a3, a4, a5⟩ := s
  obtain ⟨b1, b2, b3, b4, b5⟩ := t
  dsimp only at HB ⊢
  by_cases h1 : a1 = b1
  case neg =>
    rw [if_pos h1]
    have e1 : (a1 != b1) = true := by simp [h1]
    clear h1
    go_enter Tryz.func47, Tryz.ntmps47
    go_wp2
    go_ret
    exact ⟨rfl, HB.out⟩
  rw [if_neg (by simp [h1])]
  have e1 : (a1 != b1) = false := by simp [h1]
  clear h1
  by_cases h2 : a2 = b2
  case neg =>
    rw [if_pos h2]
    have e2 : (a2 != b2) = true := by simp [h2]
    clear h2
    go_enter Tryz.func47, Tryz.ntmps47
    go_wp2
    go_ret
    exact ⟨rfl, HB.out⟩
  rw [if_neg (by simp [h2])]
  have e2 : (a2 != b2) = false := by simp [h2]
  clear h2
  by_cases h3 : a3 = b3
  case neg =>
    rw [if_pos h3]
    have e3 : (a3 != b3) = true := by simp [h3]
    clear h3
    go_enter Tryz.func47, Tryz.ntmps47
    go_wp2
    go_ret
    exact ⟨rfl, HB.out⟩
  rw [if_neg (by simp [h3])]
  have e3 : (a3 != b3) = false := by simp [h3]
  clear h3
  by_cases h4 : a4 = b4
  case neg =>
    rw [if_pos h4]
    have e4 : (a4 != b4) = true := by simp [h4]
    clear h4
    go_enter Tryz.func47, Tryz.ntmps47
    go_wp2
    go_ret
    exact ⟨rfl, HB.out⟩
  rw [if_neg (by simp [h4])]
  have e4 : (a4 != b4) = false := by simp [h4]
  clear h4
  go_enter Tryz.func47, Tryz.ntmps47
  go_wp2
  go_ret
  exact ⟨rfl, HB.out⟩
set_option maxRecDepth 100000 in
set_option maxHeartbeats 1000000 in
theorem or_find1 (s t : Ost) (v : Int) (w : World) : Calls Tryz.prog 85 #[.agg #[.int .i64 s.ball, .int .i64 s.need, .int .i64 s.str, .int .i64 s.par, .int .u16 s.wait, .int .i64 v], osV t] w fun e w' => e = .returned (.int .i64 (cmpO s t)) ∧ Below w.heap.size w w' := by
  have K := Lib.hid (fun W => or_compare s t W)
  have HB := Lib.hid (below_two w (.cells #[.int .i64 s.ball, .int .i64 s.need, .int .i64 s.str, .int .i64 s.par, .int .u16 s.wait, .int .i64 v] 47) (.cells #[.int .i64 t.ball, .int .i64 t.need, .int .i64 t.str, .int .i64 t.par, .int .u16 t.wait] 45))
  unfold osV at K ⊢
  obtain ⟨z, hz⟩ : ∃ z, z = cmpO s t := ⟨_, rfl⟩
  rw [← hz] at K ⊢
  clear hz
  go_enter Tryz.func85, Tryz.ntmps85
  go_wp2_with (go_at_call 41; refine (K.out _).mono ?_; rintro e w2 ⟨rfl, hb⟩; have HB2 := Lib.hid (HB.out.trans (hb.mono HB.out.size)); clear hb)
  go_ret
  exact ⟨rfl, HB2.out⟩
end Go.Proofs.YtdlmmbfnmnglaaaGreatDoor

namespace Go.Proofs.YtdlmmbfnmnglaaaGreatDoor
open Go.RowKit

/-- An entry of a table. -/
structure Ove where
  st : Ost
  val : Int
def elOv (_ : World) (_ : Nat → Prop) (cs : List Value) (x : Ove) : Prop := cs = [.int .i64 x.st.ball, .int .i64 x.st.need, .int .i64 x.st.str, .int .i64 x.st.par, .int .u16 x.st.wait, .int .i64 x.val]
theorem elOv_good : Good elOv := ⟨fun h _ _ => h⟩
theorem ov_at {w : World} {F : Nat → Prop} {A : Option Addr} {n c : Nat} {l : List Ove} (h : Sl 6 elOv w F (.slice A n c) l) {k : Nat} (hk : k < l.length) :
    ∃ b o, A = some ⟨b, o, none⟩ ∧ F b ∧ w.cell? ⟨b, o + k * 6, none⟩ = some (.int .i64 l[k].st.ball) ∧ w.cell? ⟨b, o + k * 6 + 1, none⟩ = some (.int .i64 l[k].st.need) ∧ w.cell? ⟨b, o + k * 6 + 2, none⟩ = some (.int .i64 l[k].st.str) ∧ w.cell? ⟨b, o + k * 6 + 3, none⟩ = some (.int .i64 l[k].st.par) ∧ w.cell? ⟨b, o + k * 6 + 4, none⟩ = some (.int .u16 l[k].st.wait) ∧ w.cell? ⟨b, o + k * 6 + 5, none⟩ = some (.int .i64 l[k].val) := by
  obtain ⟨b, o, cs, h1, h2, h3, h4, h5⟩ := h.at hk
  have h5 : cs = _ := h5
  subst h5
  exact ⟨b, o, h1, h2, h4 0 _ rfl, h4 1 _ rfl, h4 2 _ rfl, h4 3 _ rfl, h4 4 _ rfl, h4 5 _ rfl⟩
/-- The target boxed. -/
structure BsO (w W : World) (t : Ost) : Prop where
  bel : Below w.heap.size w W
  box : Blk W w.heap.size 45 #[.int .i64 t.ball, .int .i64 t.need, .int .i64 t.str, .int .i64 t.par, .int .u16 t.wait]
theorem BsO.below {w W W' : World} {t : Ost} (h : BsO w W t) (hb : Below W.heap.size W W') : BsO w W' t := ⟨h.bel.trans (hb.mono h.bel.size), h.box.below hb h.box.lt⟩
theorem BsO.drew {w W : World} {t : Ost} (h : BsO w W t) : BsO w W.drew t := ⟨Below.drew h.bel, h.box.drew⟩
theorem BsO.new (w : World) (t : Ost) : BsO w (w.alloc (.cells #[.int .i64 t.ball, .int .i64 t.need, .int .i64 t.str, .int .i64 t.par, .int .u16 t.wait] 45)) t := ⟨Below.alloc (Below.refl _ _) (Nat.le_refl _) _, Blk.new _ _ _⟩
theorem BsO.cells {w W : World} {t : Ost} (h : BsO w W t) : W.cell? ⟨w.heap.size, 0, none⟩ = some (.int .i64 t.ball) ∧ W.cell? ⟨w.heap.size, 1, none⟩ = some (.int .i64 t.need) ∧ W.cell? ⟨w.heap.size, 2, none⟩ = some (.int .i64 t.str) ∧ W.cell? ⟨w.heap.size, 3, none⟩ = some (.int .i64 t.par) ∧ W.cell? ⟨w.heap.size, 4, none⟩ = some (.int .u16 t.wait) := ⟨h.box.cell 0, h.box.cell 1, h.box.cell 2, h.box.cell 3, h.box.cell 4⟩
/-- Six cells of an entry after a call. -/
theorem six_below {W W' : World} {b o : Nat} {p0 p1 p2 p3 p4 pv : Int} (hb : Below W.heap.size W W') (hl : b < W.heap.size) (h : W.cell? ⟨b, o, none⟩ = some (.int .i64 p0) ∧ W.cell? ⟨b, o + 1, none⟩ = some (.int .i64 p1) ∧ W.cell? ⟨b, o + 2, none⟩ = some (.int .i64 p2) ∧ W.cell? ⟨b, o + 3, none⟩ = some (.int .i64 p3) ∧ W.cell? ⟨b, o + 4, none⟩ = some (.int .u16 p4) ∧ W.cell? ⟨b, o + 5, none⟩ = some (.int .i64 pv)) :
    W'.cell? ⟨b, o, none⟩ = some (.int .i64 p0) ∧ W'.cell? ⟨b, o + 1, none⟩ = some (.int .i64 p1) ∧ W'.cell? ⟨b, o + 2, none⟩ = some (.int .i64 p2) ∧ W'.cell? ⟨b, o + 3, none⟩ = some (.int .i64 p3) ∧ W'.cell? ⟨b, o + 4, none⟩ = some (.int .u16 p4) ∧ W'.cell? ⟨b, o + 5, none⟩ = some (.int .i64 pv) :=
  ⟨(hb.cell (p := ⟨b, o, none⟩) hl).trans h.1, (hb.cell (p := ⟨b, o + 1, none⟩) hl).trans h.2.1, (hb.cell (p := ⟨b, o + 2, none⟩) hl).trans h.2.2.1, (hb.cell (p := ⟨b, o + 3, none⟩) hl).trans h.2.2.2.1, (hb.cell (p := ⟨b, o + 4, none⟩) hl).trans h.2.2.2.2.1, (hb.cell (p := ⟨b, o + 5, none⟩) hl).trans h.2.2.2.2.2⟩
/-- What the search finds: all entries ahead of place i precede the target, and none from it on. -/
def CutO (l : List Ove) (t : Ost) (i : Nat) : Prop := i ≤ l.length ∧ (∀ k (h : k < l.length), k < i → cmpO l[k].st t < 0) ∧ ∀ k (h : k < l.length), i ≤ k → 0 ≤ cmpO l[k].st t
def SortO (l : List Ove) (t : Ost) : Prop := ∀ i j (hi : i < l.length) (hj : j < l.length), i ≤ j → cmpO l[j].st t < 0 → cmpO l[i].st t < 0
def foundO (l : List Ove) (t : Ost) (i : Nat) : Bool := match l[i]? with
  | some x => cmpO x.st t == 0
  | none => false
set_option maxRecDepth 100000 in
set_option maxHeartbeats 1500000 in
theorem or_search (l : List Ove) (v : Value) (t : Ost) (w : World) (h : Sl 6 elOv w (· < w.heap.size) v l) (hn : l.length ≤ 1000000000000) (hs : SortO l t) :
    Calls Tryz.prog 84 #[v, osV t, .func (.func 85) #[] #[]] w
      fun e w' => ∃ i : Nat, CutO l t i ∧ e = .returned (.tuple #[.int .i64 i, .bool (foundO l t i)]) ∧ Below w.heap.size w w' := by
  obtain ⟨A, c, rfl, hc, hc2⟩ := h.shape
  unfold osV
  have HX0 := Lib.hid (BsO.new w t)
  have HL := Lib.hid h
  have HS := Lib.hid hs
  obtain ⟨⟨t0, t1, t2, t3, t4⟩, ht⟩ : ∃ x, x = t := ⟨_, rfl⟩
  subst ht
  dsimp only at HX0 ⊢
  clear h hs
  go_enter Tryz.func84, Tryz.ntmps84
  go_wp2
  go_loopw [9, 10] (fun i j wr => ∃ a b : Nat, a ≤ b ∧ b ≤ l.length ∧ i = .int .i64 a ∧ j = .int .i64 b ∧ Hid (BsO w wr ⟨t0, t1, t2, t3, t4⟩) ∧ Hid (∀ k (h : k < l.length), k < a → cmpO l[k].st ⟨t0, t1, t2, t3, t4⟩ < 0) ∧ Hid (∀ k (h : k < l.length), b ≤ k → 0 ≤ cmpO l[k].st ⟨t0, t1, t2, t3, t4⟩)) (fun i j _ => (intOf j).toNat - (intOf i).toNat)
  case atStart => exact ⟨0, l.length, Nat.zero_le _, Nat.le_refl _, rfl, rfl, HX0, Lib.hid (fun k h hk => by omega), Lib.hid (fun k h hk => by omega)⟩
  case round =>
    clear HX0
    obtain ⟨a, b, hab, hbn, rfl, rfl, HX, HA, HB⟩ := hrel
    by_cases hlt : a < b
    · have f1 : IntKind.u64.wrap ((a : Int) + (b : Int)) = (a : Int) + (b : Int) := by rw [IntKind.wrap_u64]; omega
      have f2 : IntKind.i64.wrap ((a : Int) + (b : Int)) = (a : Int) + (b : Int) := IntWalk.i64_in _ (by omega)
      obtain ⟨m, hm⟩ : ∃ m : Nat, m = (a + b) / 2 := ⟨_, rfl⟩
      have f3 : ((a : Int) + (b : Int)) / 2 = (m : Int) := by rw [hm]; omega
      have hma : a ≤ m := by omega
      have hmb : m < b := by omega
      clear hm
      go_wp2
      obtain ⟨b0, o, rfl, hbl, yy⟩ := ov_at HL.out (k := m) (by omega)
      have yy := six_below HX.out.bel hbl yy
      obtain ⟨⟨⟨p0, p1, p2, p3, p4⟩, pv⟩, hp⟩ : ∃ x, x = l[m]'(by omega) := ⟨_, rfl⟩
      obtain ⟨z, hz⟩ : ∃ z, z = cmpO (l[m]'(by omega)).st ⟨t0, t1, t2, t3, t4⟩ := ⟨_, rfl⟩
      have k := fun W => or_find1 ⟨p0, p1, p2, p3, p4⟩ ⟨t0, t1, t2, t3, t4⟩ pv W
      rw [← hp] at yy hz
      dsimp only at yy hz k
      rw [← hz] at k
      unfold osV at k
      dsimp only at k
      have K := Lib.hid k
      have HYY := Lib.hid yy
      have hbd : b0 < wr.drew.heap.size := Nat.lt_of_lt_of_le hbl HX.out.bel.size
      have HXD := Lib.hid HX.out.drew
      have HYD := Lib.hid (six_below (Below.drew (Below.refl wr.heap.size wr)) hbd yy)
      obtain ⟨x0, x1, x2, x3, x4⟩ := HX.out.cells
      obtain ⟨y0, y1, y2, y3, y4, y5⟩ := yy
      dsimp only at x0 x1 x2 x3 x4 y0 y1 y2 y3 y4 y5
      have tok0 : True := trivial
      have hml : m < l.length := by omega
      have hcm : z < 0 → ∀ k (h : k < l.length), k < m + 1 → cmpO l[k].st ⟨t0, t1, t2, t3, t4⟩ < 0 := fun hz0 k h hk => HS.out k m h hml (by omega) (by rw [← hp]; dsimp only; rw [← hz]; exact hz0)
      have hcn : ¬ z < 0 → ∀ k (h : k < l.length), m ≤ k → 0 ≤ cmpO l[k].st ⟨t0, t1, t2, t3, t4⟩ := fun hz0 k h hk => Int.not_lt.1 fun hc => hz0 (by rw [hz]; have := HS.out m k hml h hk hc; rw [← hp] at this; exact this)
      have HCM := Lib.hid hcm
      have HCN := Lib.hid hcn
      clear k hp hz hcm hcn HX
      by_cases hz0 : z < 0
      · have HCM2 := Lib.hid (HCM.out hz0)
        go_wp2
        go_region_held3 (fun w' => w'.cell? ⟨w.heap.size, 0, none⟩ = some (.int .i64 t0) ∧ w'.cell? ⟨w.heap.size, 1, none⟩ = some (.int .i64 t1) ∧ w'.cell? ⟨w.heap.size, 2, none⟩ = some (.int .i64 t2) ∧ w'.cell? ⟨w.heap.size, 3, none⟩ = some (.int .i64 t3) ∧ w'.cell? ⟨w.heap.size, 4, none⟩ = some (.int .u16 t4) ∧ w'.cell? ⟨b0, o + m * 6, none⟩ = some (.int .i64 p0) ∧ w'.cell? ⟨b0, o + m * 6 + 1, none⟩ = some (.int .i64 p1) ∧ w'.cell? ⟨b0, o + m * 6 + 2, none⟩ = some (.int .i64 p2) ∧ w'.cell? ⟨b0, o + m * 6 + 3, none⟩ = some (.int .i64 p3) ∧ w'.cell? ⟨b0, o + m * 6 + 4, none⟩ = some (.int .u16 p4) ∧ w'.cell? ⟨b0, o + m * 6 + 5, none⟩ = some (.int .i64 pv)) (first | exact ⟨x0, x1, x2, x3, x4, y0, y1, y2, y3, y4, y5⟩ | go_keep) (first | (clear tok0; go_at_call 85; refine (K.out _).mono ?_; rintro e w3 ⟨rfl, hb⟩; have HX3 := Lib.hid (HXD.out.below hb); have HY3 := Lib.hid (six_below hb hbd HYD.out); clear x0 x1 x2 x3 x4 y0 y1 y2 y3 y4 y5; obtain ⟨x0, x1, x2, x3, x4⟩ := HX3.out.cells; obtain ⟨y0, y1, y2, y3, y4, y5⟩ := HY3.out; dsimp only at x0 x1 x2 x3 x4 y0 y1 y2 y3 y4 y5; clear hb; have tok1 : True := trivial))
        all_goals go_wp2
        all_goals go_roundw
        case rel => exact ⟨m + 1, b, by omega, hbn, by go_num, rfl, HX3, HCM2, HB⟩
        case measure => simp [intOf]; omega
      · have HCN2 := Lib.hid (HCN.out hz0)
        go_wp2
        go_region_held3 (fun w' => w'.cell? ⟨w.heap.size, 0, none⟩ = some (.int .i64 t0) ∧ w'.cell? ⟨w.heap.size, 1, none⟩ = some (.int .i64 t1) ∧ w'.cell? ⟨w.heap.size, 2, none⟩ = some (.int .i64 t2) ∧ w'.cell? ⟨w.heap.size, 3, none⟩ = some (.int .i64 t3) ∧ w'.cell? ⟨w.heap.size, 4, none⟩ = some (.int .u16 t4) ∧ w'.cell? ⟨b0, o + m * 6, none⟩ = some (.int .i64 p0) ∧ w'.cell? ⟨b0, o + m * 6 + 1, none⟩ = some (.int .i64 p1) ∧ w'.cell? ⟨b0, o + m * 6 + 2, none⟩ = some (.int .i64 p2) ∧ w'.cell? ⟨b0, o + m * 6 + 3, none⟩ = some (.int .i64 p3) ∧ w'.cell? ⟨b0, o + m * 6 + 4, none⟩ = some (.int .u16 p4) ∧ w'.cell? ⟨b0, o + m * 6 + 5, none⟩ = some (.int .i64 pv)) (first | exact ⟨x0, x1, x2, x3, x4, y0, y1, y2, y3, y4, y5⟩ | go_keep) (first | (clear tok0; go_at_call 85; refine (K.out _).mono ?_; rintro e w3 ⟨rfl, hb⟩; have HX3 := Lib.hid (HXD.out.below hb); have HY3 := Lib.hid (six_below hb hbd HYD.out); clear x0 x1 x2 x3 x4 y0 y1 y2 y3 y4 y5; obtain ⟨x0, x1, x2, x3, x4⟩ := HX3.out.cells; obtain ⟨y0, y1, y2, y3, y4, y5⟩ := HY3.out; dsimp only at x0 x1 x2 x3 x4 y0 y1 y2 y3 y4 y5; clear hb; have tok1 : True := trivial))
        all_goals go_wp2
        all_goals go_roundw
        case rel => exact ⟨a, m, by omega, by omega, rfl, rfl, HX3, HA, HCN2⟩
        case measure => simp [intOf]; omega
    · obtain rfl : a = b := by omega
      have hcut : CutO l ⟨t0, t1, t2, t3, t4⟩ a := ⟨hbn, HA.out, HB.out⟩
      have HCU := Lib.hid hcut
      clear hcut HA HB
      by_cases hal : a < l.length
      · obtain ⟨b0, o, rfl, hbl, yy⟩ := ov_at HL.out (k := a) hal
        have yy := six_below HX.out.bel hbl yy
        obtain ⟨⟨⟨p0, p1, p2, p3, p4⟩, pv⟩, hp⟩ : ∃ x, x = l[a]'hal := ⟨_, rfl⟩
        obtain ⟨z, hz⟩ : ∃ z, z = cmpO (l[a]'hal).st ⟨t0, t1, t2, t3, t4⟩ := ⟨_, rfl⟩
        have k := fun W => or_find1 ⟨p0, p1, p2, p3, p4⟩ ⟨t0, t1, t2, t3, t4⟩ pv W
        rw [← hp] at yy hz
        dsimp only at yy hz k
        rw [← hz] at k
        unfold osV at k
        dsimp only at k
        have K := Lib.hid k
        have HYY := Lib.hid yy
        have hbd : b0 < wr.drew.heap.size := Nat.lt_of_lt_of_le hbl HX.out.bel.size
        have HXD := Lib.hid HX.out.drew
        have HYD := Lib.hid (six_below (Below.drew (Below.refl wr.heap.size wr)) hbd yy)
        obtain ⟨x0, x1, x2, x3, x4⟩ := HX.out.cells
        obtain ⟨y0, y1, y2, y3, y4, y5⟩ := yy
        dsimp only at x0 x1 x2 x3 x4 y0 y1 y2 y3 y4 y5
        have tok0 : True := trivial
        have hfd : foundO l ⟨t0, t1, t2, t3, t4⟩ a = (z == 0) := by unfold foundO; rw [List.getElem?_eq_getElem hal, ← hp]; dsimp only; rw [hz]
        have HFD := Lib.hid hfd
        clear k hp hz HX hfd
        go_wp2
        go_region_held3 (fun w' => w'.cell? ⟨w.heap.size, 0, none⟩ = some (.int .i64 t0) ∧ w'.cell? ⟨w.heap.size, 1, none⟩ = some (.int .i64 t1) ∧ w'.cell? ⟨w.heap.size, 2, none⟩ = some (.int .i64 t2) ∧ w'.cell? ⟨w.heap.size, 3, none⟩ = some (.int .i64 t3) ∧ w'.cell? ⟨w.heap.size, 4, none⟩ = some (.int .u16 t4) ∧ w'.cell? ⟨b0, o + a * 6, none⟩ = some (.int .i64 p0) ∧ w'.cell? ⟨b0, o + a * 6 + 1, none⟩ = some (.int .i64 p1) ∧ w'.cell? ⟨b0, o + a * 6 + 2, none⟩ = some (.int .i64 p2) ∧ w'.cell? ⟨b0, o + a * 6 + 3, none⟩ = some (.int .i64 p3) ∧ w'.cell? ⟨b0, o + a * 6 + 4, none⟩ = some (.int .u16 p4) ∧ w'.cell? ⟨b0, o + a * 6 + 5, none⟩ = some (.int .i64 pv)) (first | exact ⟨x0, x1, x2, x3, x4, y0, y1, y2, y3, y4, y5⟩ | go_keep) (first | (clear tok0; go_at_call 85; refine (K.out _).mono ?_; rintro e w3 ⟨rfl, hb⟩; have HX3 := Lib.hid (HXD.out.below hb); have HY3 := Lib.hid (six_below hb hbd HYD.out); clear x0 x1 x2 x3 x4 y0 y1 y2 y3 y4 y5; obtain ⟨x0, x1, x2, x3, x4⟩ := HX3.out.cells; obtain ⟨y0, y1, y2, y3, y4, y5⟩ := HY3.out; dsimp only at x0 x1 x2 x3 x4 y0 y1 y2 y3 y4 y5; clear hb; have tok1 : True := trivial))
        all_goals go_wp2
        all_goals go_ret2
        all_goals exact ⟨a, HCU.out, by rw [HFD.out] <;> rfl, HX3.out.bel⟩
      · have hfd : foundO l ⟨t0, t1, t2, t3, t4⟩ a = false := by unfold foundO; rw [List.getElem?_eq_none (by omega)]
        have HFD := Lib.hid hfd
        have g1 : ¬ (a : Int) < (l.length : Int) := by omega
        have HXD := Lib.hid HX.out.drew
        clear hfd HX
        go_wp2
        go_region
        all_goals go_wp2
        all_goals go_ret2
        all_goals exact ⟨a, HCU.out, by rw [HFD.out] <;> rfl, HXD.out.bel⟩
end Go.Proofs.YtdlmmbfnmnglaaaGreatDoor

namespace Go.Proofs.YtdlmmbfnmnglaaaGreatDoor
open Go.ChangeShapes Go.WideShapes Go.ChangeAt Go.RowKit

theorem cellsOve : Tryz.prog.cellsOf 47 = 6 := by kernel_rfl
theorem cellsI64' : Tryz.prog.cellsOf 2 = 1 := by kernel_rfl
theorem bounds_i64 {n : Int} (h : (Lit.int .i64 n).wf = true) : -9223372036854775808 ≤ n ∧ n ≤ 9223372036854775807 := by
  simp [Lit.wf, IntKind.min, IntKind.max, IntKind.signed, IntKind.bits] at h
  omega
section
variable {H : Type} {enc : TypeId × Value → H} {W : World}
set_option maxRecDepth 100000 in
theorem ost_raw {fuel : Nat} {held : Bool} {cs : List Value} {x : DataW H × List MemPlace} (h : DataW.trod enc Tryz.prog W 0 (fun _ => true) held fuel 45 cs = some x) :
    ∃ s : Ost, cs = [.int .i64 s.ball, .int .i64 s.need, .int .i64 s.str, .int .i64 s.par, .int .u16 s.wait] ∧ 0 ≤ s.wait ∧ s.wait < 65536 := by
  obtain ⟨ys, n, _, rfl, hc, hl, hf⟩ := DataW.trod_struct Tryz.underlying45 h
  rw [cellsOst] at hc
  match cs, hc with
  | [c0, c1, c2, c3, c4], _ =>
    match ys, hl with
    | [z0, z1, z2, z3, z4], _ =>
      obtain ⟨a0, e0, _, _⟩ := DataW.trod_int Tryz.underlying3 (hf 0 _ rfl)
      obtain ⟨a1, e1, _, _⟩ := DataW.trod_int Tryz.underlying3 (hf 1 _ rfl)
      obtain ⟨a2, e2, _, _⟩ := DataW.trod_int Tryz.underlying3 (hf 2 _ rfl)
      obtain ⟨a3, e3, _, _⟩ := DataW.trod_int Tryz.underlying3 (hf 3 _ rfl)
      obtain ⟨a4, e4, _, w4⟩ := DataW.trod_int Tryz.underlying43 (hf 4 _ rfl)
      have w4 := bounds_u16 w4
      have g0 : c0 = .int .i64 a0 := by simpa [Value.cells, cellsI', cellsU16] using e0
      have g1 : c1 = .int .i64 a1 := by simpa [Value.cells, cellsI', cellsU16] using e1
      have g2 : c2 = .int .i64 a2 := by simpa [Value.cells, cellsI', cellsU16] using e2
      have g3 : c3 = .int .i64 a3 := by simpa [Value.cells, cellsI', cellsU16] using e3
      have g4 : c4 = .int .u16 a4 := by simpa [Value.cells, cellsI', cellsU16] using e4
      subst g0 g1 g2 g3 g4
      exact ⟨⟨a0, a1, a2, a3, a4⟩, rfl, w4.1, by have := w4.2; show a4 < 65536; omega⟩
set_option maxRecDepth 100000 in
/-- An entry of a table that came in. -/
theorem open_ove {r : Reach} {b0 : Nat} {v : Value} {d : DataW H} {p : List MemPlace} (hv : Value.okWide Tryz.prog W r b0 47 v) (h : DataW.Trod enc Tryz.prog W 0 (fun _ => true) true 47 v d p) :
    ∃ x : Ove, v = .agg #[.int .i64 x.st.ball, .int .i64 x.st.need, .int .i64 x.st.str, .int .i64 x.st.par, .int .u16 x.st.wait, .int .i64 x.val] ∧ (0 ≤ x.st.wait ∧ x.st.wait < 65536) ∧ -9223372036854775808 ≤ x.val ∧ x.val ≤ 9223372036854775807 := by
  obtain ⟨cs, rfl, hsz⟩ := okWide_struct Tryz.underlying47 hv
  obtain ⟨fuel, hf⟩ := h
  obtain ⟨l⟩ := cs
  match l, hsz.trans cellsOve with
  | [c0, c1, c2, c3, c4, c5], _ =>
    obtain ⟨ys, n, _, _, _, hl, hf⟩ := DataW.trod_struct Tryz.underlying47 hf
    match ys, hl with
    | [z0, z1], _ =>
      obtain ⟨s, e0, hw⟩ := ost_raw (hf 0 _ rfl)
      obtain ⟨a1, e1, _, w1⟩ := DataW.trod_int Tryz.underlying2 (hf 1 _ rfl)
      have g0 : c0 = .int .i64 s.ball ∧ c1 = .int .i64 s.need ∧ c2 = .int .i64 s.str ∧ c3 = .int .i64 s.par ∧ c4 = .int .u16 s.wait := by simpa [Value.cells, cellsOst, cellsI64'] using e0
      have g1 : c5 = .int .i64 a1 := by simpa [Value.cells, cellsOst, cellsI64'] using e1
      obtain ⟨k0, k1, k2, k3, k4⟩ := g0
      subst k0 k1 k2 k3 k4 g1
      exact ⟨⟨s, a1⟩, rfl, hw, bounds_i64 w1⟩
end
end Go.Proofs.YtdlmmbfnmnglaaaGreatDoor

namespace Go.Proofs.YtdlmmbfnmnglaaaGreatDoor
open Go.RowKit

theorem less_iff {s t : Ost} : cmpO s t < 0 ↔ s.ball < t.ball ∨ (s.ball = t.ball ∧ (s.need < t.need ∨ (s.need = t.need ∧ (s.str < t.str ∨ (s.str = t.str ∧ (s.par < t.par ∨ (s.par = t.par ∧ s.wait < t.wait))))))) := by
  have h := lessX_is s t
  unfold lessO at h
  rw [← decide_eq_true_iff (p := cmpO s t < 0), ← h]
  unfold lessX
  by_cases h1 : s.ball = t.ball
  · rw [if_neg (by simp [h1])]
    by_cases h2 : s.need = t.need
    · rw [if_neg (by simp [h2])]
      by_cases h3 : s.str = t.str
      · rw [if_neg (by simp [h3])]
        by_cases h4 : s.par = t.par
        · rw [if_neg (by simp [h4]), decide_eq_true_iff]; omega
        · rw [if_pos h4, decide_eq_true_iff]; omega
      · rw [if_pos h3, decide_eq_true_iff]; omega
    · rw [if_pos h2, decide_eq_true_iff]; omega
  · rw [if_pos h1, decide_eq_true_iff]; omega
theorem cmpO_trans {s t u : Ost} (h1 : cmpO s t < 0) (h2 : cmpO t u < 0) : cmpO s u < 0 := by
  rw [less_iff] at *
  omega
theorem cmpO_total {s t : Ost} (h : s ≠ t) : cmpO s t < 0 ∨ cmpO t s < 0 := by
  rw [less_iff, less_iff]
  obtain ⟨a1, a2, a3, a4, a5⟩ := s
  obtain ⟨b1, b2, b3, b4, b5⟩ := t
  dsimp only
  have : ¬ (a1 = b1 ∧ a2 = b2 ∧ a3 = b3 ∧ a4 = b4 ∧ a5 = b5) := fun ⟨e1, e2, e3, e4, e5⟩ => h (by rw [e1, e2, e3, e4, e5])
  omega
/-- A table in order. -/
def StrictO (l : List Ove) : Prop := ∀ i j (hi : i < l.length) (hj : j < l.length), i < j → cmpO l[i].st l[j].st < 0
theorem StrictO.sort {l : List Ove} (h : StrictO l) (t : Ost) : SortO l t := fun i j hi hj hij hc => by
  by_cases e : i = j
  · subst e; exact hc
  · exact cmpO_trans (h i j hi hj (by omega)) hc
def lookL (l : List Ove) (t : Ost) : Int × Bool := match l.find? (fun x => (cmpO x.st t == 0)) with
  | some x => (x.val, true)
  | none => (0, false)
theorem cut_ex {l : List Ove} {t : Ost} (hs : SortO l t) : ∃ i, CutO l t i := by
  have : ∀ m, m ≤ l.length → ∃ i, i ≤ m ∧ (∀ k (h : k < l.length), k < i → cmpO l[k].st t < 0) ∧ ∀ k (h : k < l.length), i ≤ k → k < m → 0 ≤ cmpO l[k].st t := by
    intro m
    induction m with
    | zero => intro _; exact ⟨0, Nat.le_refl _, fun k h hk => by omega, fun k h h1 h2 => by omega⟩
    | succ m ih =>
      intro hm
      obtain ⟨i, h1, h2, h3⟩ := ih (by omega)
      by_cases hc : cmpO (l[m]'(by omega)).st t < 0
      · exact ⟨m + 1, Nat.le_refl _, fun k h hk => hs k m h (by omega) (by omega) hc, fun k h hk1 hk2 => by omega⟩
      · refine ⟨i, by omega, h2, fun k h hk1 hk2 => ?_⟩
        by_cases e : k = m
        · subst e; omega
        · exact h3 k h hk1 (by omega)
  obtain ⟨i, h1, h2, h3⟩ := this l.length (Nat.le_refl _)
  exact ⟨i, h1, h2, fun k h hk => h3 k h hk h⟩
theorem cut_one {l : List Ove} {t : Ost} {i j : Nat} (h1 : CutO l t i) (h2 : CutO l t j) : i = j := by
  rcases Nat.lt_trichotomy i j with h | h | h
  · have a := h2.2.1 i (by have := h2.1; omega) h
    have b := h1.2.2 i (by have := h2.1; omega) (Nat.le_refl _)
    omega
  · exact h
  · have a := h1.2.1 j (by have := h1.1; omega) h
    have b := h2.2.2 j (by have := h1.1; omega) (Nat.le_refl _)
    omega
theorem look_cut {l : List Ove} {t : Ost} {i : Nat} (hs : StrictO l) (hc : CutO l t i) : (foundO l t i = false → lookL l t = (0, false)) ∧ (foundO l t i = true → ∃ h : i < l.length, lookL l t = (l[i].val, true)) := by
  unfold lookL
  constructor
  · intro hf
    have hnone : l.find? (fun x => (cmpO x.st t == 0)) = none := by
      rw [List.find?_eq_none]
      intro x hx
      obtain ⟨k, hk, rfl⟩ := List.getElem_of_mem hx
      intro e0
      have hz : cmpO l[k].st t = 0 := by simpa using e0
      have e := cmpO_eq.1 hz
      rcases Nat.lt_trichotomy k i with h | h | h
      · have := hc.2.1 k hk h; omega
      · subst h
        unfold foundO at hf
        rw [List.getElem?_eq_getElem hk] at hf
        dsimp only at hf
        rw [hz] at hf
        cases hf
      · have hil : i < l.length := by omega
        have a := hs i k hil hk h
        rw [e] at a
        have b := hc.2.2 i hil (Nat.le_refl _)
        omega
    rw [hnone]
  · intro hf
    unfold foundO at hf
    by_cases hil : i < l.length
    · rw [List.getElem?_eq_getElem hil] at hf
      dsimp only at hf
      have hz : l[i].st = t := cmpO_eq.1 (by simpa using hf)
      refine ⟨hil, ?_⟩
      have hsome : l.find? (fun x => (cmpO x.st t == 0)) = some l[i] := by
        rw [List.find?_eq_some_iff_getElem]
        refine ⟨hf, i, hil, rfl, fun j hj => ?_⟩
        have := hc.2.1 j (by omega) hj
        have h9 : (cmpO l[j].st t == 0) = false := beq_eq_false_iff_ne.2 (by omega)
        rw [h9]; rfl
      rw [hsome]
    · rw [List.getElem?_eq_none (by omega)] at hf
      cases hf
set_option maxRecDepth 100000 in
set_option maxHeartbeats 1000000 in
theorem or_find (l : List Ove) (v : Value) (t : Ost) (w : World) (h : Sl 6 elOv w (· < w.heap.size) v l) (hn : l.length ≤ 1000000000000) (hs : StrictO l) :
    Calls Tryz.prog 42 #[v, osV t] w fun e w' => e = .returned (.tuple #[.int .i64 (lookL l t).1, .bool (lookL l t).2]) ∧ Below w.heap.size w w' := by
  obtain ⟨i, hcut⟩ := cut_ex (hs.sort t)
  obtain ⟨lk1, lk2⟩ := look_cut hs hcut
  obtain ⟨⟨z1, z2⟩, hz⟩ : ∃ z, z = lookL l t := ⟨_, rfl⟩
  rw [← hz] at lk1 lk2 ⊢
  have k : ∀ W, Below w.heap.size w W → Calls Tryz.prog 84 #[v, osV t, .func (.func 85) #[] #[]] W fun e w' => e = .returned (.tuple #[.int .i64 i, .bool (foundO l t i)]) ∧ Below W.heap.size W w' := fun W hW =>
    (or_search l v t W (h.keep elOv_good (Same.of_below hW) fun b hb => Nat.lt_of_lt_of_le hb hW.size) hn (hs.sort t)).mono fun e w' ⟨j, h1, h2, h3⟩ => ⟨by rw [cut_one hcut h1]; exact h2, h3⟩
  have HX0 := Lib.hid (BsO.new w t)
  have HL := Lib.hid h
  obtain ⟨A, c, rfl, hc, hc2⟩ := h.shape
  unfold osV at k ⊢
  clear h hs hcut hz
  cases hf : foundO l t i
  · rw [hf] at k
    have HZ := Lib.hid (lk1 hf)
    have K := Lib.hid k
    clear lk1 lk2 hf k
    go_enter Tryz.func42, Tryz.ntmps42
    go_wp2_with (go_at_call 84; refine (K.out _ HX0.out.bel).mono ?_; rintro e w2 ⟨rfl, hb⟩; have HX2 := Lib.hid (HX0.out.below hb); clear hb)
    go_ret2
    exact ⟨by have h9 := HZ.out; injection h9 with h7 h8; rw [h7, h8] <;> rfl, HX2.out.bel⟩
  · rw [hf] at k
    obtain ⟨hil, hz2⟩ := lk2 hf
    have HZ := Lib.hid hz2
    have K := Lib.hid k
    obtain ⟨b0, o, rfl, hbl, yy⟩ := ov_at HL.out hil
    have y5 := yy.2.2.2.2.2
    obtain ⟨pv, hpv⟩ : ∃ x, x = l[i].val := ⟨_, rfl⟩
    rw [← hpv] at y5 HZ
    clear lk1 lk2 hf k hz2 yy hpv
    have HY := Lib.hid y5
    go_enter Tryz.func42, Tryz.ntmps42
    go_wp2_with (go_at_call 84; refine (K.out _ HX0.out.bel).mono ?_; rintro e w2 ⟨rfl, hb⟩; have HX2 := Lib.hid (HX0.out.below hb); have y6 := (HX2.out.bel.cell (p := ⟨b0, o + i * 6 + 5, none⟩) hbl).trans HY.out; clear hb)
    go_ret2
    exact ⟨by have h9 := HZ.out; injection h9 with h7 h8; rw [h7, h8] <;> rfl, HX2.out.bel⟩
end Go.Proofs.YtdlmmbfnmnglaaaGreatDoor

namespace Go.Proofs.YtdlmmbfnmnglaaaGreatDoor
open Go.RowKit

set_option maxRecDepth 100000 in
set_option maxHeartbeats 1000000 in
theorem or_acc1 (l : List Ove) (v : Value) (t : Ost) (g : Nat) (w : World) (h : Sl 6 elOv w (· < w.heap.size) v l) (hn : l.length ≤ 1000000000000) (hs : StrictO l) (hg : g < w.heap.size) (hc : w.cell? ⟨g, 0, none⟩ = some v) :
    Calls Tryz.prog 45 #[osV t, .pointer (some ⟨g, 0, none⟩)] w fun e w' => e = .returned (.tuple #[.int .i64 (lookL l t).1, .bool (lookL l t).2]) ∧ Below w.heap.size w w' := by
  have k : ∀ W, Below w.heap.size w W → Calls Tryz.prog 42 #[v, osV t] W fun e w' => e = .returned (.tuple #[.int .i64 (lookL l t).1, .bool (lookL l t).2]) ∧ Below W.heap.size W w' := fun W hW =>
    or_find l v t W (h.keep elOv_good (Same.of_below hW) fun b hb => Nat.lt_of_lt_of_le hb hW.size) hn hs
  obtain ⟨⟨z1, z2⟩, hz⟩ : ∃ z, z = lookL l t := ⟨_, rfl⟩
  simp only [← hz] at k ⊢
  have HX0 := Lib.hid (BsO.new w t)
  obtain ⟨A, c, rfl, hc1, hc2⟩ := h.shape
  have y0 := (HX0.out.bel.cell (p := ⟨g, 0, none⟩) hg).trans hc
  unfold osV at k ⊢
  have K := Lib.hid k
  clear h hs hz k
  go_enter Tryz.func45, Tryz.ntmps45
  go_wp2_with (go_at_call 42; refine (K.out _ HX0.out.bel).mono ?_; rintro e w2 ⟨rfl, hb⟩; have HX2 := Lib.hid (HX0.out.below hb); clear hb)
  go_ret2
  exact ⟨rfl, HX2.out.bel⟩
end Go.Proofs.YtdlmmbfnmnglaaaGreatDoor

namespace Go.Proofs.YtdlmmbfnmnglaaaGreatDoor
open Go.RowKit

theorem Blk.put5 {w : World} {g : Nat} {t : TypeId} {a b c d e : Value} (h : Blk w g t #[a, b, c, d, e]) (x0 x1 x2 x3 x4 : Value) :
    Blk (((((w.setCell ⟨g, 0, none⟩ x0).setCell ⟨g, 1, none⟩ x1).setCell ⟨g, 2, none⟩ x2).setCell ⟨g, 3, none⟩ x3).setCell ⟨g, 4, none⟩ x4) g t #[x0, x1, x2, x3, x4] :=
  ((((h.set_ 0 x0).set_ 1 x1).set_ 2 x2).set_ 3 x3).set_ 4 x4
theorem below_set5 {B : Nat} {a w : World} (h : Below B a w) {g : Nat} (hg : B ≤ g) (x0 x1 x2 x3 x4 : Value) :
    Below B a (((((w.setCell ⟨g, 0, none⟩ x0).setCell ⟨g, 1, none⟩ x1).setCell ⟨g, 2, none⟩ x2).setCell ⟨g, 3, none⟩ x3).setCell ⟨g, 4, none⟩ x4) :=
  Below.setCell (Below.setCell (Below.setCell (Below.setCell (Below.setCell h hg x0) hg x1) hg x2) hg x3) hg x4
end Go.Proofs.YtdlmmbfnmnglaaaGreatDoor

namespace Go.Proofs.YtdlmmbfnmnglaaaGreatDoor
open Go.RowKit

theorem Blk.drewNB {w : World} {g : Nat} {t : TypeId} {cs : Array Value} (h : Blk w g t cs) (n : Nat) : Blk (w.drewN n) g t cs := h
theorem ne31 (n : Nat) : n + 1 + 1 + 1 ≠ n + 1 := by omega
theorem le3 (n : Nat) : n ≤ n + 1 + 1 + 1 := by omega
theorem le1 (n : Nat) : n ≤ n + 1 := by omega
theorem blk_far1 {W : World} {n : Nat} {t : TypeId} {cs : Array Value} (h : Blk W (n + 1 + 1 + 1) t cs) (i : Nat) (u : Value) : Blk (W.setCell ⟨n + 1, i, none⟩ u) (n + 1 + 1 + 1) t cs := h.far (ne31 n) u
theorem below_far1 {W a : World} {n : Nat} (h : Below n a W) (i : Nat) (u : Value) : Below n a (W.setCell ⟨n + 1, i, none⟩ u) := Below.setCell h (le1 n) u
theorem below_r (w : World) (o1 o2 o3 o4 : Obj) : Below w.heap.size w ((((w.alloc o1).alloc o2).alloc o3).alloc o4) :=
  Below.alloc (Below.alloc (Below.alloc (Below.alloc (Below.refl _ _) (Nat.le_refl _) o1) (by simp) o2) (by simp; omega) o3) (by simp; omega) o4
end Go.Proofs.YtdlmmbfnmnglaaaGreatDoor

namespace Go.Proofs.YtdlmmbfnmnglaaaGreatDoor
open Go.RowKit

end Go.Proofs.YtdlmmbfnmnglaaaGreatDoor

namespace Go.Proofs.YtdlmmbfnmnglaaaGreatDoor

/-- All of the first k but two. -/
def allW (k : Int) : Int := IntKind.u16.wrap (IntKind.u16.wrap (2 ^ k.toNat) - 1)
def oneW (a : Int) : Int := IntKind.u16.wrap (2 ^ a.toNat)
def lessW (k a b : Int) : Int := bits .andNot .u16 (allW k) (bits .or .u16 (oneW a) (oneW b))
theorem oneW_nat (i : Nat) (hi : i < 16) : oneW (i : Int) = ((2 ^ i : Nat) : Int) := by
  have hp : 2 ^ i < 65536 := Nat.pow_lt_pow_right (by decide) hi (n := 16)
  unfold oneW
  rw [Int.toNat_natCast, IntKind.wrap_u16]
  have : ((2 : Int) ^ i) = ((2 ^ i : Nat) : Int) := by push_cast; rfl
  rw [this]
  generalize 2 ^ i = q at hp
  omega
theorem allW_nat (k : Nat) (hk : k < 16) : allW (k : Int) = ((2 ^ k - 1 : Nat) : Int) := by
  have hp : 2 ^ k < 65536 := Nat.pow_lt_pow_right (by decide) hk (n := 16)
  have h0 : 0 < 2 ^ k := Nat.two_pow_pos k
  have h1 := oneW_nat k hk
  unfold oneW at h1
  unfold allW
  rw [h1, IntKind.wrap_u16]
  generalize 2 ^ k = q at hp h0
  omega
theorem or_lt (a b : Nat) (ha : a < 16) (hb : b < 16) : 2 ^ a ||| 2 ^ b < 65536 :=
  Nat.or_lt_two_pow (n := 16) (Nat.pow_lt_pow_right (by decide) ha) (Nat.pow_lt_pow_right (by decide) hb)
theorem lessW_nat (k a b : Nat) (hk : k < 16) (ha : a < 16) (hb : b < 16) : lessW k a b = (((2 ^ k - 1) &&& (65535 - (2 ^ a ||| 2 ^ b)) : Nat) : Int) := by
  have hp : 2 ^ k < 65536 := Nat.pow_lt_pow_right (by decide) hk (n := 16)
  have pa : 2 ^ a < 65536 := Nat.pow_lt_pow_right (by decide) ha (n := 16)
  have pb : 2 ^ b < 65536 := Nat.pow_lt_pow_right (by decide) hb (n := 16)
  unfold lessW
  rw [allW_nat k hk, oneW_nat a ha, oneW_nat b hb, u16_or_nat _ _ pa pb, u16_andNot_nat _ _ (by omega) (or_lt a b ha hb)]
theorem less_test (k a b j : Nat) (hk : k < 16) (ha : a < 16) (hb : b < 16) : ((2 ^ k - 1) &&& (65535 - (2 ^ a ||| 2 ^ b))).testBit j = (decide (j < k) && decide (j ≠ a) && decide (j ≠ b)) := by
  have ho := or_lt a b ha hb
  rw [Nat.testBit_and, Nat.testBit_two_pow_sub_one, show 65535 - (2 ^ a ||| 2 ^ b) = 2 ^ 16 - ((2 ^ a ||| 2 ^ b) + 1) by omega, Nat.testBit_two_pow_sub_succ (by omega), Nat.testBit_or, Nat.testBit_two_pow, Nat.testBit_two_pow]
  by_cases h1 : j < k
  · have h2 : j < 16 := by omega
    have e1 : decide (a = j) = decide (j = a) := decide_eq_decide.2 ⟨fun h => h.symm, fun h => h.symm⟩
    have e2 : decide (b = j) = decide (j = b) := decide_eq_decide.2 ⟨fun h => h.symm, fun h => h.symm⟩
    rw [e1, e2]
    simp [h1, h2]
  · simp [h1]
def openO (c : Chs) (a b : Int) : Ost := ⟨0, c.need, a, b, lessW c.ord.length a b⟩
theorem openO_bit {c : Chs} (ht : OkT c) {a b j : Nat} (ha : a < c.ord.length) (hb : b < c.ord.length) (hj : j < c.ord.length) : bitW (openO c a b).wait j = (decide (j ≠ a) && decide (j ≠ b)) := by
  have hp := ht.np
  show bitW (lessW _ _ _) _ = _
  rw [lessW_nat _ a b (by omega) (by omega) (by omega), bitW_nat _ j _ (by omega), less_test _ a b j (by omega) (by omega) (by omega)]
  · simp [hj]
  · have := Nat.and_le_left (n := 2 ^ c.ord.length - 1) (m := 65535 - (2 ^ a ||| 2 ^ b))
    have hq : 2 ^ c.ord.length < 65536 := Nat.pow_lt_pow_right (by decide) (show c.ord.length < 16 by omega) (n := 16)
    omega
theorem openO_ok {c : Chs} (ht : OkT c) {a b : Nat} (ha : a < c.ord.length) (hb : b < c.ord.length) (hne : a ≠ b) : OkOs c (openO c a b) ∧ vacO (openO c a b) = false ∧ leftO c (openO c a b) = c.bows.length := by
  have hp := ht.np
  have hneed := ht.ok.need
  have hq : 2 ^ c.ord.length < 65536 := Nat.pow_lt_pow_right (by decide) (show c.ord.length < 16 by omega) (n := 16)
  have hq0 : 0 < 2 ^ c.ord.length := Nat.two_pow_pos _
  have hle := Nat.and_le_left (n := 2 ^ c.ord.length - 1) (m := 65535 - (2 ^ a ||| 2 ^ b))
  have e := lessW_nat c.ord.length a b (by omega) (by omega) (by omega)
  refine ⟨⟨⟨Int.le_refl _, by show (0 : Int) ≤ _; omega⟩, ⟨by show 0 ≤ c.need; omega, Int.le_refl _⟩, ⟨by show -1 ≤ (a : Int); omega, by show (a : Int) < _; omega⟩, ⟨by show -1 ≤ (b : Int); omega, by show (b : Int) < _; omega⟩, ?_, ?_, by show (a : Int) ≠ (b : Int); omega, fun _ => ?_, fun _ => ?_⟩, ?_, ?_⟩
  · show 0 ≤ lessW _ _ _ ∧ lessW _ _ _ < 65536
    rw [e]; omega
  · show shrW (lessW _ _ _) _ = 0
    rw [e, shrW_nat _ _ (by omega), Nat.div_eq_of_lt (by omega)]; rfl
  · have := openO_bit ht ha hb ha
    rw [show (openO c a b).str = (a : Int) from rfl, this]; simp
  · have := openO_bit ht ha hb hb
    rw [show (openO c a b).par = (b : Int) from rfl, this]; simp
  · unfold vacO openO; simp
  · unfold leftO openO; simp
/-- The best pair: two loops. -/
def rowB (f : Int → Int → Int) (a : Nat) : Nat → (Int × Int) × Int → (Int × Int) × Int
  | 0, r => r
  | b + 1, r => if a = b then rowB f a b r else if (rowB f a b r).2 < f a b then (((a : Int), (b : Int)), f a b) else rowB f a b r
def allB (f : Int → Int → Int) (k : Nat) : Nat → (Int × Int) × Int → (Int × Int) × Int
  | 0, r => r
  | a + 1, r => rowB f a k (allB f k a r)
def bestS (c : Chs) (p : Int × Int) : (Int × Int) × Int := allB (fun a b => vO c (openO c a b)) c.ord.length c.ord.length (p, -1)
theorem rowB_ge (f : Int → Int → Int) (a : Nat) (r : (Int × Int) × Int) : ∀ k, r.2 ≤ (rowB f a k r).2 ∧ ∀ b, b < k → a ≠ b → f a b ≤ (rowB f a k r).2
  | 0 => ⟨Int.le_refl _, fun b h => by omega⟩
  | k + 1 => by
    obtain ⟨h1, h2⟩ := rowB_ge f a r k
    rw [rowB]
    by_cases e : a = k
    · rw [if_pos e]
      exact ⟨h1, fun b hb hne => h2 b (by omega) hne⟩
    · rw [if_neg e]
      by_cases hlt : (rowB f a k r).2 < f a k
      · rw [if_pos hlt]
        refine ⟨by show r.2 ≤ f a k; omega, fun b hb hne => ?_⟩
        show f a b ≤ f a k
        by_cases e2 : b = k
        · subst e2; exact Int.le_refl _
        · have := h2 b (by omega) hne; omega
      · rw [if_neg hlt]
        refine ⟨h1, fun b hb hne => ?_⟩
        by_cases e2 : b = k
        · subst e2; omega
        · exact h2 b (by omega) hne
theorem allB_ge (f : Int → Int → Int) (k : Nat) (r : (Int × Int) × Int) : ∀ n, r.2 ≤ (allB f k n r).2 ∧ ∀ a b, a < n → b < k → a ≠ b → f a b ≤ (allB f k n r).2
  | 0 => ⟨Int.le_refl _, fun a b h => by omega⟩
  | n + 1 => by
    obtain ⟨h1, h2⟩ := allB_ge f k r n
    obtain ⟨h3, h4⟩ := rowB_ge f n (allB f k n r) k
    rw [allB]
    refine ⟨by omega, fun a b ha hb hne => ?_⟩
    by_cases e : a = n
    · subst e; exact h4 b hb hne
    · have := h2 a b (by omega) hb hne; omega
/-- From where the loops start does not matter once a pair has been taken. -/
theorem rowB_same (f : Int → Int → Int) (a : Nat) {r q : (Int × Int) × Int} (h : r.2 = q.2) : ∀ k, (rowB f a k r).2 = (rowB f a k q).2 ∧ (rowB f a k r = rowB f a k q ∨ (rowB f a k r = r ∧ rowB f a k q = q))
  | 0 => ⟨h, .inr ⟨rfl, rfl⟩⟩
  | k + 1 => by
    obtain ⟨h1, h2⟩ := rowB_same f a h k
    rw [rowB, rowB]
    by_cases e : a = k
    · rw [if_pos e, if_pos e]; exact ⟨h1, h2⟩
    · rw [if_neg e, if_neg e, h1]
      by_cases hlt : (rowB f a k q).2 < f a k
      · rw [if_pos hlt, if_pos hlt]; exact ⟨rfl, .inl rfl⟩
      · rw [if_neg hlt, if_neg hlt]; exact ⟨h1, h2⟩
theorem allB_same (f : Int → Int → Int) (k : Nat) {r q : (Int × Int) × Int} (h : r.2 = q.2) : ∀ n, (allB f k n r).2 = (allB f k n q).2 ∧ (allB f k n r = allB f k n q ∨ (allB f k n r = r ∧ allB f k n q = q))
  | 0 => ⟨h, .inr ⟨rfl, rfl⟩⟩
  | n + 1 => by
    obtain ⟨h1, h2⟩ := allB_same f k h n
    rw [allB, allB]
    obtain ⟨h3, h4⟩ := rowB_same f n h1 k
    refine ⟨h3, ?_⟩
    rcases h2 with h2 | ⟨h5, h6⟩
    · left; rw [h2]
    · rcases h4 with h4 | ⟨h7, h8⟩
      · exact .inl h4
      · exact .inr ⟨h7.trans h5, h8.trans h6⟩
theorem bestS_same {c : Chs} (ht : OkT c) (p q : Int × Int) : bestS c p = bestS c q := by
  have hp := ht.np
  obtain ⟨h1, h2⟩ := allB_same (fun a b => vO c (openO c a b)) c.ord.length (r := (p, -1)) (q := (q, -1)) rfl c.ord.length
  rcases h2 with h2 | ⟨h3, _⟩
  · exact h2
  · exfalso
    have h4 := (allB_ge (fun a b => vO c (openO c a b)) c.ord.length (p, -1) c.ord.length).2 0 1 (by omega) (by omega) (by omega)
    rw [h3] at h4
    have h5 := (vO_bd ht _ _ (openO_ok ht (a := 0) (b := 1) (by omega) (by omega) (by omega)).1 rfl).1
    have h6 : vO c (openO c (0 : Nat) (1 : Nat)) ≤ -1 := h4
    omega
def bestOS (c : Chs) : (Int × Int) × Int × Int := if checkO c ≠ 0 then ((0, 0), 0, checkO c) else ((bestS c (0, 0)).1, (bestS c (0, 0)).2, 0)
/-- A state of the chase with a fixed order beside one of the task. -/
structure SimO (c : Chs) (l : List Int) (s : Cst) (t : Ost) : Prop where
  ball : t.ball = s.ball
  need : t.need = s.need
  str : 0 ≤ s.str → s.str.toNat < l.length ∧ l[s.str.toNat]? = some t.str
  par : 0 ≤ s.par ∧ s.par.toNat < l.length ∧ l[s.par.toNat]? = some t.par
  wait : ∀ i : Nat, s.nxt ≤ i → ∀ x, l[i]? = some x → bitW t.wait x = true
end Go.Proofs.YtdlmmbfnmnglaaaGreatDoor

namespace Go.Proofs.YtdlmmbfnmnglaaaGreatDoor
open Go.RowKit

theorem oblk_r (w : World) (o1 o2 o3 : Obj) : Blk ((((w.alloc o1).alloc o2).alloc o3).alloc (.cells #[.int .i64 0, .int .i64 0, .int .i64 0, .int .i64 0, .int .u16 0] 45)) (w.heap.size + 1 + 1 + 1) 45 #[.int .i64 0, .int .i64 0, .int .i64 0, .int .i64 0, .int .u16 0] := by
  have h := Blk.new (((w.alloc o1).alloc o2).alloc o3) 45 #[.int .i64 0, .int .i64 0, .int .i64 0, .int .i64 0, .int .u16 0]
  rwa [World.size_alloc, World.size_alloc, World.size_alloc] at h
theorem oblk_rv (w : World) (o1 o2 o3 : Obj) (x0 x1 x2 x3 x4 : Value) : Blk ((((w.alloc o1).alloc o2).alloc o3).alloc (.cells #[x0, x1, x2, x3, x4] 45)) (w.heap.size + 1 + 1 + 1) 45 #[x0, x1, x2, x3, x4] := by
  have h := Blk.new (((w.alloc o1).alloc o2).alloc o3) 45 #[x0, x1, x2, x3, x4]
  rwa [World.size_alloc, World.size_alloc, World.size_alloc] at h
theorem or_send_ret {R' : Ending → World → Prop} {a : Act} {w : World} {x0 x1 x2 x3 x4 : Value} {g : Nat} (h2 : a.tmps[4]? = some (.pointer (some ⟨g, 0, none⟩))) (hb : Blk w g 45 #[x0, x1, x2, x3, x4])
    (hd : a.defers = []) (hR : R' (.returned (.agg #[x0, x1, x2, x3, x4])) w) : bodyPost Tryz.prog Tryz.f89 R' .ret a w := by
  have r0 := hb.cell 0
  have r1 := hb.cell 1
  have r2 := hb.cell 2
  have r3 := hb.cell 3
  have r4 := hb.cell 4
  simp only [List.getElem?_toArray, List.getElem?_cons_zero, List.getElem?_cons_succ] at r0 r1 r2 r3 r4
  refine bodyPost_ret (v := .agg #[x0, x1, x2, x3, x4]) (by simp [results, Tryz.results89, go_sem, h2, r0, r1, r2, r3, r4]) hd hR
set_option maxRecDepth 100000 in
set_option maxHeartbeats 4000000 in
theorem or_send (s : Ost) (i : Int) (w : World) (hw : 0 ≤ s.wait ∧ s.wait < 65536) (hi : 0 ≤ i ∧ i < 16) :
    Calls Tryz.prog 89 #[osV s, .int .i64 i] w fun e w' => e = .returned (osV (sendO s i)) ∧ Below w.heap.size w w' := by
  obtain ⟨z, hz⟩ : ∃ z, z = sendO s i := ⟨_, rfl⟩
  rw [← hz]
  unfold sendO clrW at hz
  obtain ⟨a, b, c, d, wt⟩ := s
  obtain ⟨hi1, hi2⟩ := hi
  obtain ⟨hw1, hw2⟩ := hw
  unfold osV
  dsimp only at hw1 hw2 hz ⊢
  by_cases h1 : c < 0
  · rw [if_pos h1] at hz
    have HZ := Lib.hid hz
    clear hz
    go_enter Tryz.func89, Tryz.ntmps89
    go_wp2
    all_goals go_region
    all_goals go_wp2
    all_goals
      apply or_send_ret (g := w.heap.size + 1) (h2 := rfl) (hd := rfl)
      case hb =>
        repeat (with_reducible refine Blk.drewNB ?_ _)
        first | exact blk_two _ _ _ _ | exact (blk_two _ _ _ _).drew
      case hR =>
        refine ⟨by rw [HZ.out] <;> rfl, ?_⟩
        repeat (with_reducible refine Below.drewN_ ?_ _)
        first | exact below_two _ _ _ | exact Below.drew (below_two _ _ _)
  · rw [if_neg h1] at hz
    have HZ := Lib.hid hz
    clear hz
    go_enter Tryz.func89, Tryz.ntmps89
    go_wp2
    all_goals go_region
    all_goals go_wp2
    all_goals
      apply or_send_ret (g := w.heap.size + 1) (h2 := rfl) (hd := rfl)
      case hb =>
        repeat (with_reducible refine Blk.drewNB ?_ _)
        first | exact blk_two _ _ _ _ | exact (blk_two _ _ _ _).drew
      case hR =>
        refine ⟨by rw [HZ.out] <;> rfl, ?_⟩
        repeat (with_reducible refine Below.drewN_ ?_ _)
        first | exact below_two _ _ _ | exact Below.drew (below_two _ _ _)
theorem r45_send_ret {R' : Ending → World → Prop} {a : Act} {w : World} {x0 x1 x2 x3 x4 : Value} {g : Nat} (h2 : a.tmps[4]? = some (.pointer (some ⟨g, 0, none⟩))) (hb : Blk w g 45 #[x0, x1, x2, x3, x4])
    (hd : a.defers = []) (hR : R' (.returned (.agg #[x0, x1, x2, x3, x4])) w) : bodyPost Tryz.prog Tryz.f117 R' .ret a w := by
  have r0 := hb.cell 0
  have r1 := hb.cell 1
  have r2 := hb.cell 2
  have r3 := hb.cell 3
  have r4 := hb.cell 4
  simp only [List.getElem?_toArray, List.getElem?_cons_zero, List.getElem?_cons_succ] at r0 r1 r2 r3 r4
  refine bodyPost_ret (v := .agg #[x0, x1, x2, x3, x4]) (by simp [results, Tryz.results117, go_sem, h2, r0, r1, r2, r3, r4]) hd hR
set_option maxRecDepth 100000 in
set_option maxHeartbeats 4000000 in
theorem r45_send (s : Ost) (i : Int) (w : World) (hw : 0 ≤ s.wait ∧ s.wait < 65536) (hi : 0 ≤ i ∧ i < 16) :
    Calls Tryz.prog 117 #[osV s, .int .i64 i] w fun e w' => e = .returned (osV (sendO s i)) ∧ Below w.heap.size w w' := by
  obtain ⟨z, hz⟩ : ∃ z, z = sendO s i := ⟨_, rfl⟩
  rw [← hz]
  unfold sendO clrW at hz
  obtain ⟨a, b, c, d, wt⟩ := s
  obtain ⟨hi1, hi2⟩ := hi
  obtain ⟨hw1, hw2⟩ := hw
  unfold osV
  dsimp only at hw1 hw2 hz ⊢
  by_cases h1 : c < 0
  · rw [if_pos h1] at hz
    have HZ := Lib.hid hz
    clear hz
    go_enter Tryz.func117, Tryz.ntmps117
    go_wp2
    all_goals go_region
    all_goals go_wp2
    all_goals
      apply r45_send_ret (g := w.heap.size + 1) (h2 := rfl) (hd := rfl)
      case hb =>
        repeat (with_reducible refine Blk.drewNB ?_ _)
        first | exact blk_two _ _ _ _ | exact (blk_two _ _ _ _).drew
      case hR =>
        refine ⟨by rw [HZ.out] <;> rfl, ?_⟩
        repeat (with_reducible refine Below.drewN_ ?_ _)
        first | exact below_two _ _ _ | exact Below.drew (below_two _ _ _)
  · rw [if_neg h1] at hz
    have HZ := Lib.hid hz
    clear hz
    go_enter Tryz.func117, Tryz.ntmps117
    go_wp2
    all_goals go_region
    all_goals go_wp2
    all_goals
      apply r45_send_ret (g := w.heap.size + 1) (h2 := rfl) (hd := rfl)
      case hb =>
        repeat (with_reducible refine Blk.drewNB ?_ _)
        first | exact blk_two _ _ _ _ | exact (blk_two _ _ _ _).drew
      case hR =>
        refine ⟨by rw [HZ.out] <;> rfl, ?_⟩
        repeat (with_reducible refine Below.drewN_ ?_ _)
        first | exact below_two _ _ _ | exact Below.drew (below_two _ _ _)
set_option maxRecDepth 100000 in
set_option maxHeartbeats 4000000 in
theorem or_moves (c : Chs) (s : Ost) (bv wv pv ov : Value) (w : World) (h : ChAt w (· < w.heap.size) bv wv pv ov c) (hc : OkC c) (hs : OkOs c s) (h1 : s.ball ≠ c.bows.length) (h2 : vacO s = false) :
    Calls Tryz.prog 90 #[chV c bv wv pv ov, osV s] w fun e w' => ∃ A n k, e = .returned (.slice A n k) ∧ Below w.heap.size w w' ∧ Sl 3 elOtc w' (fun b => w.heap.size ≤ b ∧ b < w'.heap.size) (.slice A n k) (mvO c s) := by
  unfold chV osV
  obtain ⟨ball, need, str, par, wait⟩ := s
  obtain ⟨A, ca, rfl, hc1, hc2⟩ := h.mdl.bat.shape
  obtain ⟨A1, ca1, rfl, hc3, hc4⟩ := h.mdl.bow.shape
  obtain ⟨A2, ca2, rfl, hc5, hc6⟩ := h.bow.shape
  obtain ⟨A3, ca3, rfl, hc7, hc8⟩ := h.ord.shape
  have hx := OSB.new w c (.slice A c.mdl.bats.length ca) (.slice A1 c.mdl.bows.length ca1) (.slice A2 c.bows.length ca2) (.slice A3 c.ord.length ca3) ⟨ball, need, str, par, wait⟩
  have HX := Lib.hid hx
  have HM := Lib.hid h
  obtain ⟨i, j, bt, bw, e1, e2, s0, s1, i0, i1, j0, j1, f1, f2, hsh, hq5⟩ := mvO_at hc hs h1 h2
  have sn := hs.str.2
  have sb := hs.ball.1
  dsimp only at e1 e2 s0 s1 sn sb
  obtain ⟨a, rfl⟩ : ∃ a : Nat, str = (a : Int) := ⟨str.toNat, by omega⟩
  obtain ⟨e, rfl⟩ : ∃ a : Nat, ball = (a : Int) := ⟨ball.toNat, by omega⟩
  obtain ⟨i, rfl⟩ : ∃ a : Nat, i = (a : Int) := ⟨i.toNat, by omega⟩
  obtain ⟨j, rfl⟩ : ∃ a : Nat, j = (a : Int) := ⟨j.toNat, by omega⟩
  rw [Int.toNat_natCast] at e1 e2 f1 f2
  have la : a < c.ord.length := by omega
  have le : e < c.bows.length := by omega
  have li : i < c.mdl.bats.length := by omega
  have lj : j < c.mdl.bows.length := by omega
  have ga : c.ord[a] = (i : Int) := by rw [List.getElem?_eq_getElem la] at e1; exact Option.some.inj e1
  have ge : c.bows[e] = (j : Int) := by rw [List.getElem?_eq_getElem le] at e2; exact Option.some.inj e2
  have gi : c.mdl.bats[i] = bt := by rw [List.getElem?_eq_getElem li] at f1; exact Option.some.inj f1
  have gj : c.mdl.bows[j] = bw := by rw [List.getElem?_eq_getElem lj] at f2; exact Option.some.inj f2
  obtain ⟨b0, o0, rfl, hb0, z0⟩ := int_at h.ord la
  obtain ⟨b1, o1, rfl, hb1, z1⟩ := int_at h.bow le
  obtain ⟨b2, o2, v, rfl, hb2, hq3, z2, hv, hq1⟩ := bat_at h.mdl.bat li
  obtain ⟨b3, o3, rfl, hb3, hq4, z3, hq2⟩ := bow_at h.mdl.bow lj
  rw [ga] at z0
  rw [ge] at z1
  rw [gi] at hv
  rw [gj] at z3
  have ks := fun W (hW : Below w.heap.size w W) => m_Shift bt.dist v bw.shift W (hv.keep elOtc_good (Same.of_below hW) fun b h => Nat.lt_of_lt_of_le h hW.size)
  rw [hsh] at ks
  obtain ⟨n, hn⟩ : ∃ n, n = bw.shift := ⟨_, rfl⟩
  rw [← hn] at ks z3
  obtain ⟨l, hl⟩ : ∃ l, l = mvO c ⟨(e : Int), need, (a : Int), par, wait⟩ := ⟨_, rfl⟩
  rw [← hl] at ks ⊢
  have KS := Lib.hid ks
  obtain ⟨W, hW⟩ : ∃ W, W = (w.alloc (.cells (chC c (.slice (some ⟨b2, o2, none⟩) c.mdl.bats.length ca) (.slice (some ⟨b3, o3, none⟩) c.mdl.bows.length ca1) (.slice (some ⟨b1, o1, none⟩) c.bows.length ca2) (.slice (some ⟨b0, o0, none⟩) c.ord.length ca3)) 42)).alloc (.cells #[.int .i64 (e : Int), .int .i64 need, .int .i64 (a : Int), .int .i64 par, .int .u16 wait] 45) := ⟨_, rfl⟩
  have hx2 : OSB w W w.heap.size c (.slice (some ⟨b2, o2, none⟩) c.mdl.bats.length ca) (.slice (some ⟨b3, o3, none⟩) c.mdl.bows.length ca1) (.slice (some ⟨b1, o1, none⟩) c.bows.length ca2) (.slice (some ⟨b0, o0, none⟩) c.ord.length ca3) ⟨(e : Int), need, (a : Int), par, wait⟩ := by rw [hW]; exact hx
  have y0 : W.cell? ⟨b0, o0 + a, none⟩ = some (.int .i64 (i : Int)) := (hx2.bel.cell (p := ⟨b0, o0 + a, none⟩) hb0).trans z0
  have y1 : W.cell? ⟨b1, o1 + e, none⟩ = some (.int .i64 (j : Int)) := (hx2.bel.cell (p := ⟨b1, o1 + e, none⟩) hb1).trans z1
  have y2 : W.cell? ⟨b2, o2 + i * 2 + 1, none⟩ = some v := (hx2.bel.cell (p := ⟨b2, o2 + i * 2 + 1, none⟩) hb2).trans z2
  have y3 : W.cell? ⟨b3, o3 + j * 2 + 1, none⟩ = some (.int .i64 n) := (hx2.bel.cell (p := ⟨b3, o3 + j * 2 + 1, none⟩) hb3).trans z3
  have HX2 := Lib.hid hx2
  have Z0 := Lib.hid z0
  have Z1 := Lib.hid z1
  have Z2 := Lib.hid z2
  have Z3 := Lib.hid z3
  have B0 := Lib.hid hb0
  have B1 := Lib.hid hb1
  have B2 := Lib.hid hb2
  have B3 := Lib.hid hb3
  have HW := Lib.hid hW
  have p1 : (0 : Int) ≤ (a : Int) := by omega
  have p2 : (a : Int) < (c.ord.length : Int) := by omega
  have p3 : (0 : Int) ≤ (e : Int) := by omega
  have p4 : (e : Int) < (c.bows.length : Int) := by omega
  have p5 : (0 : Int) ≤ (i : Int) := by omega
  have p6 : (i : Int) < (c.mdl.bats.length : Int) := by omega
  have p7 : (0 : Int) ≤ (j : Int) := by omega
  have p8 : (j : Int) < (c.mdl.bows.length : Int) := by omega
  clear hq1 hq2 hq3 hq4 hq5 ks hn hl hsh hv z0 z1 z2 z3 hb0 hb1 hb2 hb3 ga ge gi gj la le li lj e1 e2 f1 f2 s0 s1 i0 i1 j0 j1 sn sb h1 h2 hs hc hx h HM HX hx2 hW y0 y1 y2 y3
  go_enter Tryz.func90, Tryz.ntmps90
  go_wp2
  unfold chC at HW
  rw [← HW.out]
  clear HW
  have y0 : W.cell? ⟨b0, o0 + a, none⟩ = some (.int .i64 (i : Int)) := (HX2.out.bel.cell (p := ⟨b0, o0 + a, none⟩) B0.out).trans Z0.out
  have y1 : W.cell? ⟨b1, o1 + e, none⟩ = some (.int .i64 (j : Int)) := (HX2.out.bel.cell (p := ⟨b1, o1 + e, none⟩) B1.out).trans Z1.out
  have y2 : W.cell? ⟨b2, o2 + i * 2 + 1, none⟩ = some v := (HX2.out.bel.cell (p := ⟨b2, o2 + i * 2 + 1, none⟩) B2.out).trans Z2.out
  have y3 : W.cell? ⟨b3, o3 + j * 2 + 1, none⟩ = some (.int .i64 n) := (HX2.out.bel.cell (p := ⟨b3, o3 + j * 2 + 1, none⟩) B3.out).trans Z3.out
  obtain ⟨x0, x1, x2, x3, x4, x5, x6, t0, t1, t2, t3, t4⟩ := HX2.out.cells
  dsimp only at t0 t1 t2 t3 t4
  have HXD := Lib.hid HX2.out.drew
  go_region_held3 (fun w' => w'.cell? ⟨w.heap.size, 0, none⟩ = some (.slice (some ⟨b2, o2, none⟩) c.mdl.bats.length ca) ∧ w'.cell? ⟨w.heap.size, 1, none⟩ = some (.slice (some ⟨b3, o3, none⟩) c.mdl.bows.length ca1) ∧ w'.cell? ⟨w.heap.size, 2, none⟩ = some (.slice (some ⟨b1, o1, none⟩) c.bows.length ca2) ∧ w'.cell? ⟨w.heap.size, 6, none⟩ = some (.slice (some ⟨b0, o0, none⟩) c.ord.length ca3) ∧ w'.cell? ⟨w.heap.size + 1, 0, none⟩ = some (.int .i64 (e : Int)) ∧ w'.cell? ⟨w.heap.size + 1, 2, none⟩ = some (.int .i64 (a : Int)) ∧ w'.cell? ⟨b0, o0 + a, none⟩ = some (.int .i64 (i : Int)) ∧ w'.cell? ⟨b1, o1 + e, none⟩ = some (.int .i64 (j : Int)) ∧ w'.cell? ⟨b2, o2 + i * 2 + 1, none⟩ = some v ∧ w'.cell? ⟨b3, o3 + j * 2 + 1, none⟩ = some (.int .i64 n)) (first | exact ⟨x0, x1, x2, x6, t0, t2, u0, u1, u2, u3⟩ | exact ⟨x0, x1, x2, x6, t0, t2, y0, y1, y2, y3⟩ | go_keep) ((go_at_call 112; refine (KS.out _ HXD.out.bel).mono ?_; rintro e4 w4 ⟨v4, rfl, hs4, hb4⟩; obtain ⟨A4, c4, rfl, hc41, hc42⟩ := hs4.shape; have HX4 := Lib.hid (HXD.out.below hb4); obtain ⟨x0, x1, x2, x3, x4, x5, x6, t0, t1, t2, t3, t4⟩ := HX4.out.cells; dsimp only at t0 t1 t2 t3 t4; have u0 := (hb4.cell (p := ⟨b0, o0 + a, none⟩) (Nat.lt_of_lt_of_le B0.out HXD.out.bel.size)).trans y0; have u1 := (hb4.cell (p := ⟨b1, o1 + e, none⟩) (Nat.lt_of_lt_of_le B1.out HXD.out.bel.size)).trans y1; have u2 := (hb4.cell (p := ⟨b2, o2 + i * 2 + 1, none⟩) (Nat.lt_of_lt_of_le B2.out HXD.out.bel.size)).trans y2; have u3 := (hb4.cell (p := ⟨b3, o3 + j * 2 + 1, none⟩) (Nat.lt_of_lt_of_le B3.out HXD.out.bel.size)).trans y3; have HS4 := Lib.hid hs4; clear hs4 hb4))
  all_goals go_wp2
  go_ret
  exact ⟨_, _, _, rfl, HX4.out.bel, HS4.out.keep elOtc_good (Same.refl _ _) fun b h => ⟨Nat.le_trans HXD.out.bel.size h.1, h.2⟩⟩
set_option maxRecDepth 100000 in
set_option maxHeartbeats 4000000 in
theorem r45_moves (c : Chs) (s : Ost) (bv wv pv ov : Value) (w : World) (h : ChAt w (· < w.heap.size) bv wv pv ov c) (hc : OkC c) (hs : OkOs c s) (h1 : s.ball ≠ c.bows.length) (h2 : vacO s = false) :
    Calls Tryz.prog 118 #[chV c bv wv pv ov, osV s] w fun e w' => ∃ A n k, e = .returned (.slice A n k) ∧ Below w.heap.size w w' ∧ Sl 3 elOtc w' (fun b => w.heap.size ≤ b ∧ b < w'.heap.size) (.slice A n k) (mvO c s) := by
  unfold chV osV
  obtain ⟨ball, need, str, par, wait⟩ := s
  obtain ⟨A, ca, rfl, hc1, hc2⟩ := h.mdl.bat.shape
  obtain ⟨A1, ca1, rfl, hc3, hc4⟩ := h.mdl.bow.shape
  obtain ⟨A2, ca2, rfl, hc5, hc6⟩ := h.bow.shape
  obtain ⟨A3, ca3, rfl, hc7, hc8⟩ := h.ord.shape
  have hx := OSB.new w c (.slice A c.mdl.bats.length ca) (.slice A1 c.mdl.bows.length ca1) (.slice A2 c.bows.length ca2) (.slice A3 c.ord.length ca3) ⟨ball, need, str, par, wait⟩
  have HX := Lib.hid hx
  have HM := Lib.hid h
  obtain ⟨i, j, bt, bw, e1, e2, s0, s1, i0, i1, j0, j1, f1, f2, hsh, hq5⟩ := mvO_at hc hs h1 h2
  have sn := hs.str.2
  have sb := hs.ball.1
  dsimp only at e1 e2 s0 s1 sn sb
  obtain ⟨a, rfl⟩ : ∃ a : Nat, str = (a : Int) := ⟨str.toNat, by omega⟩
  obtain ⟨e, rfl⟩ : ∃ a : Nat, ball = (a : Int) := ⟨ball.toNat, by omega⟩
  obtain ⟨i, rfl⟩ : ∃ a : Nat, i = (a : Int) := ⟨i.toNat, by omega⟩
  obtain ⟨j, rfl⟩ : ∃ a : Nat, j = (a : Int) := ⟨j.toNat, by omega⟩
  rw [Int.toNat_natCast] at e1 e2 f1 f2
  have la : a < c.ord.length := by omega
  have le : e < c.bows.length := by omega
  have li : i < c.mdl.bats.length := by omega
  have lj : j < c.mdl.bows.length := by omega
  have ga : c.ord[a] = (i : Int) := by rw [List.getElem?_eq_getElem la] at e1; exact Option.some.inj e1
  have ge : c.bows[e] = (j : Int) := by rw [List.getElem?_eq_getElem le] at e2; exact Option.some.inj e2
  have gi : c.mdl.bats[i] = bt := by rw [List.getElem?_eq_getElem li] at f1; exact Option.some.inj f1
  have gj : c.mdl.bows[j] = bw := by rw [List.getElem?_eq_getElem lj] at f2; exact Option.some.inj f2
  obtain ⟨b0, o0, rfl, hb0, z0⟩ := int_at h.ord la
  obtain ⟨b1, o1, rfl, hb1, z1⟩ := int_at h.bow le
  obtain ⟨b2, o2, v, rfl, hb2, hq3, z2, hv, hq1⟩ := bat_at h.mdl.bat li
  obtain ⟨b3, o3, rfl, hb3, hq4, z3, hq2⟩ := bow_at h.mdl.bow lj
  rw [ga] at z0
  rw [ge] at z1
  rw [gi] at hv
  rw [gj] at z3
  have ks := fun W (hW : Below w.heap.size w W) => r_Shift bt.dist v bw.shift W (hv.keep elOtc_good (Same.of_below hW) fun b h => Nat.lt_of_lt_of_le h hW.size)
  rw [hsh] at ks
  obtain ⟨n, hn⟩ : ∃ n, n = bw.shift := ⟨_, rfl⟩
  rw [← hn] at ks z3
  obtain ⟨l, hl⟩ : ∃ l, l = mvO c ⟨(e : Int), need, (a : Int), par, wait⟩ := ⟨_, rfl⟩
  rw [← hl] at ks ⊢
  have KS := Lib.hid ks
  obtain ⟨W, hW⟩ : ∃ W, W = (w.alloc (.cells (chC c (.slice (some ⟨b2, o2, none⟩) c.mdl.bats.length ca) (.slice (some ⟨b3, o3, none⟩) c.mdl.bows.length ca1) (.slice (some ⟨b1, o1, none⟩) c.bows.length ca2) (.slice (some ⟨b0, o0, none⟩) c.ord.length ca3)) 42)).alloc (.cells #[.int .i64 (e : Int), .int .i64 need, .int .i64 (a : Int), .int .i64 par, .int .u16 wait] 45) := ⟨_, rfl⟩
  have hx2 : OSB w W w.heap.size c (.slice (some ⟨b2, o2, none⟩) c.mdl.bats.length ca) (.slice (some ⟨b3, o3, none⟩) c.mdl.bows.length ca1) (.slice (some ⟨b1, o1, none⟩) c.bows.length ca2) (.slice (some ⟨b0, o0, none⟩) c.ord.length ca3) ⟨(e : Int), need, (a : Int), par, wait⟩ := by rw [hW]; exact hx
  have y0 : W.cell? ⟨b0, o0 + a, none⟩ = some (.int .i64 (i : Int)) := (hx2.bel.cell (p := ⟨b0, o0 + a, none⟩) hb0).trans z0
  have y1 : W.cell? ⟨b1, o1 + e, none⟩ = some (.int .i64 (j : Int)) := (hx2.bel.cell (p := ⟨b1, o1 + e, none⟩) hb1).trans z1
  have y2 : W.cell? ⟨b2, o2 + i * 2 + 1, none⟩ = some v := (hx2.bel.cell (p := ⟨b2, o2 + i * 2 + 1, none⟩) hb2).trans z2
  have y3 : W.cell? ⟨b3, o3 + j * 2 + 1, none⟩ = some (.int .i64 n) := (hx2.bel.cell (p := ⟨b3, o3 + j * 2 + 1, none⟩) hb3).trans z3
  have HX2 := Lib.hid hx2
  have Z0 := Lib.hid z0
  have Z1 := Lib.hid z1
  have Z2 := Lib.hid z2
  have Z3 := Lib.hid z3
  have B0 := Lib.hid hb0
  have B1 := Lib.hid hb1
  have B2 := Lib.hid hb2
  have B3 := Lib.hid hb3
  have HW := Lib.hid hW
  have p1 : (0 : Int) ≤ (a : Int) := by omega
  have p2 : (a : Int) < (c.ord.length : Int) := by omega
  have p3 : (0 : Int) ≤ (e : Int) := by omega
  have p4 : (e : Int) < (c.bows.length : Int) := by omega
  have p5 : (0 : Int) ≤ (i : Int) := by omega
  have p6 : (i : Int) < (c.mdl.bats.length : Int) := by omega
  have p7 : (0 : Int) ≤ (j : Int) := by omega
  have p8 : (j : Int) < (c.mdl.bows.length : Int) := by omega
  clear hq1 hq2 hq3 hq4 hq5 ks hn hl hsh hv z0 z1 z2 z3 hb0 hb1 hb2 hb3 ga ge gi gj la le li lj e1 e2 f1 f2 s0 s1 i0 i1 j0 j1 sn sb h1 h2 hs hc hx h HM HX hx2 hW y0 y1 y2 y3
  go_enter Tryz.func118, Tryz.ntmps118
  go_wp2
  unfold chC at HW
  rw [← HW.out]
  clear HW
  have y0 : W.cell? ⟨b0, o0 + a, none⟩ = some (.int .i64 (i : Int)) := (HX2.out.bel.cell (p := ⟨b0, o0 + a, none⟩) B0.out).trans Z0.out
  have y1 : W.cell? ⟨b1, o1 + e, none⟩ = some (.int .i64 (j : Int)) := (HX2.out.bel.cell (p := ⟨b1, o1 + e, none⟩) B1.out).trans Z1.out
  have y2 : W.cell? ⟨b2, o2 + i * 2 + 1, none⟩ = some v := (HX2.out.bel.cell (p := ⟨b2, o2 + i * 2 + 1, none⟩) B2.out).trans Z2.out
  have y3 : W.cell? ⟨b3, o3 + j * 2 + 1, none⟩ = some (.int .i64 n) := (HX2.out.bel.cell (p := ⟨b3, o3 + j * 2 + 1, none⟩) B3.out).trans Z3.out
  obtain ⟨x0, x1, x2, x3, x4, x5, x6, t0, t1, t2, t3, t4⟩ := HX2.out.cells
  dsimp only at t0 t1 t2 t3 t4
  have HXD := Lib.hid HX2.out.drew
  go_region_held3 (fun w' => w'.cell? ⟨w.heap.size, 0, none⟩ = some (.slice (some ⟨b2, o2, none⟩) c.mdl.bats.length ca) ∧ w'.cell? ⟨w.heap.size, 1, none⟩ = some (.slice (some ⟨b3, o3, none⟩) c.mdl.bows.length ca1) ∧ w'.cell? ⟨w.heap.size, 2, none⟩ = some (.slice (some ⟨b1, o1, none⟩) c.bows.length ca2) ∧ w'.cell? ⟨w.heap.size, 6, none⟩ = some (.slice (some ⟨b0, o0, none⟩) c.ord.length ca3) ∧ w'.cell? ⟨w.heap.size + 1, 0, none⟩ = some (.int .i64 (e : Int)) ∧ w'.cell? ⟨w.heap.size + 1, 2, none⟩ = some (.int .i64 (a : Int)) ∧ w'.cell? ⟨b0, o0 + a, none⟩ = some (.int .i64 (i : Int)) ∧ w'.cell? ⟨b1, o1 + e, none⟩ = some (.int .i64 (j : Int)) ∧ w'.cell? ⟨b2, o2 + i * 2 + 1, none⟩ = some v ∧ w'.cell? ⟨b3, o3 + j * 2 + 1, none⟩ = some (.int .i64 n)) (first | exact ⟨x0, x1, x2, x6, t0, t2, u0, u1, u2, u3⟩ | exact ⟨x0, x1, x2, x6, t0, t2, y0, y1, y2, y3⟩ | go_keep) ((go_at_call 110; refine (KS.out _ HXD.out.bel).mono ?_; rintro e4 w4 ⟨v4, rfl, hs4, hb4⟩; obtain ⟨A4, c4, rfl, hc41, hc42⟩ := hs4.shape; have HX4 := Lib.hid (HXD.out.below hb4); obtain ⟨x0, x1, x2, x3, x4, x5, x6, t0, t1, t2, t3, t4⟩ := HX4.out.cells; dsimp only at t0 t1 t2 t3 t4; have u0 := (hb4.cell (p := ⟨b0, o0 + a, none⟩) (Nat.lt_of_lt_of_le B0.out HXD.out.bel.size)).trans y0; have u1 := (hb4.cell (p := ⟨b1, o1 + e, none⟩) (Nat.lt_of_lt_of_le B1.out HXD.out.bel.size)).trans y1; have u2 := (hb4.cell (p := ⟨b2, o2 + i * 2 + 1, none⟩) (Nat.lt_of_lt_of_le B2.out HXD.out.bel.size)).trans y2; have u3 := (hb4.cell (p := ⟨b3, o3 + j * 2 + 1, none⟩) (Nat.lt_of_lt_of_le B3.out HXD.out.bel.size)).trans y3; have HS4 := Lib.hid hs4; clear hs4 hb4))
  all_goals go_wp2
  go_ret
  exact ⟨_, _, _, rfl, HX4.out.bel, HS4.out.keep elOtc_good (Same.refl _ _) fun b h => ⟨Nat.le_trans HXD.out.bel.size h.1, h.2⟩⟩
theorem leftO_le {c : Chs} {s : Ost} (hc : OkT c) (hs : OkOs c s) : leftO c s ≤ 12 := by
  have := hc.nb; have := hs.ball
  unfold leftO; omega
set_option maxRecDepth 100000 in
set_option maxHeartbeats 4000000 in
theorem or_power (c : Chs) (s : Ost) (bv wv pv ov : Value) (w : World) (h : ChAt w (· < w.heap.size) bv wv pv ov c) (hc : OkT c) (hs : OkOs c s) :
    Calls Tryz.prog 86 #[chV c bv wv pv ov, osV s] w fun e w' => e = .returned (.int .i64 (pow16 (leftO c s))) ∧ Below w.heap.size w w' := by
  unfold chV osV
  obtain ⟨ball, need, str, par, wait⟩ := s
  obtain ⟨A, ca, rfl, hc1, hc2⟩ := h.mdl.bat.shape
  obtain ⟨A1, ca1, rfl, hc3, hc4⟩ := h.mdl.bow.shape
  obtain ⟨A2, ca2, rfl, hc5, hc6⟩ := h.bow.shape
  obtain ⟨A3, ca3, rfl, hc7, hc8⟩ := h.ord.shape
  have hx := OSB.new w c (.slice A c.mdl.bats.length ca) (.slice A1 c.mdl.bows.length ca1) (.slice A2 c.bows.length ca2) (.slice A3 c.ord.length ca3) ⟨ball, need, str, par, wait⟩
  have HX := Lib.hid hx
  have HM := Lib.hid h
  obtain ⟨n, hn⟩ : ∃ n, n = leftO c ⟨ball, need, str, par, wait⟩ := ⟨_, rfl⟩
  have hn12 := leftO_le hc hs
  rw [← hn] at hn12
  have hb := hs.ball
  dsimp only at hb
  have hbn : (c.bows.length : Int) - ball = (n : Int) := by rw [hn]; unfold leftO; dsimp only; omega
  rw [← hn]
  obtain ⟨z, hz⟩ : ∃ z, z = pow16 n := ⟨_, rfl⟩
  rw [← hz]
  have hnb := hc.ok.nb
  obtain ⟨hb1, hb2⟩ := hb
  obtain ⟨hnb1, hnb2⟩ := hnb
  clear hs hc hn hx h
  have hcase : n = 0 ∨ n = 1 ∨ n = 2 ∨ n = 3 ∨ n = 4 ∨ n = 5 ∨ n = 6 ∨ n = 7 ∨ n = 8 ∨ n = 9 ∨ n = 10 ∨ n = 11 ∨ n = 12 := by omega
  clear hn12
  rcases hcase with rfl | rfl | rfl | rfl | rfl | rfl | rfl | rfl | rfl | rfl | rfl | rfl | rfl
  all_goals
    have HZ := Lib.hid hz
    have hq := hbn
    simp only [Int.natCast_zero, Int.natCast_one, Int.cast_ofNat_Int] at hq
    clear hz hbn
    go_enter Tryz.func86, Tryz.ntmps86
    go_wp2
    go_ret
    exact ⟨ret_i (by rw [HZ.out]; first | rfl | decide), HX.out.bel⟩
theorem or_step_ret {R' : Ending → World → Prop} {a : Act} {w : World} {x0 x1 x2 x3 x4 : Value} {g : Nat} (h2 : a.tmps[6]? = some (.pointer (some ⟨g, 0, none⟩))) (hb : Blk w g 45 #[x0, x1, x2, x3, x4])
    (hd : a.defers = []) (hR : R' (.returned (.agg #[x0, x1, x2, x3, x4])) w) : bodyPost Tryz.prog Tryz.f91 R' .ret a w := by
  have r0 := hb.cell 0
  have r1 := hb.cell 1
  have r2 := hb.cell 2
  have r3 := hb.cell 3
  have r4 := hb.cell 4
  simp only [List.getElem?_toArray, List.getElem?_cons_zero, List.getElem?_cons_succ] at r0 r1 r2 r3 r4
  refine bodyPost_ret (v := .agg #[x0, x1, x2, x3, x4]) (by simp [results, Tryz.results91, go_sem, h2, r0, r1, r2, r3, r4]) hd hR
set_option maxRecDepth 100000 in
set_option maxHeartbeats 4000000 in
theorem or_step (c : Chs) (s : Ost) (o : Otc) (A A1 A2 A3 : Option Addr) (ca ca1 ca2 ca3 : Nat) (w : World) (hc : OkT c) (hs : OkOs c s) (h1 : s.ball ≠ c.bows.length) (h2 : vacO s = false) (hr : 0 ≤ o.runs ∧ o.runs ≤ 7) :
    Calls Tryz.prog 91 #[.agg #[.slice A c.mdl.bats.length ca, .slice A1 c.mdl.bows.length ca1, .slice A2 c.bows.length ca2, .int .i64 c.over, .int .i64 c.done, .int .i64 c.need, .slice A3 c.ord.length ca3], osV s, .agg #[.int .i64 o.runs, .bool o.wick, .int .i64 o.wt]] w fun e w' => e = .returned (osV (stepO c s o)) ∧ Below w.heap.size w w' := by
  obtain ⟨z, hz⟩ : ∃ z, z = stepO c s o := ⟨_, rfl⟩
  rw [← hz]
  unfold stepO at hz
  obtain ⟨ball, need, str, par, wait⟩ := s
  obtain ⟨pr, pw, pt⟩ := o
  unfold osV
  dsimp only at hr hz ⊢
  have b1 := hs.ball
  have b2 := hs.need
  have b4 := hs.str
  have b5 := hs.par
  have b6 := hc.ok.nb
  have b7 := hc.ok.need
  have b8 := hc.np
  have b9 := hc.ok.over
  have b10 := hc.ok.done
  have b11 := hs.w16
  dsimp only at b1 b2 b4 b5 b11 h1
  obtain ⟨m, hm⟩ : ∃ m, max (need - pr) 0 = m := ⟨_, rfl⟩
  have hm2 : max 0 (need - pr) = m := by rw [← hm]; omega
  have hm3 : 0 ≤ m ∧ m ≤ 84 := by omega
  rw [hm] at hz
  have hsw : swapC c (ball + 1) ⟨pr, pw, pt⟩ = (decide (pr % 2 = 1) != decide ((c.done + (ball + 1)) % c.over = 0)) := rfl
  have e1 : (pr % 2 == 1) = decide (pr % 2 = 1) := by by_cases h : pr % 2 = 1 <;> simp [h]
  have e2 : ((c.done + (ball + 1)) % c.over == 0) = decide ((c.done + (ball + 1)) % c.over = 0) := by by_cases h : (c.done + (ball + 1)) % c.over = 0 <;> simp [h]
  rw [hsw] at hz
  obtain ⟨x1, hx1⟩ : ∃ x, x = decide (pr % 2 = 1) := ⟨_, rfl⟩
  obtain ⟨x2, hx2⟩ : ∃ x, x = decide ((c.done + (ball + 1)) % c.over = 0) := ⟨_, rfl⟩
  rw [← hx1] at e1 hz
  rw [← hx2] at e2 hz
  obtain ⟨over, hov⟩ : ∃ x, x = c.over := ⟨_, rfl⟩
  obtain ⟨done, hdo⟩ : ∃ x, x = c.done := ⟨_, rfl⟩
  rw [← hov, ← hdo] at e2 ⊢
  rw [← hov] at b9
  rw [← hdo, ← hov] at b10
  obtain ⟨c1, c2⟩ := b1
  obtain ⟨c3, c4⟩ := b2
  obtain ⟨c7, c8⟩ := b4
  obtain ⟨c9, c10⟩ := b5
  obtain ⟨c11, c12⟩ := b6
  obtain ⟨c13, c14⟩ := b7
  obtain ⟨c15, c16⟩ := b8
  obtain ⟨c17, c18⟩ := b9
  obtain ⟨c19, c20⟩ := b10
  obtain ⟨c21, c22⟩ := hr
  obtain ⟨c23, c24⟩ := hm3
  obtain ⟨c25, c26⟩ := b11
  clear hx1 hx2 hov hdo hsw hs hc h1 h2
  cases pw
  all_goals
    simp only [Bool.false_eq_true, if_true, if_false] at hz
    cases x1 <;> cases x2 <;> simp only [bne_self_eq_false, if_true, if_false, Bool.false_eq_true, Bool.bne_false, Bool.bne_true, Bool.not_false, Bool.not_true] at hz
    all_goals
      have HZ := Lib.hid hz
      clear hz
      go_enter Tryz.func91, Tryz.ntmps91
      go_wp2
      go_quiet (fail)
      go_wp2
      apply or_step_ret (g := w.heap.size + 1 + 1 + 1) (h2 := rfl) (hd := rfl)
      case hb =>
        first
          | with_reducible exact oblk_rv _ _ _ _ _ _ _ _ _
          | (with_reducible apply Blk.put5
             repeat (first | with_reducible refine Blk.drewNB ?_ _ | with_reducible refine blk_far1 ?_ _ _)
             with_reducible exact oblk_r _ _ _ _)
      case hR =>
        refine ⟨by rw [HZ.out] <;> rfl, ?_⟩
        first
          | with_reducible exact below_r _ _ _ _ _
          | (with_reducible refine below_set5 ?_ (le3 _) _ _ _ _ _
             repeat (first | with_reducible refine Below.drewN_ ?_ _ | with_reducible refine below_far1 ?_ _ _)
             with_reducible exact below_r _ _ _ _ _)
theorem r45_after_ret {R' : Ending → World → Prop} {a : Act} {w : World} {x0 x1 x2 x3 x4 : Value} {g : Nat} (h2 : a.tmps[6]? = some (.pointer (some ⟨g, 0, none⟩))) (hb : Blk w g 45 #[x0, x1, x2, x3, x4])
    (hd : a.defers = []) (hR : R' (.returned (.agg #[x0, x1, x2, x3, x4])) w) : bodyPost Tryz.prog Tryz.f119 R' .ret a w := by
  have r0 := hb.cell 0
  have r1 := hb.cell 1
  have r2 := hb.cell 2
  have r3 := hb.cell 3
  have r4 := hb.cell 4
  simp only [List.getElem?_toArray, List.getElem?_cons_zero, List.getElem?_cons_succ] at r0 r1 r2 r3 r4
  refine bodyPost_ret (v := .agg #[x0, x1, x2, x3, x4]) (by simp [results, Tryz.results119, go_sem, h2, r0, r1, r2, r3, r4]) hd hR
set_option maxRecDepth 100000 in
set_option maxHeartbeats 4000000 in
theorem r45_after (c : Chs) (s : Ost) (o : Otc) (A A1 A2 A3 : Option Addr) (ca ca1 ca2 ca3 : Nat) (w : World) (hc : OkT c) (hs : OkOs c s) (h1 : s.ball ≠ c.bows.length) (h2 : vacO s = false) (hr : 0 ≤ o.runs ∧ o.runs ≤ 7) :
    Calls Tryz.prog 119 #[.agg #[.slice A c.mdl.bats.length ca, .slice A1 c.mdl.bows.length ca1, .slice A2 c.bows.length ca2, .int .i64 c.over, .int .i64 c.done, .int .i64 c.need, .slice A3 c.ord.length ca3], osV s, .agg #[.int .i64 o.runs, .bool o.wick, .int .i64 o.wt]] w fun e w' => e = .returned (osV (stepO c s o)) ∧ Below w.heap.size w w' := by
  obtain ⟨z, hz⟩ : ∃ z, z = stepO c s o := ⟨_, rfl⟩
  rw [← hz]
  unfold stepO at hz
  obtain ⟨ball, need, str, par, wait⟩ := s
  obtain ⟨pr, pw, pt⟩ := o
  unfold osV
  dsimp only at hr hz ⊢
  have b1 := hs.ball
  have b2 := hs.need
  have b4 := hs.str
  have b5 := hs.par
  have b6 := hc.ok.nb
  have b7 := hc.ok.need
  have b8 := hc.np
  have b9 := hc.ok.over
  have b10 := hc.ok.done
  have b11 := hs.w16
  dsimp only at b1 b2 b4 b5 b11 h1
  obtain ⟨m, hm⟩ : ∃ m, max (need - pr) 0 = m := ⟨_, rfl⟩
  have hm2 : max 0 (need - pr) = m := by rw [← hm]; omega
  have hm3 : 0 ≤ m ∧ m ≤ 84 := by omega
  rw [hm] at hz
  have hsw : swapC c (ball + 1) ⟨pr, pw, pt⟩ = (decide (pr % 2 = 1) != decide ((c.done + (ball + 1)) % c.over = 0)) := rfl
  have e1 : (pr % 2 == 1) = decide (pr % 2 = 1) := by by_cases h : pr % 2 = 1 <;> simp [h]
  have e2 : ((c.done + (ball + 1)) % c.over == 0) = decide ((c.done + (ball + 1)) % c.over = 0) := by by_cases h : (c.done + (ball + 1)) % c.over = 0 <;> simp [h]
  rw [hsw] at hz
  obtain ⟨x1, hx1⟩ : ∃ x, x = decide (pr % 2 = 1) := ⟨_, rfl⟩
  obtain ⟨x2, hx2⟩ : ∃ x, x = decide ((c.done + (ball + 1)) % c.over = 0) := ⟨_, rfl⟩
  rw [← hx1] at e1 hz
  rw [← hx2] at e2 hz
  obtain ⟨over, hov⟩ : ∃ x, x = c.over := ⟨_, rfl⟩
  obtain ⟨done, hdo⟩ : ∃ x, x = c.done := ⟨_, rfl⟩
  rw [← hov, ← hdo] at e2 ⊢
  rw [← hov] at b9
  rw [← hdo, ← hov] at b10
  obtain ⟨c1, c2⟩ := b1
  obtain ⟨c3, c4⟩ := b2
  obtain ⟨c7, c8⟩ := b4
  obtain ⟨c9, c10⟩ := b5
  obtain ⟨c11, c12⟩ := b6
  obtain ⟨c13, c14⟩ := b7
  obtain ⟨c15, c16⟩ := b8
  obtain ⟨c17, c18⟩ := b9
  obtain ⟨c19, c20⟩ := b10
  obtain ⟨c21, c22⟩ := hr
  obtain ⟨c23, c24⟩ := hm3
  obtain ⟨c25, c26⟩ := b11
  clear hx1 hx2 hov hdo hsw hs hc h1 h2
  cases pw
  all_goals
    simp only [Bool.false_eq_true, if_true, if_false] at hz
    cases x1 <;> cases x2 <;> simp only [bne_self_eq_false, if_true, if_false, Bool.false_eq_true, Bool.bne_false, Bool.bne_true, Bool.not_false, Bool.not_true] at hz
    all_goals
      have HZ := Lib.hid hz
      clear hz
      go_enter Tryz.func119, Tryz.ntmps119
      go_wp2
      apply r45_after_ret (g := w.heap.size + 1 + 1 + 1) (h2 := rfl) (hd := rfl)
      case hb =>
        first
          | with_reducible exact oblk_rv _ _ _ _ _ _ _ _ _
          | (with_reducible apply Blk.put5
             repeat (first | with_reducible refine Blk.drewNB ?_ _ | with_reducible refine blk_far1 ?_ _ _)
             with_reducible exact oblk_r _ _ _ _)
      case hR =>
        refine ⟨by rw [HZ.out] <;> rfl, ?_⟩
        first
          | with_reducible exact below_r _ _ _ _ _
          | (with_reducible refine below_set5 ?_ (le3 _) _ _ _ _ _
             repeat (first | with_reducible refine Below.drewN_ ?_ _ | with_reducible refine below_far1 ?_ _ _)
             with_reducible exact below_r _ _ _ _ _)
theorem or_opened_ret {R' : Ending → World → Prop} {a : Act} {w : World} {x0 x1 x2 x3 x4 : Value} {g : Nat} (h2 : a.tmps[6]? = some (.pointer (some ⟨g, 0, none⟩))) (hb : Blk w g 45 #[x0, x1, x2, x3, x4])
    (hd : a.defers = []) (hR : R' (.returned (.agg #[x0, x1, x2, x3, x4])) w) : bodyPost Tryz.prog Tryz.f43 R' .ret a w := by
  have r0 := hb.cell 0
  have r1 := hb.cell 1
  have r2 := hb.cell 2
  have r3 := hb.cell 3
  have r4 := hb.cell 4
  simp only [List.getElem?_toArray, List.getElem?_cons_zero, List.getElem?_cons_succ] at r0 r1 r2 r3 r4
  refine bodyPost_ret (v := .agg #[x0, x1, x2, x3, x4]) (by simp [results, Tryz.results43, go_sem, h2, r0, r1, r2, r3, r4]) hd hR
set_option maxRecDepth 100000 in
set_option maxHeartbeats 4000000 in
theorem or_opened (c : Chs) (a b : Nat) (bv wv pv ov : Value) (w : World) (h : ChAt w (· < w.heap.size) bv wv pv ov c) (ht : OkT c) (ha : a < c.ord.length) (hb : b < c.ord.length) :
    Calls Tryz.prog 43 #[chV c bv wv pv ov, .int .i64 (a : Int), .int .i64 (b : Int)] w fun e w' => e = .returned (osV (openO c a b)) ∧ Below w.heap.size w w' := by
  unfold chV
  obtain ⟨A, ca, rfl, hc1, hc2⟩ := h.mdl.bat.shape
  obtain ⟨A1, ca1, rfl, hc3, hc4⟩ := h.mdl.bow.shape
  obtain ⟨A2, ca2, rfl, hc5, hc6⟩ := h.bow.shape
  obtain ⟨A3, ca3, rfl, hc7, hc8⟩ := h.ord.shape
  obtain ⟨z, hz⟩ : ∃ z, z = openO c a b := ⟨_, rfl⟩
  rw [← hz]
  unfold openO lessW allW oneW at hz
  have hnp := ht.np
  unfold osV
  obtain ⟨hnp1, hnp2⟩ := hnp
  obtain ⟨n, hn⟩ : ∃ n, n = c.ord.length := ⟨_, rfl⟩
  rw [← hn] at hz hnp1 hnp2 ha hb ⊢
  have g1 : (0 : Int) ≤ (n : Int) := by omega
  have g2 : (n : Int) < 16 := by omega
  have g3 : (0 : Int) ≤ (a : Int) := by omega
  have g4 : (a : Int) < 16 := by omega
  have g5 : (0 : Int) ≤ (b : Int) := by omega
  have g6 : (b : Int) < 16 := by omega
  have HZ := Lib.hid hz
  clear hz h ht hn
  go_enter Tryz.func43, Tryz.ntmps43
  go_wp2
  all_goals go_region
  all_goals go_wp2
  all_goals
    apply or_opened_ret (g := w.heap.size + 1) (h2 := rfl) (hd := rfl)
    case hb =>
      repeat (with_reducible refine Blk.drewNB ?_ _)
      first | exact blk_two _ _ _ _ | exact (blk_two _ _ _ _).drew
    case hR =>
      refine ⟨by rw [HZ.out] <;> rfl, ?_⟩
      repeat (with_reducible refine Below.drewN_ ?_ _)
      first | exact below_two _ _ _ | exact Below.drew (below_two _ _ _)
theorem r45_opening_ret {R' : Ending → World → Prop} {a : Act} {w : World} {x0 x1 x2 x3 x4 : Value} {g : Nat} (h2 : a.tmps[6]? = some (.pointer (some ⟨g, 0, none⟩))) (hb : Blk w g 45 #[x0, x1, x2, x3, x4])
    (hd : a.defers = []) (hR : R' (.returned (.agg #[x0, x1, x2, x3, x4])) w) : bodyPost Tryz.prog Tryz.f37 R' .ret a w := by
  have r0 := hb.cell 0
  have r1 := hb.cell 1
  have r2 := hb.cell 2
  have r3 := hb.cell 3
  have r4 := hb.cell 4
  simp only [List.getElem?_toArray, List.getElem?_cons_zero, List.getElem?_cons_succ] at r0 r1 r2 r3 r4
  refine bodyPost_ret (v := .agg #[x0, x1, x2, x3, x4]) (by simp [results, Tryz.results37, go_sem, h2, r0, r1, r2, r3, r4]) hd hR
set_option maxRecDepth 100000 in
set_option maxHeartbeats 4000000 in
theorem r45_opening (c : Chs) (a b : Nat) (bv wv pv ov : Value) (w : World) (h : ChAt w (· < w.heap.size) bv wv pv ov c) (ht : OkT c) (ha : a < c.ord.length) (hb : b < c.ord.length) :
    Calls Tryz.prog 37 #[chV c bv wv pv ov, .int .i64 (a : Int), .int .i64 (b : Int)] w fun e w' => e = .returned (osV (openO c a b)) ∧ Below w.heap.size w w' := by
  unfold chV
  obtain ⟨A, ca, rfl, hc1, hc2⟩ := h.mdl.bat.shape
  obtain ⟨A1, ca1, rfl, hc3, hc4⟩ := h.mdl.bow.shape
  obtain ⟨A2, ca2, rfl, hc5, hc6⟩ := h.bow.shape
  obtain ⟨A3, ca3, rfl, hc7, hc8⟩ := h.ord.shape
  obtain ⟨z, hz⟩ : ∃ z, z = openO c a b := ⟨_, rfl⟩
  rw [← hz]
  unfold openO lessW allW oneW at hz
  have hnp := ht.np
  unfold osV
  obtain ⟨hnp1, hnp2⟩ := hnp
  obtain ⟨n, hn⟩ : ∃ n, n = c.ord.length := ⟨_, rfl⟩
  rw [← hn] at hz hnp1 hnp2 ha hb ⊢
  have g1 : (0 : Int) ≤ (n : Int) := by omega
  have g2 : (n : Int) < 16 := by omega
  have g3 : (0 : Int) ≤ (a : Int) := by omega
  have g4 : (a : Int) < 16 := by omega
  have g5 : (0 : Int) ≤ (b : Int) := by omega
  have g6 : (b : Int) < 16 := by omega
  have HZ := Lib.hid hz
  clear hz h ht hn
  go_enter Tryz.func37, Tryz.ntmps37
  go_wp2
  all_goals go_region
  all_goals go_wp2
  all_goals
    apply r45_opening_ret (g := w.heap.size + 1) (h2 := rfl) (hd := rfl)
    case hb =>
      repeat (with_reducible refine Blk.drewNB ?_ _)
      first | exact blk_two _ _ _ _ | exact (blk_two _ _ _ _).drew
    case hR =>
      refine ⟨by rw [HZ.out] <;> rfl, ?_⟩
      repeat (with_reducible refine Below.drewN_ ?_ _)
      first | exact below_two _ _ _ | exact Below.drew (below_two _ _ _)
end Go.Proofs.YtdlmmbfnmnglaaaGreatDoor

namespace Go.Proofs.YtdlmmbfnmnglaaaGreatDoor

/-- The states that follow where somebody has to be sent. -/
def sendsL (s : Ost) : Nat → List Ost
  | 0 => []
  | k + 1 => if bitW s.wait k = true then sendsL s k ++ [sendO s k] else sendsL s k
theorem sendsL_len (s : Ost) : ∀ k, (sendsL s k).length ≤ k
  | 0 => Nat.le_refl _
  | k + 1 => by
    have := sendsL_len s k
    rw [sendsL]; split
    · simp; omega
    · omega
theorem sendsL_mem {s x : Ost} : ∀ {k : Nat}, x ∈ sendsL s k → ∃ i : Nat, i < k ∧ bitW s.wait i = true ∧ x = sendO s i
  | 0, h => by cases h
  | k + 1, h => by
    rw [sendsL] at h
    by_cases hb : bitW s.wait k = true
    · rw [if_pos hb] at h
      rcases List.mem_append.1 h with h | h
      · obtain ⟨i, h1, h2, h3⟩ := sendsL_mem h
        exact ⟨i, by omega, h2, h3⟩
      · simp at h; exact ⟨k, by omega, hb, h⟩
    · rw [if_neg hb] at h
      obtain ⟨i, h1, h2, h3⟩ := sendsL_mem h
      exact ⟨i, by omega, h2, h3⟩
theorem sendsL_in {s : Ost} {i : Nat} (hb : bitW s.wait i = true) : ∀ {k : Nat}, i < k → sendO s i ∈ sendsL s k
  | 0, h => by omega
  | k + 1, h => by
    rw [sendsL]
    by_cases e : i = k
    · subst e; rw [if_pos hb]; simp
    · have := sendsL_in hb (k := k) (by omega)
      split
      · exact List.mem_append.2 (.inl this)
      · exact this
def nextsO (c : Chs) (s : Ost) : List Ost × List Int :=
  if endO c s = true then ([], []) else if vacO s = true then (sendsL s c.ord.length, List.replicate (sendsL s c.ord.length).length 0) else ((mvO c s).map (stepO c s), (mvO c s).map (·.wt))
theorem nexts_end {c : Chs} {s : Ost} (h : endO c s = true) : (nextsO c s).1 = [] := by unfold nextsO; rw [if_pos h]
theorem nexts_vac {c : Chs} {s : Ost} (h : endO c s = false) (hv : vacO s = true) : (nextsO c s).1 = sendsL s c.ord.length := by unfold nextsO; rw [if_neg (by simp [h]), if_pos hv]
theorem nexts_run {c : Chs} {s : Ost} (h : endO c s = false) (hv : vacO s = false) : (nextsO c s).1 = (mvO c s).map (stepO c s) := by unfold nextsO; rw [if_neg (by simp [h]), if_neg (by simp [hv])]
/-- A state that is reached from two openers: what every set holds that holds the openings and is closed. -/
def ReachO (c : Chs) (s : Ost) : Prop := ∀ P : Ost → Prop, (∀ a b : Nat, a < c.ord.length → b < c.ord.length → a ≠ b → P (openO c a b)) → (∀ s x, P s → x ∈ (nextsO c s).1 → P x) → P s
theorem ReachO.op {c : Chs} {a b : Nat} (ha : a < c.ord.length) (hb : b < c.ord.length) (hne : a ≠ b) : ReachO c (openO c a b) := fun _ h _ => h a b ha hb hne
theorem ReachO.next {c : Chs} {s : Ost} (h : ReachO c s) : ∀ x ∈ (nextsO c s).1, ReachO c x := fun x hx P h1 h2 => h2 s x (h P h1 h2) hx
end Go.Proofs.YtdlmmbfnmnglaaaGreatDoor

namespace Go.Proofs.YtdlmmbfnmnglaaaGreatDoor
open Go.RowKit Go.Maps

def keyS (s : Cst) : Lit := .string (keyBytes [.int .i64 s.ball, .int .i64 s.need, .int .i64 s.str, .int .i64 s.par, .int .i64 s.nxt])
structure Smol (s : Cst) : Prop where
  ball : -1000 ≤ s.ball ∧ s.ball ≤ 1000
  need : -1000 ≤ s.need ∧ s.need ≤ 1000
  str : -1000 ≤ s.str ∧ s.str ≤ 1000
  par : -1000 ≤ s.par ∧ s.par ≤ 1000
  nxt : -1000 ≤ s.nxt ∧ s.nxt ≤ 1000
theorem OkS.smol {c : Chs} {s : Cst} (hc : OkC c) (h : OkS c s) : Smol s := by
  have := hc.nb; have := hc.need; have := hc.no; have := h.ball; have := h.need; have := h.nxt; have := h.str; have := h.par
  exact ⟨by omega, by omega, by omega, by omega, by omega⟩
theorem wf_small {x : Int} (h : -1000 ≤ x ∧ x ≤ 1000) : (Lit.int .i64 x).wf = true := WalkArith.wf_i64 (by omega)
theorem key_of {s : Cst} (h : Smol s) : keyOf Tryz.prog 30 (stV s) = some (keyS s) := by
  have hkt : Tryz.prog.keyType 30 = true := by kernel_rfl
  have hce : Tryz.prog.cellsOf 30 = 5 := by kernel_rfl
  have hci : Tryz.prog.cellsOf 3 = 1 := by kernel_rfl
  obtain ⟨m, hm⟩ : ∃ m, Tryz.prog.types.size = m + 1 := ⟨Tryz.prog.types.size - 1, by kernel_rfl⟩
  have w0 := wf_small h.ball
  have w1 := wf_small h.need
  have w2 := wf_small h.str
  have w3 := wf_small h.par
  have w4 := wf_small h.nxt
  unfold keyOf stV keyS
  simp only [Tryz.underlying30]
  rw [if_pos (by simp [hkt, Value.formed, Tryz.underlying30, hce]), hm]
  unfold Program.keyLits
  simp only [Tryz.underlying30, Value.cells]
  rw [if_pos ⟨by rw [hce]; rfl, by kernel_rfl⟩]
  simp [hci, Program.keyLits, Tryz.underlying3, w0, w1, w2, w3, w4]
theorem key_inj {s t : Cst} (hs : Smol s) (ht : Smol t) (h : keyS s = keyS t) : s = t := by
  have e := keyOf_inj_deep (P := Tryz.prog) (m := Tryz.prog.types.size + 1) (k := 30) (by kernel_rfl) (by kernel_rfl) (key_of hs) (h ▸ key_of ht)
  obtain ⟨a1, a2, a3, a4, a5⟩ := s
  obtain ⟨b1, b2, b3, b4, b5⟩ := t
  unfold stV at e
  simp at e
  obtain ⟨rfl, rfl, rfl, rfl, rfl⟩ := e
  rfl
theorem key_lit (s : Cst) : WideAt.IsKeyLit (keyS s) := by unfold keyS; trivial
theorem zero_i64 (w : World) : (zeroValue 2).run Tryz.prog w = .ok (.int .i64 0) w := by kernel_rfl
/-- Every state of the map has its value. -/
def Known (c : Chs) (D : DataW Unit) : Prop := ∀ s, OkS c s → Maps.has D (keyS s) = true → D.atKey (keyS s) (.lit (.int .i64 0)) = .lit (.int .i64 (valS c s))
theorem Known.none (c : Chs) : Known c (.map []) := fun s _ h => by cases h
theorem Known.put {c : Chs} {D : DataW Unit} (h : Known c D) (hD : IsMap D) (hc : OkC c) {s : Cst} (hs : OkS c s) : Known c (D.put (keyS s) (.lit (.int .i64 (valS c s)))) := fun t ht hh => by
  by_cases e : keyS t = keyS s
  · have := key_inj (ht.smol hc) (hs.smol hc) e
    subst this
    exact atKey_put_same hD (key_lit _) _ _
  · rw [has_put_other e] at hh
    rw [atKey_put_other e]
    exact h t ht hh
abbrev Vals (w : World) (b N : Nat) (D : DataW Unit) : Prop := w.ownsMap Tryz.prog 30 (plainElem Tryz.prog 2) b N D
end Go.Proofs.YtdlmmbfnmnglaaaGreatDoor

namespace Go.Proofs.YtdlmmbfnmnglaaaGreatDoor
open Go.RowKit Go.Maps

def keyOs (s : Ost) : Lit := .string (keyBytes [.int .i64 s.ball, .int .i64 s.need, .int .i64 s.str, .int .i64 s.par, .int .u16 s.wait])
structure SmolO (s : Ost) : Prop where
  ball : -1000 ≤ s.ball ∧ s.ball ≤ 1000
  need : -1000 ≤ s.need ∧ s.need ≤ 1000
  str : -1000 ≤ s.str ∧ s.str ≤ 1000
  par : -1000 ≤ s.par ∧ s.par ≤ 1000
  w16 : 0 ≤ s.wait ∧ s.wait < 65536
theorem OkOs.smol {c : Chs} {s : Ost} (hc : OkT c) (h : OkOs c s) : SmolO s := by
  have := hc.nb; have := hc.ok.need; have := hc.np; have := h.ball; have := h.need; have := h.str; have := h.par
  exact ⟨by omega, by omega, by omega, by omega, h.w16⟩
theorem law45 : Keyed Tryz.prog 45 := Keyed.of_law (deep_law_gate (by kernel_rfl) (of_decide_eq_true (by kernel_rfl)) (of_decide_eq_true (by kernel_rfl)) (by kernel_rfl) (by kernel_rfl))
theorem okey_of {s : Ost} (h : SmolO s) : keyOf Tryz.prog 45 (osV s) = some (keyOs s) := by
  have hkt : Tryz.prog.keyType 45 = true := by kernel_rfl
  have hce : Tryz.prog.cellsOf 45 = 5 := by kernel_rfl
  have hci : Tryz.prog.cellsOf 3 = 1 := by kernel_rfl
  have hcu : Tryz.prog.cellsOf 43 = 1 := by kernel_rfl
  obtain ⟨m, hm⟩ : ∃ m, Tryz.prog.types.size = m + 1 := ⟨Tryz.prog.types.size - 1, by kernel_rfl⟩
  have w0 := wf_small h.ball
  have w1 := wf_small h.need
  have w2 := wf_small h.str
  have w3 := wf_small h.par
  have w4 : (Lit.int .u16 s.wait).wf = true := WalkArith.wf_u16 (by have := h.w16; omega)
  unfold keyOf osV keyOs
  simp only [Tryz.underlying45]
  rw [if_pos (by simp [hkt, Value.formed, Tryz.underlying45, hce]), hm]
  unfold Program.keyLits
  simp only [Tryz.underlying45, Value.cells]
  rw [if_pos ⟨by rw [hce]; rfl, by kernel_rfl⟩]
  simp [hci, hcu, Program.keyLits, Tryz.underlying3, Tryz.underlying43, w0, w1, w2, w3, w4]
theorem okey_inj {s t : Ost} (hs : SmolO s) (ht : SmolO t) (h : keyOs s = keyOs t) : s = t := by
  have e := keyOf_inj_deep (P := Tryz.prog) (m := Tryz.prog.types.size + 1) (k := 45) (by kernel_rfl) (by kernel_rfl) (okey_of hs) (h ▸ okey_of ht)
  obtain ⟨a1, a2, a3, a4, a5⟩ := s
  obtain ⟨b1, b2, b3, b4, b5⟩ := t
  unfold osV at e
  simp at e
  obtain ⟨rfl, rfl, rfl, rfl, rfl⟩ := e
  rfl
theorem okey_lit (s : Ost) : WideAt.IsKeyLit (keyOs s) := by unfold keyOs; trivial
/-- Nothing is taken out. -/
def GrewO (D D' : DataW Unit) : Prop := ∀ s, Maps.has D (keyOs s) = true → Maps.has D' (keyOs s) = true
theorem GrewO.refl (D : DataW Unit) : GrewO D D := fun _ h => h
theorem GrewO.trans {A B C : DataW Unit} (h : GrewO A B) (k : GrewO B C) : GrewO A C := fun s x => k s (h s x)
theorem GrewO.put {D : DataW Unit} (hD : IsMap D) (s : Ost) (v : DataW Unit) : GrewO D (D.put (keyOs s) v) := fun t h => by
  by_cases e : keyOs t = keyOs s
  · rw [e]; exact has_put_same hD (okey_lit _) _
  · rw [has_put_other e]; exact h
/-- Every state of the map has its value; every key is a state that is reached from two openers; with a state all that follow are there. -/
structure KnownO (c : Chs) (D : DataW Unit) : Prop where
  val : ∀ s, OkOs c s → Maps.has D (keyOs s) = true → D.atKey (keyOs s) (.lit (.int .i64 0)) = .lit (.int .i64 (vO c s))
  sub : ∀ k, Maps.has D k = true → ∃ s, k = keyOs s ∧ OkOs c s ∧ ReachO c s
  clo : ∀ s, OkOs c s → Maps.has D (keyOs s) = true → ∀ x ∈ (nextsO c s).1, Maps.has D (keyOs x) = true
theorem KnownO.none (c : Chs) : KnownO c (.map []) := ⟨fun s _ h => (by cases h), fun k h => (by cases h), fun s _ h => (by cases h)⟩
theorem KnownO.put {c : Chs} {D : DataW Unit} (h : KnownO c D) (hD : IsMap D) (hc : OkT c) {s : Ost} (hs : OkOs c s) (hr : ReachO c s) (hx : ∀ x ∈ (nextsO c s).1, Maps.has D (keyOs x) = true) : KnownO c (D.put (keyOs s) (.lit (.int .i64 (vO c s)))) := by
  refine ⟨fun t ht hh => ?_, fun k hh => ?_, fun t ht hh x hxt => ?_⟩
  · by_cases e : keyOs t = keyOs s
    · have := okey_inj (ht.smol hc) (hs.smol hc) e
      subst this
      exact atKey_put_same hD (okey_lit _) _ _
    · rw [has_put_other e] at hh
      rw [atKey_put_other e]
      exact h.val t ht hh
  · by_cases e : k = keyOs s
    · exact ⟨s, e, hs, hr⟩
    · rw [has_put_other e] at hh
      exact h.sub k hh
  · by_cases e : keyOs t = keyOs s
    · have := okey_inj (ht.smol hc) (hs.smol hc) e
      subst this
      exact GrewO.put hD t _ x (hx x hxt)
    · rw [has_put_other e] at hh
      exact GrewO.put hD s _ x (h.clo t ht hh x hxt)
abbrev ValsO (w : World) (b N : Nat) (D : DataW Unit) : Prop := w.ownsMap Tryz.prog 45 (plainElem Tryz.prog 2) b N D
def rankO (c : Chs) (s : Ost) : Nat := 2 * leftO c s + (if vacO s = true then 1 else 0)
def cntR : Nat → Nat
  | 0 => 1
  | m + 1 => 1 + (if m % 2 = 0 then 6 else 16) * cntR m
theorem cntR_step (m : Nat) : cntR m ≤ cntR (m + 1) := by
  rw [cntR]; split <;> omega
theorem cntR_mono {k m : Nat} (h : k ≤ m) : cntR k ≤ cntR m := by
  induction m with
  | zero => obtain rfl : k = 0 := by omega
            exact Nat.le_refl _
  | succ m ih =>
    by_cases e : k = m + 1
    · subst e; exact Nat.le_refl _
    · exact Nat.le_trans (ih (by omega)) (cntR_step m)
/-- What a function that values states of an order does. -/
def SolveO (f : FuncId) (c : Chs) (m : Nat) : Prop := ∀ (s : Ost), rankO c s = m → OkOs c s → ReachO c s → ∀ (bv wv pv ov : Value) (F : Nat → Prop) (b N : Nat) (D : DataW Unit) (w : World), ChAt w F bv wv pv ov c → (∀ x, F x → x < w.heap.size ∧ x ≠ b) → ValsO w b N D → KnownO c D → N + cntR m ≤ 2000000000000000000 →
  Calls Tryz.prog f #[chV c bv wv pv ov, osV s, .map (some b)] w fun e w' => e = .returned (.int .i64 (vO c s)) ∧ Only b w w' ∧ ∃ D', ValsO w' b (N + cntR m) D' ∧ KnownO c D' ∧ GrewO D D' ∧ Maps.has D' (keyOs s) = true
/-- The states that follow have a lesser rank. -/
theorem rank_send {c : Chs} {s : Ost} {i : Int} (ht : OkT c) (h : OkOs c s) (hv : vacO s = true) (hi : 0 ≤ i ∧ i < c.ord.length) (hb : bitW s.wait i = true) : OkOs c (sendO s i) ∧ rankO c (sendO s i) + 1 = rankO c s := by
  obtain ⟨k1, k2, k3, k4⟩ := sendO_ok ht h hv hi hb
  refine ⟨k1, ?_⟩
  unfold rankO leftO
  rw [k2, hv, k3]; simp
theorem rank_step {c : Chs} {s : Ost} {o : Otc} (h : OkOs c s) (h2 : s.ball ≠ c.bows.length) (hv : vacO s = false) (ho : 0 ≤ o.runs) : OkOs c (stepO c s o) ∧ rankO c (stepO c s o) + 1 ≤ rankO c s := by
  obtain ⟨k1, k2, k3⟩ := stepO_ok h h2 hv ho
  have := h.ball
  refine ⟨k1, ?_⟩
  unfold rankO leftO
  rw [hv, k2]
  split
  · simp; omega
  · simp; omega
/-- A box of a task, a box of a map's variable, beside a map. -/
structure EnvO (W : World) (F : Nat → Prop) (b g0 g2 : Nat) (c : Chs) (bv wv pv ov : Value) : Prop where
  ch : ChAt W F bv wv pv ov c
  hF : ∀ x, F x → x < W.heap.size ∧ x ≠ b
  t0 : Blk W g0 42 #[bv, wv, pv, .int .i64 c.over, .int .i64 c.done, .int .i64 c.need, ov]
  m2 : Blk W g2 81 #[.map (some b)]
  n0 : g0 ≠ b
  n2 : g2 ≠ b
theorem EnvO.only {W W' : World} {F : Nat → Prop} {b g0 g2 : Nat} {c : Chs} {bv wv pv ov : Value} (h : EnvO W F b g0 g2 c bv wv pv ov) (ho : Only b W W') : EnvO W' F b g0 g2 c bv wv pv ov :=
  ⟨h.ch.keep (ho.same h.hF) fun _ h => h, fun x hx => ⟨Nat.lt_of_lt_of_le (h.hF x hx).1 ho.size, (h.hF x hx).2⟩, h.t0.grown ho (by intro e; injection e with e; exact h.n0 e.symm), h.m2.grown ho (by intro e; injection e with e; exact h.n2 e.symm), h.n0, h.n2⟩
theorem ovals_below {W W' : World} {b N : Nat} {D : DataW Unit} (h : ValsO W b N D) (hb : Below W.heap.size W W') : ValsO W' b N D := h.kept (Only.of_below (g := b + 1) hb) (by simp)
end Go.Proofs.YtdlmmbfnmnglaaaGreatDoor

namespace Go.Proofs.YtdlmmbfnmnglaaaGreatDoor
open Go.RowKit Go.Maps

/-- A chase and a state boxed, a map of values beside them. -/
structure Sol (w W : World) (b N : Nat) (c : Chs) (bv wv pv ov : Value) (s : Cst) : Prop where
  only : Only b w W
  box : Blk W w.heap.size 28 #[bv, wv, pv, .int .i64 c.over, .int .i64 c.done, .int .i64 c.need, ov]
  st : Blk W (w.heap.size + 1) 30 #[.int .i64 s.ball, .int .i64 s.need, .int .i64 s.str, .int .i64 s.par, .int .i64 s.nxt]
  blt : b < w.heap.size
  vals : ∃ D, Vals W b N D ∧ Known c D
section
variable {w W W' : World} {b N N' : Nat} {c : Chs} {bv wv pv ov : Value} {s : Cst}
theorem vals_below {D : DataW Unit} (h : Vals W b N D) (hb : Below W.heap.size W W') : Vals W' b N D := h.kept (Only.of_below (g := b + 1) hb) (by simp)
theorem Sol.below (h : Sol w W b N c bv wv pv ov s) (hb : Below W.heap.size W W') : Sol w W' b N c bv wv pv ov s :=
  ⟨h.only.trans (Only.of_below hb), h.box.below hb h.box.lt, h.st.below hb h.st.lt, h.blt, let ⟨D, h1, h2⟩ := h.vals; ⟨D, vals_below h1 hb, h2⟩⟩
theorem Sol.alloc (h : Sol w W b N c bv wv pv ov s) (o : Obj) : Sol w (W.alloc o) b N c bv wv pv ov s := h.below (Below.alloc (Below.refl _ _) (Nat.le_refl _) o)
theorem Sol.drew (h : Sol w W b N c bv wv pv ov s) : Sol w W.drew b N c bv wv pv ov s := h.below (Below.drew (Below.refl _ _))
theorem Sol.into (h : Sol w W b N c bv wv pv ov s) (ho : Only b W W') (hv : ∃ D, Vals W' b N' D ∧ Known c D) : Sol w W' b N' c bv wv pv ov s :=
  ⟨h.only.trans ho, h.box.grown ho (by intro e; injection e with e; have := h.blt; omega), h.st.grown ho (by intro e; injection e with e; have := h.blt; omega), h.blt, hv⟩
theorem Sol.cells (h : Sol w W b N c bv wv pv ov s) : W.cell? ⟨w.heap.size, 0, none⟩ = some bv ∧ W.cell? ⟨w.heap.size, 1, none⟩ = some wv ∧ W.cell? ⟨w.heap.size, 2, none⟩ = some pv ∧ W.cell? ⟨w.heap.size, 3, none⟩ = some (.int .i64 c.over) ∧ W.cell? ⟨w.heap.size, 4, none⟩ = some (.int .i64 c.done) ∧ W.cell? ⟨w.heap.size, 5, none⟩ = some (.int .i64 c.need) ∧ W.cell? ⟨w.heap.size, 6, none⟩ = some ov ∧
    W.cell? ⟨w.heap.size + 1, 0, none⟩ = some (.int .i64 s.ball) ∧ W.cell? ⟨w.heap.size + 1, 1, none⟩ = some (.int .i64 s.need) ∧ W.cell? ⟨w.heap.size + 1, 2, none⟩ = some (.int .i64 s.str) ∧ W.cell? ⟨w.heap.size + 1, 3, none⟩ = some (.int .i64 s.par) ∧ W.cell? ⟨w.heap.size + 1, 4, none⟩ = some (.int .i64 s.nxt) :=
  ⟨h.box.cell 0, h.box.cell 1, h.box.cell 2, h.box.cell 3, h.box.cell 4, h.box.cell 5, h.box.cell 6, h.st.cell 0, h.st.cell 1, h.st.cell 2, h.st.cell 3, h.st.cell 4⟩
theorem Sol.new {D : DataW Unit} (h1 : Vals w b N D) (h2 : Known c D) : Sol w ((w.alloc (.cells #[bv, wv, pv, .int .i64 c.over, .int .i64 c.done, .int .i64 c.need, ov] 28)).alloc (.cells #[.int .i64 s.ball, .int .i64 s.need, .int .i64 s.str, .int .i64 s.par, .int .i64 s.nxt] 30)) b N c bv wv pv ov s :=
  let hx := CSB.new w c bv wv pv ov s
  ⟨Only.of_below hx.bel, hx.box, hx.st, h1.lt, D, vals_below h1 hx.bel, h2⟩
end
/-- A list that lies in blocks other than b. -/
theorem sl_only {W W' : World} {b : Nat} {v : Value} {l : List Otc} (h : Sl 3 elOtc W (fun x => x < W.heap.size ∧ x ≠ b) v l) (ho : Only b W W') : Sl 3 elOtc W' (fun x => x < W'.heap.size ∧ x ≠ b) v l :=
  h.keep elOtc_good (ho.same fun x hx => hx) fun x hx => ⟨Nat.lt_of_lt_of_le hx.1 ho.size, hx.2⟩
theorem prod_bd {x y : Int} {n : Nat} (hn : n ≤ 11) (hx : 1 ≤ x ∧ x ≤ 16) (hy : 0 ≤ y ∧ y ≤ pow16 n) : 0 ≤ x * y ∧ x * y ≤ 281474976710656 := by
  have h1 : pow16 n ≤ 17592186044416 := by
    have h2 := (pow16_le (n := n + 1) (by omega)).2
    rw [pow16] at h2; omega
  refine ⟨Int.mul_nonneg (by omega) hy.1, ?_⟩
  have := Int.mul_le_mul hx.2 (Int.le_trans hy.2 h1) hy.1 (by omega)
  omega
end Go.Proofs.YtdlmmbfnmnglaaaGreatDoor
