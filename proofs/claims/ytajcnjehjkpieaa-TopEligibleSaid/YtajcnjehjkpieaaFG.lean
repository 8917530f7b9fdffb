/- Regions that draw their order, some of whose operations are not wanted: any order, and the frame behind. -/
import Derived.Test.YtajcnjehjkpieaaR
set_option linter.unusedSimpArgs false
set_option linter.unusedVariables false
namespace Go.Proofs.Ytajcnjehjkpieaa
open Go.RowKit

/-! A region that draws its order, some of whose operations are not wanted. -/
structure FreeG (P : Program) (ops : Array Oper) (V : Tab) (G : World → Prop) (needs : Nat → List Nat) (init : List Nat) (N : Nat) : Prop where
  back : ∀ (i : Nat) (o : Oper), ops[i]? = some o → ∀ e ∈ o.after, e.on < i
  dst : ∀ (i : Nat) (o : Oper), ops[i]? = some o → ∃ d, o.dst = some d ∧ d < N
  need : ∀ (i : Nat) (o : Oper), ops[i]? = some o → ∀ d ∈ needs i, d ∈ init ∨ ∃ e ∈ o.after, Region.binds .any e = true ∧ ∃ p, ops[e.on]? = some p ∧ p.dst = some d
  sV : ∀ d w w' v, V d w v → Below w.heap.size w w' → V d w' v
  sG : ∀ w w', G w → Below w.heap.size w w' → G w'
  step : ∀ (i : Nat) (o : Oper), ops[i]? = some o → ∀ a w, G w → (∀ x ∈ needs i, Holds V a w x) → (Region.wanted o (yielded ops a.tmps) = true ∧ Meets P V o a w) ∨ (Region.wanted o (yielded ops a.tmps) = false ∧ ∀ d, o.dst = some d → V d w undef)
section
variable {P : Program} {ops : Array Oper} {V : Tab} {G : World → Prop} {needs : Nat → List Nat} {init : List Nat} {N : Nat} {Q : Exit → Act → World → Prop} {a0 : Act} {w0 : World}
theorem all_listedG (hback : ∀ (i : Nat) (o : Oper), ops[i]? = some o → ∀ e ∈ o.after, e.on < i) {listed : Array Bool} (hr : Region.ready .any ops listed = []) (hsz : listed.size = ops.size) : ∀ i, i < ops.size → listed.getD i false = true := by
  intro i
  induction i using Nat.strongRecOn with
  | ind i ih =>
    intro hi
    cases hl : listed.getD i false with
    | true => rfl
    | false =>
      exfalso
      have h2 : listed.getD i true = false := by
        have hlt : i < listed.size := by omega
        simp [hlt] at hl ⊢; exact hl
      have ho : ops[i]? = some ops[i] := Array.getElem?_eq_getElem hi
      have : i ∈ Region.ready .any ops listed := mem_ready.2 ⟨h2, _, ho, fun e he _ => ih e.on (hback i _ ho e he) (by have := hback i _ ho e he; omega)⟩
      rw [hr] at this
      cases this
theorem wpAny_freeG (hF : FreeG P ops V G needs init N) (hN : N ≤ a0.tmps.size) (fin : ∀ a w, RIn ops V G init a0 w0 (Array.replicate ops.size true) a w → Q .normal a w) :
    ∀ (fuel : Nat) (listed : Array Bool) (a : Act) (w : World), listed.size = ops.size → listed.toList.count false ≤ fuel → RIn ops V G init a0 w0 listed a w → wpAny P .any ops Q fuel listed a w := by
  have hfin : ∀ (listed : Array Bool) (a : Act) (w : World), listed.size = ops.size → Region.ready .any ops listed = [] → RIn ops V G init a0 w0 listed a w → Q .normal a w := by
    intro listed a w hsz hr h
    refine fin a w ⟨h.size, h.dfr, h.g, h.below, h.ini, fun i o d ho _ hd => h.done i o d ho (all_listedG hF.back hr hsz i (Array.getElem?_eq_some_iff.1 ho).1) hd, h.keep⟩
  intro fuel
  induction fuel with
  | zero =>
    intro listed a w hsz hc h
    have hr : Region.ready .any ops listed = [] := by
      cases hr : Region.ready .any ops listed with
      | nil => rfl
      | cons j t =>
        exfalso
        have hj : j ∈ Region.ready .any ops listed := by rw [hr]; simp
        obtain ⟨h1, o, ho, _⟩ := mem_ready.1 hj
        have hlt : j < listed.size := by have := (Array.getElem?_eq_some_iff.1 ho).1; omega
        have h2 : listed[j]? = some false := by
          rw [Array.getElem?_eq_getElem hlt]; simp [hlt] at h1; rw [h1]
        have : false ∈ listed.toList := Array.mem_toList_iff.2 (Array.mem_of_getElem? h2)
        have := List.count_pos_iff.2 this
        omega
    exact ⟨hr, hfin listed a w hsz hr h⟩
  | succ fuel ih =>
    intro listed a w hsz hc h
    refine ⟨fun hr => hfin listed a w hsz hr h, fun i hi => ?_⟩
    obtain ⟨h1, o, ho, hall⟩ := mem_ready.1 hi
    obtain ⟨d, hd, hdN⟩ := hF.dst i o ho
    have hlt : i < listed.size := by have := (Array.getElem?_eq_some_iff.1 ho).1; omega
    have h2 : listed[i]? = some false := by
      rw [Array.getElem?_eq_getElem hlt]; simp [hlt] at h1; rw [h1]
    have hcnt := count_set listed.toList i (by rw [Array.getElem?_toList]; exact h2)
    have hneeds : ∀ x ∈ needs i, Holds V a w x := fun x hx => by
      rcases hF.need i o ho x hx with hx | ⟨e, he, hbi, p, hp, hpd⟩
      · exact h.ini x hx
      · exact h.done e.on p x hp (hall e he hbi) hpd
    have go : ∀ v w', Below w.heap.size w w' → V d w' v → wpAny P .any ops Q fuel (listed.setIfInBounds i true) (a.put o.dst v) w' := fun v w' hb hv => by
      rw [hd]
      refine ih _ _ _ (by simpa using hsz) (by rw [Array.toList_setIfInBounds]; omega) ⟨by unfold Act.put; simpa using h.size, h.dfr, hF.sG _ _ h.g hb, h.below.trans (hb.mono h.below.size), fun x hx => (h.ini x hx).put hF.sV hb hv, fun j p x hj hl hx => ?_, fun k hk => ?_⟩
      · by_cases hji : j = i
        · subst hji
          rw [ho] at hj; obtain rfl := Option.some.inj hj
          have hdx : d = x := Option.some.inj (hd.symm.trans hx)
          subst hdx
          refine ⟨v, ?_, hv⟩
          rw [put_get, if_pos ⟨rfl, by rw [h.size]; exact Nat.lt_of_lt_of_le hdN hN⟩]
        · have hl' : listed.getD j false = true := by rw [getD_set_ne false (Ne.symm hji)] at hl; exact hl
          exact (h.done j p x hj hl' hx).put hF.sV hb hv
      · rw [put_get, if_neg (fun hc => hk i o ho (by rw [hd, hc.1]))]
        exact h.keep k hk
    unfold wpOp
    rw [ho]
    dsimp only
    rcases hF.step i o ho a w h.g hneeds with ⟨hw, hm⟩ | ⟨hw, hm⟩
    · rw [hw, if_pos rfl]
      exact .inl (hm d hd _ _ go)
    · rw [hw, if_neg (by simp)]
      exact go undef w (Below.refl _ _) (hm d hd)
theorem wp_region_freeG {ops' : Array Oper} {id : Nat} (he : ops = ops') (hm : P.follows .mixedOrders = true) (hF : FreeG P ops' V G needs init N) (hN : N ≤ a0.tmps.size) (hG : G w0) (hini : ∀ d ∈ init, Holds V a0 w0 d)
    (fin : ∀ a w, RIn ops' V G init a0 w0 (Array.replicate ops'.size true) a w → Q .normal a w) : (Code.region id ops true).wp P Q a0 w0 := by
  subst he
  have hb : Below w0.heap.size w0 { w0 with drawn := w0.drawn + 1 } := Below.drew (Below.refl _ _)
  refine wp_region_any hm (wpAny_freeG hF hN fin _ _ _ _ (by simp) (by simp) ⟨rfl, rfl, hF.sG _ _ hG hb, hb, fun d hd => ?_, fun i o d ho hl => ?_, fun _ _ => rfl⟩)
  · obtain ⟨v, h1, h2⟩ := hini d hd
    exact ⟨v, h1, hF.sV _ _ _ _ h2 hb⟩
  · exfalso
    have hlt := (Array.getElem?_eq_some_iff.1 ho).1
    simp [hlt] at hl
end
/-- The operations of a region of a function's text. -/
def findR6 (n : Nat) : Code → Option (Array Oper)
  | .region id ops _ => if id = n then some ops else none
  | .seq a b => match findR6 n a with
    | some x => some x
    | none => findR6 n b
  | .cond _ a b => match findR6 n a with
    | some x => some x
    | none => findR6 n b
  | .block _ c => findR6 n c
  | .loop c => findR6 n c
  | .scope c => findR6 n c
  | _ => none
def backG (ops : Array Oper) : Bool := (List.range ops.size).all fun i => match ops[i]? with
  | some o => o.after.toList.all fun e => decide (e.on < i)
  | none => true
def dstG (ops : Array Oper) (N : Nat) : Bool := (List.range ops.size).all fun i => match ops[i]? with
  | some o => (match o.dst with | some d => decide (d < N) | none => false)
  | none => true
def needG (ops : Array Oper) (needs : List (List Nat)) (init : List Nat) : Bool := (List.range ops.size).all fun i => match ops[i]? with
  | some o => (needs.getD i []).all fun d => init.contains d || o.after.toList.any fun e => Region.binds .any e && (match ops[e.on]? with | some p => p.dst == some d | none => false)
  | none => true
theorem backG_of {ops : Array Oper} (h : backG ops = true) : ∀ (i : Nat) (o : Oper), ops[i]? = some o → ∀ e ∈ o.after, e.on < i := by
  intro i o ho e he
  have := List.all_eq_true.1 h i (List.mem_range.2 (Array.getElem?_eq_some_iff.1 ho).1)
  rw [ho] at this
  exact of_decide_eq_true (List.all_eq_true.1 this e (Array.mem_toList_iff.2 he))
theorem dstG_of {ops : Array Oper} {N : Nat} (h : dstG ops N = true) : ∀ (i : Nat) (o : Oper), ops[i]? = some o → ∃ d, o.dst = some d ∧ d < N := by
  intro i o ho
  have h2 := List.all_eq_true.1 h i (List.mem_range.2 (Array.getElem?_eq_some_iff.1 ho).1)
  rw [ho] at h2
  dsimp only at h2
  cases hd : o.dst with
  | none => rw [hd] at h2; cases h2
  | some d => rw [hd] at h2; exact ⟨d, rfl, of_decide_eq_true h2⟩
theorem needG_of {ops : Array Oper} {needs : List (List Nat)} {init : List Nat} (h : needG ops needs init = true) : ∀ (i : Nat) (o : Oper), ops[i]? = some o → ∀ d ∈ needs.getD i [], d ∈ init ∨ ∃ e ∈ o.after, Region.binds .any e = true ∧ ∃ p, ops[e.on]? = some p ∧ p.dst = some d := by
  intro i o ho d hd
  have := List.all_eq_true.1 h i (List.mem_range.2 (Array.getElem?_eq_some_iff.1 ho).1)
  rw [ho] at this
  have := List.all_eq_true.1 this d hd
  rcases Bool.or_eq_true_iff.1 this with h1 | h1
  · exact .inl (by simpa using h1)
  · obtain ⟨e, he, h2⟩ := List.any_eq_true.1 h1
    rw [Bool.and_eq_true] at h2
    refine .inr ⟨e, Array.mem_toList_iff.1 he, h2.1, ?_⟩
    cases hp : ops[e.on]? with
    | none => rw [hp] at h2; cases h2.2
    | some p => rw [hp] at h2; exact ⟨p, rfl, by simpa using h2.2⟩
theorem opG_of {ops : Array Oper} {i : Nat} {o : Oper} {x : Op} {d : Option Tmp} (h : (ops[i]?).map (fun o => (o.op, o.dst)) = some (x, d)) (ho : ops[i]? = some o) : o.op = x ∧ o.dst = d := by
  rw [ho] at h
  simpa using h
/-- Slots with one value each. -/
def boolOf : Value → Option Bool
  | .bool b => some b
  | _ => none
def skipG (ops : Array Oper) (needs : List (List Nat)) (cls : Nat → Option Bool) (i : Nat) : Bool := match ops[i]? with
  | some o => match o.guard with
    | some (j, b) => match (ops[j]?).bind (·.dst) with
      | some d => (needs.getD i []).contains d && !(cls d == some b)
      | none => false
    | none => false
  | none => true
theorem skip_of {ops : Array Oper} {needs : List (List Nat)} {tab : Nat → Value} {cls : Nat → Option Bool} (hc : ∀ d, boolOf (tab d) = cls d) {i : Nat} {o : Oper} (h : skipG ops needs cls i = true) (ho : ops[i]? = some o) {a : Act} {w : World} (hn : ∀ x ∈ needs.getD i [], Holds (fun d _ v => v = tab d) a w x) :
    Region.wanted o (yielded ops a.tmps) = false := by
  unfold skipG at h
  rw [ho] at h
  dsimp only at h
  unfold Region.wanted
  cases hg : o.guard with
  | none => rw [hg] at h; cases h
  | some jb =>
    obtain ⟨j, b⟩ := jb
    rw [hg] at h
    dsimp only at h ⊢
    cases hd : (ops[j]?).bind (·.dst) with
    | none => rw [hd] at h; cases h
    | some d =>
      rw [hd] at h
      dsimp only at h
      rw [Bool.and_eq_true] at h
      obtain ⟨v, h1, h2⟩ := hn d (by simpa using h.1)
      subst h2
      have hk := hc d
      have h3 : yielded ops a.tmps j = cls d := by
        unfold yielded
        rw [hd]
        show (match (some d).bind (a.tmps[·]?) with | some (.bool b) => some b | _ => none) = cls d
        rw [Option.bind_some, h1, ← hk]
        cases tab d <;> rfl
      rw [h3]
      have := h.2
      simpa using this
theorem free_not {ops : Array Oper} {o : Oper} (h : o.guard = none) {t : Array Value} : Region.wanted o (yielded ops t) = true := by unfold Region.wanted; rw [h]
theorem RIn.atG {ops : Array Oper} {V : Tab} {G : World → Prop} {init : List Nat} {a0 a : Act} {w0 w : World} (h : RIn ops V G init a0 w0 (Array.replicate ops.size true) a w) (i d : Nat) (hd : (ops[i]?).bind (·.dst) = some d) : Holds V a w d := by
  cases ho : ops[i]? with
  | none => rw [ho] at hd; cases hd
  | some o =>
    rw [ho] at hd
    have hlt := (Array.getElem?_eq_some_iff.1 ho).1
    exact h.done i o d ho (by simp [hlt]) hd
theorem listG_cons {α : Type} {n : Nat} {l : List α} (h : l.length = n + 1) : ∃ x t, l = x :: t ∧ t.length = n := by
  cases l with
  | nil => simp at h
  | cons x t => exact ⟨x, t, rfl, by simpa using h⟩
theorem guardG_of {ops : Array Oper} {i : Nat} {o : Oper} (h : (ops[i]?).map (·.guard) = some none) (ho : ops[i]? = some o) : o.guard = none := by
  rw [ho] at h
  simpa using h
/-- What a list of slots says. -/
def tabV (tab : List (Nat × Value)) : Tab := fun d _ v => v = (tab.lookup d).getD undef
theorem fg_tmp {tab : List (Nat × Value)} {a : Act} {w : World} {l : List Nat} (d : Nat) (v : Value) (hn : ∀ x ∈ l, Holds (tabV tab) a w x) (hd : l.contains d = true) (hv : (tab.lookup d).getD undef = v) : a.tmps[d]? = some v := by
  obtain ⟨u, h1, h2⟩ := hn d (by simpa using hd)
  have h2 : u = _ := h2
  rw [h1, h2, hv]
theorem fg_val {tab : List (Nat × Value)} {a : Act} {w : World} {l : List Nat} (d : Nat) (v : Value) (hn : ∀ x ∈ l, Holds (tabV tab) a w x) (hd : l.contains d = true) (hv : (tab.lookup d).getD undef = v) : a.eval (.tmp d) = v :=
  eval_tmp (fg_tmp d v hn hd hv)
theorem fg_put {tab : List (Nat × Value)} {w : World} {o : Oper} {d0 : Nat} {v : Value} (hd : o.dst = some d0) (hv : v = (tab.lookup d0).getD undef) : ∀ d, o.dst = some d → tabV tab d w v := by
  intro d h
  rw [hd] at h
  obtain rfl := Option.some.inj h
  exact hv
theorem guard_at {ops : Array Oper} {i j d : Nat} {o : Oper} {b b' : Bool} {a : Act} (hg : (ops[i]?).map (·.guard) = some (some (j, b))) (hj : (ops[j]?).bind (·.dst) = some d) (ho : ops[i]? = some o) (hv : a.tmps[d]? = some (.bool b')) : Region.wanted o (yielded ops a.tmps) = (b' == b) := by
  rw [ho] at hg
  have hg : o.guard = some (j, b) := by simpa using hg
  unfold Region.wanted
  rw [hg]
  have h3 : yielded ops a.tmps j = some b' := by
    unfold yielded
    rw [hj]
    show (match (some d).bind (a.tmps[·]?) with | some (.bool b) => some b | _ => none) = some b'
    rw [Option.bind_some, hv]
  dsimp only
  rw [h3]
  cases b <;> cases b' <;> rfl
theorem guard_un {ops : Array Oper} {i j d : Nat} {o : Oper} {b : Bool} {a : Act} (hg : (ops[i]?).map (·.guard) = some (some (j, b))) (hj : (ops[j]?).bind (·.dst) = some d) (ho : ops[i]? = some o) (hv : a.tmps[d]? = some undef) : Region.wanted o (yielded ops a.tmps) = false := by
  rw [ho] at hg
  have hg : o.guard = some (j, b) := by simpa using hg
  unfold Region.wanted
  rw [hg]
  have h3 : yielded ops a.tmps j = none := by
    unfold yielded
    rw [hj]
    show (match (some d).bind (a.tmps[·]?) with | some (.bool b) => some b | _ => none) = none
    rw [Option.bind_some, hv]
    rfl
  dsimp only
  rw [h3]
  cases b <;> rfl
/-- The frame with some slots put anew. -/
def updM : List (Option Value) → List Value → List Value
  | none :: m, x :: l => x :: updM m l
  | some v :: m, _ :: l => v :: updM m l
  | _, _ => []
theorem updM_get : ∀ (m : List (Option Value)) (l : List Value) (i : Nat), m.length = l.length → (updM m l)[i]? = (l[i]?).map fun x => ((m[i]?).getD none).getD x
  | [], [], _, _ => by simp [updM]
  | none :: m, x :: l, 0, _ => by simp [updM]
  | some v :: m, x :: l, 0, _ => by simp [updM]
  | none :: m, x :: l, i + 1, h => by
    rw [updM, List.getElem?_cons_succ, List.getElem?_cons_succ, List.getElem?_cons_succ, updM_get m l i (by simpa using h)]
  | some v :: m, x :: l, i + 1, h => by
    rw [updM, List.getElem?_cons_succ, List.getElem?_cons_succ, List.getElem?_cons_succ, updM_get m l i (by simpa using h)]
  | [], _ :: _, _, h => by simp at h
  | _ :: _, [], _, h => by simp at h
def maskOf (tab : List (Nat × Value)) (dl : List Nat) : Nat → Nat → List (Option Value)
  | _, 0 => []
  | k, n + 1 => (bif dl.contains k then some ((tab.lookup k).getD undef) else none) :: maskOf tab dl (k + 1) n
theorem maskOf_len (tab : List (Nat × Value)) (dl : List Nat) : ∀ n k, (maskOf tab dl k n).length = n
  | 0, _ => rfl
  | n + 1, k => by rw [maskOf, List.length_cons, maskOf_len tab dl n]
theorem maskOf_get (tab : List (Nat × Value)) (dl : List Nat) : ∀ (n k i : Nat), i < n → (maskOf tab dl k n)[i]? = some (bif dl.contains (k + i) then some ((tab.lookup (k + i)).getD undef) else none)
  | 0, _, _, h => by omega
  | n + 1, k, 0, _ => by rw [maskOf]; simp
  | n + 1, k, i + 1, h => by rw [maskOf, List.getElem?_cons_succ, maskOf_get tab dl n (k + 1) i (by omega), show k + 1 + i = k + (i + 1) by omega]
def dstIn (ops : Array Oper) (dl : List Nat) : Bool := ops.toList.all (fun o => match o.dst with | some d => dl.contains d | none => true) && dl.all fun d => ops.toList.any fun o => o.dst == some d
theorem wp_region_freeF {P : Program} {ops ops' : Array Oper} {tab : List (Nat × Value)} {dl : List Nat} {mask : List (Option Value)} {G : World → Prop} {needs : Nat → List Nat} {init : List Nat} {N id : Nat} {Q : Exit → Act → World → Prop} {l T : List Value} {df : List Deferred} {w0 : World}
    (he : ops = ops') (hm : P.follows .mixedOrders = true) (hF : FreeG P ops' (tabV tab) G needs init N) (hN : l.length = N) (hdl : dstIn ops' dl = true) (hmk : mask = maskOf tab dl 0 N) (hG : G w0) (hini : ∀ d ∈ init, l[d]? = some ((tab.lookup d).getD undef))
    (hT : updM mask l = T) (fin : ∀ w, G w → Below w0.heap.size w0 w → Q .normal ⟨T.toArray, df⟩ w) : (Code.region id ops true).wp P Q ⟨l.toArray, df⟩ w0 := by
  refine wp_region_freeG he hm hF (by simp [hN]) hG (fun d hd => ⟨_, by simpa using hini d hd, rfl⟩) fun a w hin => ?_
  have hdf : a.defers = df := hin.dfr
  have hta : a.tmps = T.toArray := by
    have hsz : a.tmps.size = l.length := by simpa using hin.size
    refine Array.ext_getElem? fun k => ?_
    have hml : mask.length = l.length := by rw [hmk, maskOf_len, hN]
    have eT : T.toArray[k]? = T[k]? := by simp
    rw [eT, ← hT, updM_get _ _ _ hml]
    unfold dstIn at hdl
    rw [Bool.and_eq_true] at hdl
    rcases Nat.lt_or_ge k l.length with hlt | hge
    · have hmg : mask[k]? = some (bif dl.contains k then some ((tab.lookup k).getD undef) else none) := by rw [hmk, maskOf_get _ _ _ _ _ (by omega), Nat.zero_add]
      rw [hmg, List.getElem?_eq_getElem hlt]
      cases hc : dl.contains k
      · have hk := hin.keep k fun i o ho e => by
          have h1 := List.all_eq_true.1 hdl.1 o (Array.mem_toList_iff.2 (Array.mem_of_getElem? ho))
          rw [e] at h1
          dsimp only at h1
          rw [hc] at h1; cases h1
        have el : l.toArray[k]? = l[k]? := by simp
        rw [hk]
        show l.toArray[k]? = _
        rw [el, List.getElem?_eq_getElem hlt]
        rfl
      · have h1 := List.all_eq_true.1 hdl.2 k (by simpa using hc)
        obtain ⟨o, ho, h2⟩ := List.any_eq_true.1 h1
        have h2 : o.dst = some k := by simpa using h2
        obtain ⟨i, hi⟩ := List.mem_iff_getElem?.1 ho
        rw [Array.getElem?_toList] at hi
        obtain ⟨v, h3, h4⟩ := hin.atG i k (by rw [hi]; exact h2)
        have h4 : v = _ := h4
        rw [h3, h4]
        rfl
    · rw [Array.getElem?_eq_none (by omega), (List.getElem?_eq_none hge : l[k]? = none)]
      rfl
  obtain ⟨tm, df'⟩ := a
  dsimp only at hdf hta
  subst hdf hta
  exact fin w hin.g hin.below
end Go.Proofs.Ytajcnjehjkpieaa
