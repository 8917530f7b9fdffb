/- Regions that draw their order, by an invariant over what has been listed: stores and allocations may stand in them. -/
import Derived.Test.YtajcnjehjkpieaaFG
set_option linter.unusedSimpArgs false
set_option linter.unusedVariables false
namespace Go.Proofs.Ytajcnjehjkpieaa
open Go.RowKit

section
variable {P : Program} {ops : Array Oper} {Inv : Array Bool → Act → World → Prop} {Q : Exit → Act → World → Prop}
theorem all_listedB (hback : ∀ (i : Nat) (o : Oper), ops[i]? = some o → ∀ e ∈ o.after, Region.binds .any e = true → e.on < i) {listed : Array Bool} (hr : Region.ready .any ops listed = []) (hsz : listed.size = ops.size) : ∀ i, i < ops.size → listed.getD i false = true := by
  intro i
  induction i using Nat.strongRecOn with
  | ind i ih =>
    intro hi
    cases hl : listed.getD i false with
    | true => rfl
    | false =>
      exfalso
      have h2 : listed.getD i true = false := by
        have hlt : i < listed.size := by omega
        simp [hlt] at hl ⊢; exact hl
      have ho : ops[i]? = some ops[i] := Array.getElem?_eq_getElem hi
      have : i ∈ Region.ready .any ops listed := mem_ready.2 ⟨h2, _, ho, fun e he hb => ih e.on (hback i _ ho e he hb) (by have := hback i _ ho e he hb; omega)⟩
      rw [hr] at this
      cases this
theorem listed_full (hback : ∀ (i : Nat) (o : Oper), ops[i]? = some o → ∀ e ∈ o.after, Region.binds .any e = true → e.on < i) {listed : Array Bool} (hr : Region.ready .any ops listed = []) (hsz : listed.size = ops.size) : listed = Array.replicate ops.size true := by
  refine Array.ext_getElem? fun i => ?_
  rcases Nat.lt_or_ge i ops.size with h | h
  · have := all_listedB hback hr hsz i h
    have hlt : i < listed.size := by omega
    simp [hlt] at this
    simp [h, hlt, this]
  · rw [Array.getElem?_eq_none (by omega), Array.getElem?_eq_none (by simpa using h)]
theorem wpAny_inv (hback : ∀ (i : Nat) (o : Oper), ops[i]? = some o → ∀ e ∈ o.after, Region.binds .any e = true → e.on < i)
    (step : ∀ (listed : Array Bool) (i : Nat) (o : Oper) (a : Act) (w : World), Inv listed a w → ops[i]? = some o → listed[i]? = some false → (∀ e ∈ o.after, Region.binds .any e = true → listed.getD e.on false = true) →
      Region.wanted o (yielded ops a.tmps) = true ∧ ∀ K Q', (∀ a' w', Inv (listed.setIfInBounds i true) a' w' → K a' w') → o.wp P a w K Q')
    (fin : ∀ a w, Inv (Array.replicate ops.size true) a w → Q .normal a w) :
    ∀ (fuel : Nat) (listed : Array Bool) (a : Act) (w : World), listed.size = ops.size → listed.toList.count false ≤ fuel → Inv listed a w → wpAny P .any ops Q fuel listed a w := by
  intro fuel
  induction fuel with
  | zero =>
    intro listed a w hsz hc h
    have hr : Region.ready .any ops listed = [] := by
      cases hr : Region.ready .any ops listed with
      | nil => rfl
      | cons j t =>
        exfalso
        have hj : j ∈ Region.ready .any ops listed := by rw [hr]; simp
        obtain ⟨h1, o, ho, _⟩ := mem_ready.1 hj
        have hlt : j < listed.size := by have := (Array.getElem?_eq_some_iff.1 ho).1; omega
        have h2 : listed[j]? = some false := by
          rw [Array.getElem?_eq_getElem hlt]; simp [hlt] at h1; rw [h1]
        have : false ∈ listed.toList := Array.mem_toList_iff.2 (Array.mem_of_getElem? h2)
        have := List.count_pos_iff.2 this
        omega
    exact ⟨hr, fin a w (by rw [← listed_full hback hr hsz]; exact h)⟩
  | succ fuel ih =>
    intro listed a w hsz hc h
    refine ⟨fun hr => fin a w (by rw [← listed_full hback hr hsz]; exact h), fun i hi => ?_⟩
    obtain ⟨h1, o, ho, hall⟩ := mem_ready.1 hi
    have hlt : i < listed.size := by have := (Array.getElem?_eq_some_iff.1 ho).1; omega
    have h2 : listed[i]? = some false := by
      rw [Array.getElem?_eq_getElem hlt]; simp [hlt] at h1; rw [h1]
    have hcnt := count_set listed.toList i (by rw [Array.getElem?_toList]; exact h2)
    obtain ⟨hw, hs⟩ := step listed i o a w h ho h2 hall
    unfold wpOp
    rw [ho]
    dsimp only
    rw [hw, if_pos rfl]
    exact .inl (hs _ _ fun a' w' h' => ih _ _ _ (by simpa using hsz) (by rw [Array.toList_setIfInBounds]; omega) h')
theorem wp_region_inv {ops' : Array Oper} {id : Nat} {a0 : Act} {w0 : World} (he : ops = ops') (hm : P.follows .mixedOrders = true) (hback : ∀ (i : Nat) (o : Oper), ops'[i]? = some o → ∀ e ∈ o.after, Region.binds .any e = true → e.on < i)
    (h0 : Inv (Array.replicate ops'.size false) a0 w0.drew)
    (step : ∀ (listed : Array Bool) (i : Nat) (o : Oper) (a : Act) (w : World), Inv listed a w → ops'[i]? = some o → listed[i]? = some false → (∀ e ∈ o.after, Region.binds .any e = true → listed.getD e.on false = true) →
      Region.wanted o (yielded ops' a.tmps) = true ∧ ∀ K Q', (∀ a' w', Inv (listed.setIfInBounds i true) a' w' → K a' w') → o.wp P a w K Q')
    (fin : ∀ a w, Inv (Array.replicate ops'.size true) a w → Q .normal a w) : (Code.region id ops true).wp P Q a0 w0 := by
  subst he
  exact wp_region_any hm (wpAny_inv hback step fin _ _ _ _ (by simp) (by simp) h0)
end
def backV (ops : Array Oper) : Bool := (List.range ops.size).all fun i => match ops[i]? with
  | some o => o.after.toList.all fun e => !Region.binds .any e || decide (e.on < i)
  | none => true
theorem backV_of {ops : Array Oper} (h : backV ops = true) : ∀ (i : Nat) (o : Oper), ops[i]? = some o → ∀ e ∈ o.after, Region.binds .any e = true → e.on < i := by
  intro i o ho e he hb
  have := List.all_eq_true.1 h i (List.mem_range.2 (Array.getElem?_eq_some_iff.1 ho).1)
  rw [ho] at this
  have h2 := List.all_eq_true.1 this e (Array.mem_toList_iff.2 he)
  rw [hb] at h2
  simpa using h2
/-- An allocation as an operation. -/
theorem wp_alloc {P : Program} {o : Oper} {a : Act} {w : World} {t : TypeId} {cells : Array Value} {K : Act → World → Prop} {Q : Exit → Act → World → Prop} (ho : o.op = .alloc t)
    (hr : (Instr.alloc t true (.tuple #[])).run P w = .ok (.pointer (some ⟨w.heap.size, 0, none⟩)) (w.alloc (.cells cells t))) (h : K (a.put o.dst (.pointer (some ⟨w.heap.size, 0, none⟩))) (w.alloc (.cells cells t))) : o.wp P a w K Q := by
  unfold Oper.wp execOp
  simp only [ho, Sem.run_bind, hr, Result.andThen_ok, Sem.run_pure]
  exact h
/-- A store as an operation. -/
theorem wp_store {P : Program} {o : Oper} {a : Act} {w w' : World} {t : TypeId} {x y : Operand} {K : Act → World → Prop} {Q : Exit → Act → World → Prop} {u : Unit} (ho : o.op = .store t x y) (hd : o.dst = none)
    (hr : (Instr.storeAt t (a.eval x) (a.eval y)).run P w = .ok u w') (h : K a w') : o.wp P a w K Q := by
  unfold Oper.wp execOp
  simp only [ho, Sem.run_bind, hr, Result.andThen_ok, Sem.run_pure]
  first
    | exact h
    | (show K (a.put o.dst _) w'; rw [hd]; exact h)
    | (simp only [Oper.upon, hd]; exact h)
end Go.Proofs.Ytajcnjehjkpieaa
