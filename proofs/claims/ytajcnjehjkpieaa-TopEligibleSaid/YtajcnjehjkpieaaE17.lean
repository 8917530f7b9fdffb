/- Region 3 of the law: four slices are cut short and stored into the box, in any order. -/
import Derived.Test.YtajcnjehjkpieaaE15
import Derived.Test.YtajcnjehjkpieaaFI
set_option linter.unusedSimpArgs false
set_option linter.unusedVariables false
namespace Go.Proofs.Ytajcnjehjkpieaa
open Go.RowKit

/-- What stands in the slots while such a region runs. -/
structure RK (ops : Array Oper) (tab : List (Nat × Value)) (l0 : List Value) (B : Nat) (wr : World) (listed : Array Bool) (a : Act) (w : World) : Prop where
  size : a.tmps.size = l0.length
  dfr : a.defers = []
  bel : Below B wr w
  done : ∀ (i : Nat) (o : Oper) (d : Nat), ops[i]? = some o → listed.getD i false = true → o.dst = some d → a.tmps[d]? = some ((tab.lookup d).getD undef)
  keep : ∀ k, (∀ (i : Nat) (o : Oper), ops[i]? = some o → o.dst ≠ some k) → a.tmps[k]? = l0[k]?
  cl : ∀ (i : Nat) (o : Oper), ops[i]? = some o → listed.getD i false = true → ∀ e ∈ o.after, Region.binds .any e = true → listed.getD e.on false = true
section
variable {ops : Array Oper} {tab : List (Nat × Value)} {l0 : List Value} {B : Nat} {wr : World} {listed : Array Bool} {a : Act} {w w' : World}
theorem listed_ne {i j : Nat} (h : i ≠ j) : (listed.setIfInBounds i true).getD j false = listed.getD j false := getD_set_ne false h
theorem listed_up {i j : Nat} (h : listed.getD j false = true) : (listed.setIfInBounds i true).getD j false = true := by
  by_cases e : i = j
  · subst e
    have hlt : i < listed.size := by
      rcases Nat.lt_or_ge i listed.size with h1 | h1
      · exact h1
      · rw [Array.getD_eq_getD_getElem?, Array.getElem?_eq_none h1] at h; cases h
    simp [hlt]
  · rw [listed_ne e]; exact h
theorem RK.closed {i : Nat} {o : Oper} (h : RK ops tab l0 B wr listed a w) (ho : ops[i]? = some o) (hall : ∀ e ∈ o.after, Region.binds .any e = true → listed.getD e.on false = true) :
    ∀ (j : Nat) (p : Oper), ops[j]? = some p → (listed.setIfInBounds i true).getD j false = true → ∀ e ∈ p.after, Region.binds .any e = true → (listed.setIfInBounds i true).getD e.on false = true := by
  intro j p hp hl e he hb
  by_cases hij : i = j
  · subst hij
    rw [ho] at hp; obtain rfl := Option.some.inj hp
    exact listed_up (hall e he hb)
  · rw [listed_ne hij] at hl
    exact listed_up (h.cl j p hp hl e he hb)
theorem RK.put {i : Nat} {o : Oper} {d : Nat} {v : Value} (h : RK ops tab l0 B wr listed a w) (ho : ops[i]? = some o) (hd : o.dst = some d) (hN : d < l0.length) (hb : Below B wr w') (hv : v = (tab.lookup d).getD undef)
    (hall : ∀ e ∈ o.after, Region.binds .any e = true → listed.getD e.on false = true) : RK ops tab l0 B wr (listed.setIfInBounds i true) (a.put o.dst v) w' := by
  have hc := h.closed ho hall
  rw [hd]
  refine ⟨by unfold Act.put; simpa using h.size, h.dfr, hb, fun j p x hj hl hx => ?_, fun k hk => ?_, hc⟩
  · rw [put_get]
    by_cases hdx : d = x
    · subst hdx
      rw [if_pos ⟨rfl, by rw [h.size]; exact hN⟩, hv]
    · rw [if_neg (fun e => hdx e.1)]
      by_cases hji : j = i
      · subst hji
        rw [ho] at hj; obtain rfl := Option.some.inj hj
        exact absurd (Option.some.inj (hd.symm.trans hx)) hdx
      · exact h.done j p x hj (by rw [listed_ne (Ne.symm hji)] at hl; exact hl) hx
  · rw [put_get, if_neg (fun e => hk i o ho (by rw [hd, e.1]))]
    exact h.keep k hk
theorem RK.store {i : Nat} {o : Oper} (h : RK ops tab l0 B wr listed a w) (ho : ops[i]? = some o) (hd : o.dst = none) (hb : Below B wr w') (hall : ∀ e ∈ o.after, Region.binds .any e = true → listed.getD e.on false = true) : RK ops tab l0 B wr (listed.setIfInBounds i true) a w' := by
  refine ⟨h.size, h.dfr, hb, fun j p x hj hl hx => ?_, h.keep, h.closed ho hall⟩
  by_cases hji : j = i
  · subst hji
    rw [ho] at hj; obtain rfl := Option.some.inj hj
    rw [hd] at hx; cases hx
  · exact h.done j p x hj (by rw [listed_ne (Ne.symm hji)] at hl; exact hl) hx
theorem RK.needs {needs : List (List Nat)} {init : List Nat} {i : Nat} {o : Oper} (h : RK ops tab l0 B wr listed a w) (hn : needG ops needs init = true) (ho : ops[i]? = some o) (hall : ∀ e ∈ o.after, Region.binds .any e = true → listed.getD e.on false = true)
    (hi : ∀ d ∈ init, l0[d]? = some ((tab.lookup d).getD undef) ∧ ∀ (i : Nat) (o : Oper), ops[i]? = some o → o.dst ≠ some d) : ∀ x ∈ needs.getD i [], Holds (tabV tab) a w x := by
  intro x hx
  rcases needG_of hn i o ho x hx with hx | ⟨e, he, hbi, p, hp, hpd⟩
  · exact ⟨_, by rw [h.keep x (hi x hx).2]; exact (hi x hx).1, rfl⟩
  · exact ⟨_, h.done e.on p x hp (hall e he hbi) hpd, rfl⟩
end
def notDstK (ops : Array Oper) (k : Nat) : Bool := ops.toList.all fun o => !(o.dst == some k)
theorem notDstK_of {ops : Array Oper} {k : Nat} (h : notDstK ops k = true) : ∀ (i : Nat) (o : Oper), ops[i]? = some o → o.dst ≠ some k := by
  intro i o ho e
  have := List.all_eq_true.1 h o (Array.mem_toList_iff.2 (Array.mem_of_getElem? ho))
  rw [e] at this
  simp at this
/-- A store waits for a load. -/
def waitsK (ops : Array Oper) (i j : Nat) : Bool := match ops[i]? with
  | some o => o.after.toList.any fun e => Region.binds .any e && decide (e.on = j)
  | none => false
theorem waitsK_of {ops : Array Oper} {i j : Nat} {listed : Array Bool} (h : waitsK ops i j = true) (hcl : ∀ (i : Nat) (o : Oper), ops[i]? = some o → listed.getD i false = true → ∀ e ∈ o.after, Region.binds .any e = true → listed.getD e.on false = true) (hl : listed.getD i false = true) : listed.getD j false = true := by
  unfold waitsK at h
  cases ho : ops[i]? with
  | none => rw [ho] at h; cases h
  | some o =>
    rw [ho] at h
    obtain ⟨e, he, h2⟩ := List.any_eq_true.1 h
    rw [Bool.and_eq_true, decide_eq_true_eq] at h2
    rw [← h2.2]
    exact hcl i o ho hl e (Array.mem_toList_iff.1 he) h2.1
theorem addK (A : Option Addr) : A.map (fun x => x.add 0) = A := by cases A <;> rfl
theorem typeK_of {ops : Array Oper} {i : Nat} {o : Oper} {t : TypeId} (h : (ops[i]?).map (·.type) = some t) (ho : ops[i]? = some o) : o.type = t := by
  rw [ho] at h
  exact Option.some.inj h
/-- The frame behind a region, slot by slot. -/
theorem frameK_of {ops : Array Oper} {tab : List (Nat × Value)} {dl : List Nat} {mask : List (Option Value)} {N : Nat} {l : List Value} {a : Act} (hsz : a.tmps.size = l.length) (hN : l.length = N) (hdl : dstIn ops dl = true) (hmk : mask = maskOf tab dl 0 N)
    (hdone : ∀ (i : Nat) (o : Oper) (d : Nat), ops[i]? = some o → o.dst = some d → a.tmps[d]? = some ((tab.lookup d).getD undef)) (hkeep : ∀ k, (∀ (i : Nat) (o : Oper), ops[i]? = some o → o.dst ≠ some k) → a.tmps[k]? = l[k]?) : a.tmps = (updM mask l).toArray := by
  refine Array.ext_getElem? fun k => ?_
  have hml : mask.length = l.length := by rw [hmk, maskOf_len, hN]
  have eT : (updM mask l).toArray[k]? = (updM mask l)[k]? := by simp
  rw [eT, updM_get _ _ _ hml]
  unfold dstIn at hdl
  rw [Bool.and_eq_true] at hdl
  rcases Nat.lt_or_ge k l.length with hlt | hge
  · have hmg : mask[k]? = some (bif dl.contains k then some ((tab.lookup k).getD undef) else none) := by rw [hmk, maskOf_get _ _ _ _ _ (by omega), Nat.zero_add]
    rw [hmg, List.getElem?_eq_getElem hlt]
    cases hc : dl.contains k
    · have hk := hkeep k fun i o ho e => by
        have h1 := List.all_eq_true.1 hdl.1 o (Array.mem_toList_iff.2 (Array.mem_of_getElem? ho))
        rw [e] at h1
        dsimp only at h1
        rw [hc] at h1; cases h1
      rw [hk, List.getElem?_eq_getElem hlt]
      rfl
    · have h1 := List.all_eq_true.1 hdl.2 k (by simpa using hc)
      obtain ⟨o, ho, h2⟩ := List.any_eq_true.1 h1
      have h2 : o.dst = some k := by simpa using h2
      obtain ⟨i, hi⟩ := List.mem_iff_getElem?.1 ho
      rw [Array.getElem?_toList] at hi
      rw [hdone i o k hi h2]
      rfl
  · rw [Array.getElem?_eq_none (by omega), (List.getElem?_eq_none hge : l[k]? = none)]
    rfl
noncomputable def q3Ops : Array Oper := ((Try.f3.body).bind (findR6 3)).getD #[]
def q3Needs : List (List Nat) := [[2], [21], [2], [23], [24], [25], [22, 26], [2], [28], [2], [30], [31], [32], [29, 33], [2], [35], [2], [37], [38], [39], [36, 40], [2], [42], [2], [44], [45], [46], [43, 47], [2], [27, 49], [2], [34, 50], [2], [41, 51], [2], [48, 52]]
theorem q3_size : q3Ops.size = 36 := by kernel_rfl
def q3Tab (G : Nat) (A0 : Option Addr) (n0 c0 : Nat) (A1 : Option Addr) (n1 c1 : Nat) (A2 : Option Addr) (n2 c2 : Nat) (A3 : Option Addr) (n3 c3 : Nat) : List (Nat × Value) := [(2, .pointer (some ⟨G, 0, none⟩)), (21, .pointer (some ⟨G, 0, none⟩)), (22, .slice A0 n0 c0), (23, .pointer (some ⟨G, 0, none⟩)), (24, .slice A0 n0 c0), (25, .int .i64 (n0 : Int)), (26, .int .i64 (min (n0 : Int) 5)), (27, .slice A0 (min (n0 : Int) 5).toNat c0), (28, .pointer (some ⟨G, 1, none⟩)), (29, .slice A1 n1 c1), (30, .pointer (some ⟨G, 1, none⟩)), (31, .slice A1 n1 c1), (32, .int .i64 (n1 : Int)), (33, .int .i64 (min (n1 : Int) 10)), (34, .slice A1 (min (n1 : Int) 10).toNat c1), (35, .pointer (some ⟨G, 2, none⟩)), (36, .slice A2 n2 c2), (37, .pointer (some ⟨G, 2, none⟩)), (38, .slice A2 n2 c2), (39, .int .i64 (n2 : Int)), (40, .int .i64 (min (n2 : Int) 8)), (41, .slice A2 (min (n2 : Int) 8).toNat c2), (42, .pointer (some ⟨G, 3, none⟩)), (43, .slice A3 n3 c3), (44, .pointer (some ⟨G, 3, none⟩)), (45, .slice A3 n3 c3), (46, .int .i64 (n3 : Int)), (47, .int .i64 (min (n3 : Int) 12)), (48, .slice A3 (min (n3 : Int) 12).toNat c3), (49, .pointer (some ⟨G, 0, none⟩)), (50, .pointer (some ⟨G, 1, none⟩)), (51, .pointer (some ⟨G, 2, none⟩)), (52, .pointer (some ⟨G, 3, none⟩))]
def q3Mask (G : Nat) (A0 : Option Addr) (n0 c0 : Nat) (A1 : Option Addr) (n1 c1 : Nat) (A2 : Option Addr) (n2 c2 : Nat) (A3 : Option Addr) (n3 c3 : Nat) : List (Option Value) := none :: none :: none :: none :: none :: none :: none :: none :: none :: none :: none :: none :: none :: none :: none :: none :: none :: none :: none :: none :: none :: some (.pointer (some ⟨G, 0, none⟩)) :: some (.slice A0 n0 c0) :: some (.pointer (some ⟨G, 0, none⟩)) :: some (.slice A0 n0 c0) :: some (.int .i64 (n0 : Int)) :: some (.int .i64 (min (n0 : Int) 5)) :: some (.slice A0 (min (n0 : Int) 5).toNat c0) :: some (.pointer (some ⟨G, 1, none⟩)) :: some (.slice A1 n1 c1) :: some (.pointer (some ⟨G, 1, none⟩)) :: some (.slice A1 n1 c1) :: some (.int .i64 (n1 : Int)) :: some (.int .i64 (min (n1 : Int) 10)) :: some (.slice A1 (min (n1 : Int) 10).toNat c1) :: some (.pointer (some ⟨G, 2, none⟩)) :: some (.slice A2 n2 c2) :: some (.pointer (some ⟨G, 2, none⟩)) :: some (.slice A2 n2 c2) :: some (.int .i64 (n2 : Int)) :: some (.int .i64 (min (n2 : Int) 8)) :: some (.slice A2 (min (n2 : Int) 8).toNat c2) :: some (.pointer (some ⟨G, 3, none⟩)) :: some (.slice A3 n3 c3) :: some (.pointer (some ⟨G, 3, none⟩)) :: some (.slice A3 n3 c3) :: some (.int .i64 (n3 : Int)) :: some (.int .i64 (min (n3 : Int) 12)) :: some (.slice A3 (min (n3 : Int) 12).toNat c3) :: some (.pointer (some ⟨G, 0, none⟩)) :: some (.pointer (some ⟨G, 1, none⟩)) :: some (.pointer (some ⟨G, 2, none⟩)) :: some (.pointer (some ⟨G, 3, none⟩)) :: none :: none :: none :: none :: none :: none :: none :: none :: none :: none :: none :: none :: none :: none :: none :: none :: none :: none :: none :: none :: none :: none :: none :: none :: none :: none :: none :: none :: none :: none :: none :: none :: none :: none :: none :: none :: none :: none :: none :: none :: none :: none :: none :: none :: none :: none :: none :: none :: none :: none :: none :: none :: none :: none :: none :: none :: none :: none :: none :: none :: none :: none :: none :: none :: none :: none :: none :: none :: none :: none :: none :: none :: none :: none :: none :: none :: none :: none :: none :: none :: none :: none :: none :: none :: none :: none :: none :: none :: none :: none :: none :: none :: none :: none :: none :: none :: none :: none :: none :: none :: none :: none :: none :: none :: none :: none :: none :: none :: none :: none :: none :: none :: none :: none :: none :: none :: none :: none :: none :: none :: none :: none :: none :: none :: none :: none :: none :: none :: none :: none :: none :: []
/-- The region's state. -/
structure I3 (G : Nat) (A0 : Option Addr) (n0 c0 : Nat) (A1 : Option Addr) (n1 c1 : Nat) (A2 : Option Addr) (n2 c2 : Nat) (A3 : Option Addr) (n3 c3 : Nat) (l : List Value) (B : Nat) (wr : World) (listed : Array Bool) (a : Act) (w : World) : Prop where
  ri : RK q3Ops (q3Tab G A0 n0 c0 A1 n1 c1 A2 n2 c2 A3 n3 c3) l B wr listed a w
  blk : Blk w G 27 #[(bif listed.getD 29 false then .slice A0 (min (n0 : Int) 5).toNat c0 else .slice A0 n0 c0), (bif listed.getD 31 false then .slice A1 (min (n1 : Int) 10).toNat c1 else .slice A1 n1 c1), (bif listed.getD 33 false then .slice A2 (min (n2 : Int) 8).toNat c2 else .slice A2 n2 c2), (bif listed.getD 35 false then .slice A3 (min (n3 : Int) 12).toNat c3 else .slice A3 n3 c3)]
section
variable {G : Nat} {A0 : Option Addr} {n0 c0 : Nat} {A1 : Option Addr} {n1 c1 : Nat} {A2 : Option Addr} {n2 c2 : Nat} {A3 : Option Addr} {n3 c3 : Nat} {l : List Value} {B : Nat} {wr : World} {listed : Array Bool} {a : Act} {w : World}
theorem I3.next {i : Nat} {o' : Oper} {d : Nat} {v : Value} {w' : World} (h : I3 G A0 n0 c0 A1 n1 c1 A2 n2 c2 A3 n3 c3 l B wr listed a w) (hl : l.length = 184) (ho : q3Ops[i]? = some o') (hd : o'.dst = some d) (hN : d < 184) (hi : i ≠ 29 ∧ i ≠ 31 ∧ i ≠ 33 ∧ i ≠ 35)
    (hb : Below w.heap.size w w') (hv : v = ((q3Tab G A0 n0 c0 A1 n1 c1 A2 n2 c2 A3 n3 c3).lookup d).getD undef) (hB : B ≤ wr.heap.size) (hall : ∀ e ∈ o'.after, Region.binds .any e = true → listed.getD e.on false = true) : I3 G A0 n0 c0 A1 n1 c1 A2 n2 c2 A3 n3 c3 l B wr (listed.setIfInBounds i true) (a.put o'.dst v) w' := by
  have hz := h.ri.bel.size
  refine ⟨h.ri.put ho hd (by omega) (h.ri.bel.trans (hb.mono (Nat.le_trans hB hz))) hv hall, ?_⟩
  rw [listed_ne hi.1, listed_ne hi.2.1, listed_ne hi.2.2.1, listed_ne hi.2.2.2]
  exact h.blk.below hb h.blk.lt
theorem I3.st0 {o' : Oper} (h : I3 G A0 n0 c0 A1 n1 c1 A2 n2 c2 A3 n3 c3 l B wr listed a w) (ho : q3Ops[29]? = some o') (hd : o'.dst = none) (hf : listed[29]? = some false) (hBG : B ≤ G)
    (hall : ∀ e ∈ o'.after, Region.binds .any e = true → listed.getD e.on false = true) : I3 G A0 n0 c0 A1 n1 c1 A2 n2 c2 A3 n3 c3 l B wr (listed.setIfInBounds 29 true) a (w.setCell ⟨G, 0, none⟩ (.slice A0 (min (n0 : Int) 5).toNat c0)) := by
  have hlt := (Array.getElem?_eq_some_iff.1 hf).1
  refine ⟨h.ri.store ho hd (h.ri.bel.setCell hBG _) hall, ?_⟩
  have hb := h.blk.set_ 0 (.slice A0 (min (n0 : Int) 5).toNat c0)
  have e : (listed.setIfInBounds 29 true).getD 29 false = true := by simp [hlt]
  rw [e, listed_ne (i := 29) (j := 31) (by decide), listed_ne (i := 29) (j := 33) (by decide), listed_ne (i := 29) (j := 35) (by decide)]
  exact hb
theorem I3.st1 {o' : Oper} (h : I3 G A0 n0 c0 A1 n1 c1 A2 n2 c2 A3 n3 c3 l B wr listed a w) (ho : q3Ops[31]? = some o') (hd : o'.dst = none) (hf : listed[31]? = some false) (hBG : B ≤ G)
    (hall : ∀ e ∈ o'.after, Region.binds .any e = true → listed.getD e.on false = true) : I3 G A0 n0 c0 A1 n1 c1 A2 n2 c2 A3 n3 c3 l B wr (listed.setIfInBounds 31 true) a (w.setCell ⟨G, 1, none⟩ (.slice A1 (min (n1 : Int) 10).toNat c1)) := by
  have hlt := (Array.getElem?_eq_some_iff.1 hf).1
  refine ⟨h.ri.store ho hd (h.ri.bel.setCell hBG _) hall, ?_⟩
  have hb := h.blk.set_ 1 (.slice A1 (min (n1 : Int) 10).toNat c1)
  have e : (listed.setIfInBounds 31 true).getD 31 false = true := by simp [hlt]
  rw [e, listed_ne (i := 31) (j := 29) (by decide), listed_ne (i := 31) (j := 33) (by decide), listed_ne (i := 31) (j := 35) (by decide)]
  exact hb
theorem I3.st2 {o' : Oper} (h : I3 G A0 n0 c0 A1 n1 c1 A2 n2 c2 A3 n3 c3 l B wr listed a w) (ho : q3Ops[33]? = some o') (hd : o'.dst = none) (hf : listed[33]? = some false) (hBG : B ≤ G)
    (hall : ∀ e ∈ o'.after, Region.binds .any e = true → listed.getD e.on false = true) : I3 G A0 n0 c0 A1 n1 c1 A2 n2 c2 A3 n3 c3 l B wr (listed.setIfInBounds 33 true) a (w.setCell ⟨G, 2, none⟩ (.slice A2 (min (n2 : Int) 8).toNat c2)) := by
  have hlt := (Array.getElem?_eq_some_iff.1 hf).1
  refine ⟨h.ri.store ho hd (h.ri.bel.setCell hBG _) hall, ?_⟩
  have hb := h.blk.set_ 2 (.slice A2 (min (n2 : Int) 8).toNat c2)
  have e : (listed.setIfInBounds 33 true).getD 33 false = true := by simp [hlt]
  rw [e, listed_ne (i := 33) (j := 29) (by decide), listed_ne (i := 33) (j := 31) (by decide), listed_ne (i := 33) (j := 35) (by decide)]
  exact hb
theorem I3.st3 {o' : Oper} (h : I3 G A0 n0 c0 A1 n1 c1 A2 n2 c2 A3 n3 c3 l B wr listed a w) (ho : q3Ops[35]? = some o') (hd : o'.dst = none) (hf : listed[35]? = some false) (hBG : B ≤ G)
    (hall : ∀ e ∈ o'.after, Region.binds .any e = true → listed.getD e.on false = true) : I3 G A0 n0 c0 A1 n1 c1 A2 n2 c2 A3 n3 c3 l B wr (listed.setIfInBounds 35 true) a (w.setCell ⟨G, 3, none⟩ (.slice A3 (min (n3 : Int) 12).toNat c3)) := by
  have hlt := (Array.getElem?_eq_some_iff.1 hf).1
  refine ⟨h.ri.store ho hd (h.ri.bel.setCell hBG _) hall, ?_⟩
  have hb := h.blk.set_ 3 (.slice A3 (min (n3 : Int) 12).toNat c3)
  have e : (listed.setIfInBounds 35 true).getD 35 false = true := by simp [hlt]
  rw [e, listed_ne (i := 35) (j := 29) (by decide), listed_ne (i := 35) (j := 31) (by decide), listed_ne (i := 35) (j := 33) (by decide)]
  exact hb
end
set_option maxRecDepth 100000 in
set_option maxHeartbeats 4000000 in
theorem q3_step (G : Nat) (A0 : Option Addr) (n0 c0 : Nat) (A1 : Option Addr) (n1 c1 : Nat) (A2 : Option Addr) (n2 c2 : Nat) (A3 : Option Addr) (n3 c3 : Nat) (l : List Value) (B : Nat) (wr : World) (hl : l.length = 184) (h2 : l[2]? = some (.pointer (some ⟨G, 0, none⟩))) (hBG : B ≤ G) (hB : B ≤ wr.heap.size) (hm0 : (0 : Int) ≤ min (n0 : Int) 5) (hx0 : min (n0 : Int) 5 ≤ (c0 : Int)) (hy0 : c0 ≤ 9223372036854775807) (hm1 : (0 : Int) ≤ min (n1 : Int) 10) (hx1 : min (n1 : Int) 10 ≤ (c1 : Int)) (hy1 : c1 ≤ 9223372036854775807) (hm2 : (0 : Int) ≤ min (n2 : Int) 8) (hx2 : min (n2 : Int) 8 ≤ (c2 : Int)) (hy2 : c2 ≤ 9223372036854775807) (hm3 : (0 : Int) ≤ min (n3 : Int) 12) (hx3 : min (n3 : Int) 12 ≤ (c3 : Int)) (hy3 : c3 ≤ 9223372036854775807) :
    ∀ (listed : Array Bool) (i : Nat) (o' : Oper) (a : Act) (W : World), I3 G A0 n0 c0 A1 n1 c1 A2 n2 c2 A3 n3 c3 l B wr listed a W → q3Ops[i]? = some o' → listed[i]? = some false → (∀ e ∈ o'.after, Region.binds .any e = true → listed.getD e.on false = true) →
      Region.wanted o' (yielded q3Ops a.tmps) = true ∧ ∀ K Q', (∀ a' w', I3 G A0 n0 c0 A1 n1 c1 A2 n2 c2 A3 n3 c3 l B wr (listed.setIfInBounds i true) a' w' → K a' w') → o'.wp Try.prog a W K Q' := by
  intro listed i o' a W hI ho hf hall
  have hu : listed.getD i false = false := by rw [Array.getD_eq_getD_getElem?, hf]; rfl
  have hini : ∀ d ∈ ([2] : List Nat), l[d]? = some (((q3Tab G A0 n0 c0 A1 n1 c1 A2 n2 c2 A3 n3 c3).lookup d).getD undef) ∧ ∀ (i : Nat) (o : Oper), q3Ops[i]? = some o → o.dst ≠ some d := by
    intro d hd
    simp only [List.mem_cons, List.not_mem_nil, or_false] at hd
    subst hd
    exact ⟨h2, notDstK_of (by kernel_rfl)⟩
  clear h2
  have hlt : i < 36 := by rw [← q3_size]; exact (Array.getElem?_eq_some_iff.1 ho).1
  have hcase : i = 0 ∨ i = 1 ∨ i = 2 ∨ i = 3 ∨ i = 4 ∨ i = 5 ∨ i = 6 ∨ i = 7 ∨ i = 8 ∨ i = 9 ∨ i = 10 ∨ i = 11 ∨ i = 12 ∨ i = 13 ∨ i = 14 ∨ i = 15 ∨ i = 16 ∨ i = 17 ∨ i = 18 ∨ i = 19 ∨ i = 20 ∨ i = 21 ∨ i = 22 ∨ i = 23 ∨ i = 24 ∨ i = 25 ∨ i = 26 ∨ i = 27 ∨ i = 28 ∨ i = 29 ∨ i = 30 ∨ i = 31 ∨ i = 32 ∨ i = 33 ∨ i = 34 ∨ i = 35 := by omega
  rcases hcase with rfl | rfl | rfl | rfl | rfl | rfl | rfl | rfl | rfl | rfl | rfl | rfl | rfl | rfl | rfl | rfl | rfl | rfl | rfl | rfl | rfl | rfl | rfl | rfl | rfl | rfl | rfl | rfl | rfl | rfl | rfl | rfl | rfl | rfl | rfl | rfl
  · obtain ⟨h1, h2⟩ := opG_of (x := .fieldAddr 27 (.tmp 2) 0) (d := some 21) (by kernel_rfl) ho
    refine ⟨free_not (guardG_of (by kernel_rfl) ho), fun K Q' hK => ?_⟩
    have hn : ∀ x ∈ q3Needs.getD 0 [], Holds (tabV (q3Tab G A0 n0 c0 A1 n1 c1 A2 n2 c2 A3 n3 c3)) a W x := hI.ri.needs (needs := q3Needs) (init := [2]) (by kernel_rfl) ho hall hini
    have hm : Meets Try.prog (tabV (q3Tab G A0 n0 c0 A1 n1 c1 A2 n2 c2 A3 n3 c3)) o' a W := meets_field h1 (fg_val 2 (.pointer (some ⟨G, 0, none⟩)) hn (by kernel_rfl) rfl) (by kernel_rfl : (Instr.fieldAt 27 (.pointer (some ⟨G, 0, none⟩)) 0).run Try.prog W = .ok (.pointer (some ⟨G, 0, none⟩)) W) (fg_put h2 rfl)
    exact hm 21 h2 K Q' fun v w' hb hv => hK _ _ (hI.next hl ho h2 (by decide) (by decide) hb hv hB hall)
  · obtain ⟨h1, h2⟩ := opG_of (x := .load 22 (.tmp 21)) (d := some 22) (by kernel_rfl) ho
    refine ⟨free_not (guardG_of (by kernel_rfl) ho), fun K Q' hK => ?_⟩
    have hn : ∀ x ∈ q3Needs.getD 1 [], Holds (tabV (q3Tab G A0 n0 c0 A1 n1 c1 A2 n2 c2 A3 n3 c3)) a W x := hI.ri.needs (needs := q3Needs) (init := [2]) (by kernel_rfl) ho hall hini
    have hm : Meets Try.prog (tabV (q3Tab G A0 n0 c0 A1 n1 c1 A2 n2 c2 A3 n3 c3)) o' a W := by
      have hlf : listed.getD 29 false = false := by
        cases hc : listed.getD 29 false with
        | false => rfl
        | true => exact absurd ((waitsK_of (ops := q3Ops) (i := 29) (j := 1) (by kernel_rfl) hI.ri.cl hc).symm.trans hu) (by decide)
      have cc9 := hI.blk.cell 0
      simp only [hlf, cond_false, List.getElem?_toArray, List.getElem?_cons_zero, List.getElem?_cons_succ] at cc9
      exact meets_load (v := .slice A0 n0 c0) h1 (fg_val 21 (.pointer (some ⟨G, 0, none⟩)) hn (by kernel_rfl) rfl) (by simp [go_sem, cc9]) (fg_put h2 rfl)
    exact hm 22 h2 K Q' fun v w' hb hv => hK _ _ (hI.next hl ho h2 (by decide) (by decide) hb hv hB hall)
  · obtain ⟨h1, h2⟩ := opG_of (x := .fieldAddr 27 (.tmp 2) 0) (d := some 23) (by kernel_rfl) ho
    refine ⟨free_not (guardG_of (by kernel_rfl) ho), fun K Q' hK => ?_⟩
    have hn : ∀ x ∈ q3Needs.getD 2 [], Holds (tabV (q3Tab G A0 n0 c0 A1 n1 c1 A2 n2 c2 A3 n3 c3)) a W x := hI.ri.needs (needs := q3Needs) (init := [2]) (by kernel_rfl) ho hall hini
    have hm : Meets Try.prog (tabV (q3Tab G A0 n0 c0 A1 n1 c1 A2 n2 c2 A3 n3 c3)) o' a W := meets_field h1 (fg_val 2 (.pointer (some ⟨G, 0, none⟩)) hn (by kernel_rfl) rfl) (by kernel_rfl : (Instr.fieldAt 27 (.pointer (some ⟨G, 0, none⟩)) 0).run Try.prog W = .ok (.pointer (some ⟨G, 0, none⟩)) W) (fg_put h2 rfl)
    exact hm 23 h2 K Q' fun v w' hb hv => hK _ _ (hI.next hl ho h2 (by decide) (by decide) hb hv hB hall)
  · obtain ⟨h1, h2⟩ := opG_of (x := .load 22 (.tmp 23)) (d := some 24) (by kernel_rfl) ho
    refine ⟨free_not (guardG_of (by kernel_rfl) ho), fun K Q' hK => ?_⟩
    have hn : ∀ x ∈ q3Needs.getD 3 [], Holds (tabV (q3Tab G A0 n0 c0 A1 n1 c1 A2 n2 c2 A3 n3 c3)) a W x := hI.ri.needs (needs := q3Needs) (init := [2]) (by kernel_rfl) ho hall hini
    have hm : Meets Try.prog (tabV (q3Tab G A0 n0 c0 A1 n1 c1 A2 n2 c2 A3 n3 c3)) o' a W := by
      have hlf : listed.getD 29 false = false := by
        cases hc : listed.getD 29 false with
        | false => rfl
        | true => exact absurd ((waitsK_of (ops := q3Ops) (i := 29) (j := 3) (by kernel_rfl) hI.ri.cl hc).symm.trans hu) (by decide)
      have cc9 := hI.blk.cell 0
      simp only [hlf, cond_false, List.getElem?_toArray, List.getElem?_cons_zero, List.getElem?_cons_succ] at cc9
      exact meets_load (v := .slice A0 n0 c0) h1 (fg_val 23 (.pointer (some ⟨G, 0, none⟩)) hn (by kernel_rfl) rfl) (by simp [go_sem, cc9]) (fg_put h2 rfl)
    exact hm 24 h2 K Q' fun v w' hb hv => hK _ _ (hI.next hl ho h2 (by decide) (by decide) hb hv hB hall)
  · obtain ⟨h1, h2⟩ := opG_of (x := .call { callee := .builtin .len, args := #[.tmp 24], argTypes := #[22] }) (d := some 25) (by kernel_rfl) ho
    refine ⟨free_not (guardG_of (by kernel_rfl) ho), fun K Q' hK => ?_⟩
    have hn : ∀ x ∈ q3Needs.getD 4 [], Holds (tabV (q3Tab G A0 n0 c0 A1 n1 c1 A2 n2 c2 A3 n3 c3)) a W x := hI.ri.needs (needs := q3Needs) (init := [2]) (by kernel_rfl) ho hall hini
    have hm : Meets Try.prog (tabV (q3Tab G A0 n0 c0 A1 n1 c1 A2 n2 c2 A3 n3 c3)) o' a W := meets_value (v := .int .i64 (n0 : Int)) (by have e1 := (fg_tmp 24 (.slice A0 n0 c0) hn (by kernel_rfl) rfl); have e2 := typeK_of (t := 3) (by kernel_rfl) ho; unfold execOp; simp only [h1]; simp [go_sem, e1, e2]) (fg_put h2 rfl)
    exact hm 25 h2 K Q' fun v w' hb hv => hK _ _ (hI.next hl ho h2 (by decide) (by decide) hb hv hB hall)
  · obtain ⟨h1, h2⟩ := opG_of (x := .call { callee := .builtin .min, args := #[.tmp 25, .const (.int .i64 5)], argTypes := #[3, 3] }) (d := some 26) (by kernel_rfl) ho
    refine ⟨free_not (guardG_of (by kernel_rfl) ho), fun K Q' hK => ?_⟩
    have hn : ∀ x ∈ q3Needs.getD 5 [], Holds (tabV (q3Tab G A0 n0 c0 A1 n1 c1 A2 n2 c2 A3 n3 c3)) a W x := hI.ri.needs (needs := q3Needs) (init := [2]) (by kernel_rfl) ho hall hini
    have hm : Meets Try.prog (tabV (q3Tab G A0 n0 c0 A1 n1 c1 A2 n2 c2 A3 n3 c3)) o' a W := meets_value (v := .int .i64 (min (n0 : Int) 5)) (by have e1 := (fg_tmp 25 (.int .i64 (n0 : Int)) hn (by kernel_rfl) rfl); have e2 := typeK_of (t := 3) (by kernel_rfl) ho; unfold execOp; simp only [h1]; simp [go_sem, e1, e2]) (fg_put h2 rfl)
    exact hm 26 h2 K Q' fun v w' hb hv => hK _ _ (hI.next hl ho h2 (by decide) (by decide) hb hv hB hall)
  · obtain ⟨h1, h2⟩ := opG_of (x := .slice 22 (.tmp 22) none (some (.tmp 26)) none) (d := some 27) (by kernel_rfl) ho
    refine ⟨free_not (guardG_of (by kernel_rfl) ho), fun K Q' hK => ?_⟩
    have hn : ∀ x ∈ q3Needs.getD 6 [], Holds (tabV (q3Tab G A0 n0 c0 A1 n1 c1 A2 n2 c2 A3 n3 c3)) a W x := hI.ri.needs (needs := q3Needs) (init := [2]) (by kernel_rfl) ho hall hini
    have hm : Meets Try.prog (tabV (q3Tab G A0 n0 c0 A1 n1 c1 A2 n2 c2 A3 n3 c3)) o' a W := meets_value (v := .slice A0 (min (n0 : Int) 5).toNat c0) (by have e1 := (fg_tmp 22 (.slice A0 n0 c0) hn (by kernel_rfl) rfl); have e2 := (fg_tmp 26 (.int .i64 (min (n0 : Int) 5)) hn (by kernel_rfl) rfl); unfold execOp; simp only [h1]; simp [go_sem, e1, e2, hm0, hx0, hy0, addK]) (fg_put h2 rfl)
    exact hm 27 h2 K Q' fun v w' hb hv => hK _ _ (hI.next hl ho h2 (by decide) (by decide) hb hv hB hall)
  · obtain ⟨h1, h2⟩ := opG_of (x := .fieldAddr 27 (.tmp 2) 1) (d := some 28) (by kernel_rfl) ho
    refine ⟨free_not (guardG_of (by kernel_rfl) ho), fun K Q' hK => ?_⟩
    have hn : ∀ x ∈ q3Needs.getD 7 [], Holds (tabV (q3Tab G A0 n0 c0 A1 n1 c1 A2 n2 c2 A3 n3 c3)) a W x := hI.ri.needs (needs := q3Needs) (init := [2]) (by kernel_rfl) ho hall hini
    have hm : Meets Try.prog (tabV (q3Tab G A0 n0 c0 A1 n1 c1 A2 n2 c2 A3 n3 c3)) o' a W := meets_field h1 (fg_val 2 (.pointer (some ⟨G, 0, none⟩)) hn (by kernel_rfl) rfl) (by kernel_rfl : (Instr.fieldAt 27 (.pointer (some ⟨G, 0, none⟩)) 1).run Try.prog W = .ok (.pointer (some ⟨G, 1, none⟩)) W) (fg_put h2 rfl)
    exact hm 28 h2 K Q' fun v w' hb hv => hK _ _ (hI.next hl ho h2 (by decide) (by decide) hb hv hB hall)
  · obtain ⟨h1, h2⟩ := opG_of (x := .load 23 (.tmp 28)) (d := some 29) (by kernel_rfl) ho
    refine ⟨free_not (guardG_of (by kernel_rfl) ho), fun K Q' hK => ?_⟩
    have hn : ∀ x ∈ q3Needs.getD 8 [], Holds (tabV (q3Tab G A0 n0 c0 A1 n1 c1 A2 n2 c2 A3 n3 c3)) a W x := hI.ri.needs (needs := q3Needs) (init := [2]) (by kernel_rfl) ho hall hini
    have hm : Meets Try.prog (tabV (q3Tab G A0 n0 c0 A1 n1 c1 A2 n2 c2 A3 n3 c3)) o' a W := by
      have hlf : listed.getD 31 false = false := by
        cases hc : listed.getD 31 false with
        | false => rfl
        | true => exact absurd ((waitsK_of (ops := q3Ops) (i := 31) (j := 8) (by kernel_rfl) hI.ri.cl hc).symm.trans hu) (by decide)
      have cc9 := hI.blk.cell 1
      simp only [hlf, cond_false, List.getElem?_toArray, List.getElem?_cons_zero, List.getElem?_cons_succ] at cc9
      exact meets_load (v := .slice A1 n1 c1) h1 (fg_val 28 (.pointer (some ⟨G, 1, none⟩)) hn (by kernel_rfl) rfl) (by simp [go_sem, cc9]) (fg_put h2 rfl)
    exact hm 29 h2 K Q' fun v w' hb hv => hK _ _ (hI.next hl ho h2 (by decide) (by decide) hb hv hB hall)
  · obtain ⟨h1, h2⟩ := opG_of (x := .fieldAddr 27 (.tmp 2) 1) (d := some 30) (by kernel_rfl) ho
    refine ⟨free_not (guardG_of (by kernel_rfl) ho), fun K Q' hK => ?_⟩
    have hn : ∀ x ∈ q3Needs.getD 9 [], Holds (tabV (q3Tab G A0 n0 c0 A1 n1 c1 A2 n2 c2 A3 n3 c3)) a W x := hI.ri.needs (needs := q3Needs) (init := [2]) (by kernel_rfl) ho hall hini
    have hm : Meets Try.prog (tabV (q3Tab G A0 n0 c0 A1 n1 c1 A2 n2 c2 A3 n3 c3)) o' a W := meets_field h1 (fg_val 2 (.pointer (some ⟨G, 0, none⟩)) hn (by kernel_rfl) rfl) (by kernel_rfl : (Instr.fieldAt 27 (.pointer (some ⟨G, 0, none⟩)) 1).run Try.prog W = .ok (.pointer (some ⟨G, 1, none⟩)) W) (fg_put h2 rfl)
    exact hm 30 h2 K Q' fun v w' hb hv => hK _ _ (hI.next hl ho h2 (by decide) (by decide) hb hv hB hall)
  · obtain ⟨h1, h2⟩ := opG_of (x := .load 23 (.tmp 30)) (d := some 31) (by kernel_rfl) ho
    refine ⟨free_not (guardG_of (by kernel_rfl) ho), fun K Q' hK => ?_⟩
    have hn : ∀ x ∈ q3Needs.getD 10 [], Holds (tabV (q3Tab G A0 n0 c0 A1 n1 c1 A2 n2 c2 A3 n3 c3)) a W x := hI.ri.needs (needs := q3Needs) (init := [2]) (by kernel_rfl) ho hall hini
    have hm : Meets Try.prog (tabV (q3Tab G A0 n0 c0 A1 n1 c1 A2 n2 c2 A3 n3 c3)) o' a W := by
      have hlf : listed.getD 31 false = false := by
        cases hc : listed.getD 31 false with
        | false => rfl
        | true => exact absurd ((waitsK_of (ops := q3Ops) (i := 31) (j := 10) (by kernel_rfl) hI.ri.cl hc).symm.trans hu) (by decide)
      have cc9 := hI.blk.cell 1
      simp only [hlf, cond_false, List.getElem?_toArray, List.getElem?_cons_zero, List.getElem?_cons_succ] at cc9
      exact meets_load (v := .slice A1 n1 c1) h1 (fg_val 30 (.pointer (some ⟨G, 1, none⟩)) hn (by kernel_rfl) rfl) (by simp [go_sem, cc9]) (fg_put h2 rfl)
    exact hm 31 h2 K Q' fun v w' hb hv => hK _ _ (hI.next hl ho h2 (by decide) (by decide) hb hv hB hall)
  · obtain ⟨h1, h2⟩ := opG_of (x := .call { callee := .builtin .len, args := #[.tmp 31], argTypes := #[23] }) (d := some 32) (by kernel_rfl) ho
    refine ⟨free_not (guardG_of (by kernel_rfl) ho), fun K Q' hK => ?_⟩
    have hn : ∀ x ∈ q3Needs.getD 11 [], Holds (tabV (q3Tab G A0 n0 c0 A1 n1 c1 A2 n2 c2 A3 n3 c3)) a W x := hI.ri.needs (needs := q3Needs) (init := [2]) (by kernel_rfl) ho hall hini
    have hm : Meets Try.prog (tabV (q3Tab G A0 n0 c0 A1 n1 c1 A2 n2 c2 A3 n3 c3)) o' a W := meets_value (v := .int .i64 (n1 : Int)) (by have e1 := (fg_tmp 31 (.slice A1 n1 c1) hn (by kernel_rfl) rfl); have e2 := typeK_of (t := 3) (by kernel_rfl) ho; unfold execOp; simp only [h1]; simp [go_sem, e1, e2]) (fg_put h2 rfl)
    exact hm 32 h2 K Q' fun v w' hb hv => hK _ _ (hI.next hl ho h2 (by decide) (by decide) hb hv hB hall)
  · obtain ⟨h1, h2⟩ := opG_of (x := .call { callee := .builtin .min, args := #[.tmp 32, .const (.int .i64 10)], argTypes := #[3, 3] }) (d := some 33) (by kernel_rfl) ho
    refine ⟨free_not (guardG_of (by kernel_rfl) ho), fun K Q' hK => ?_⟩
    have hn : ∀ x ∈ q3Needs.getD 12 [], Holds (tabV (q3Tab G A0 n0 c0 A1 n1 c1 A2 n2 c2 A3 n3 c3)) a W x := hI.ri.needs (needs := q3Needs) (init := [2]) (by kernel_rfl) ho hall hini
    have hm : Meets Try.prog (tabV (q3Tab G A0 n0 c0 A1 n1 c1 A2 n2 c2 A3 n3 c3)) o' a W := meets_value (v := .int .i64 (min (n1 : Int) 10)) (by have e1 := (fg_tmp 32 (.int .i64 (n1 : Int)) hn (by kernel_rfl) rfl); have e2 := typeK_of (t := 3) (by kernel_rfl) ho; unfold execOp; simp only [h1]; simp [go_sem, e1, e2]) (fg_put h2 rfl)
    exact hm 33 h2 K Q' fun v w' hb hv => hK _ _ (hI.next hl ho h2 (by decide) (by decide) hb hv hB hall)
  · obtain ⟨h1, h2⟩ := opG_of (x := .slice 23 (.tmp 29) none (some (.tmp 33)) none) (d := some 34) (by kernel_rfl) ho
    refine ⟨free_not (guardG_of (by kernel_rfl) ho), fun K Q' hK => ?_⟩
    have hn : ∀ x ∈ q3Needs.getD 13 [], Holds (tabV (q3Tab G A0 n0 c0 A1 n1 c1 A2 n2 c2 A3 n3 c3)) a W x := hI.ri.needs (needs := q3Needs) (init := [2]) (by kernel_rfl) ho hall hini
    have hm : Meets Try.prog (tabV (q3Tab G A0 n0 c0 A1 n1 c1 A2 n2 c2 A3 n3 c3)) o' a W := meets_value (v := .slice A1 (min (n1 : Int) 10).toNat c1) (by have e1 := (fg_tmp 29 (.slice A1 n1 c1) hn (by kernel_rfl) rfl); have e2 := (fg_tmp 33 (.int .i64 (min (n1 : Int) 10)) hn (by kernel_rfl) rfl); unfold execOp; simp only [h1]; simp [go_sem, e1, e2, hm1, hx1, hy1, addK]) (fg_put h2 rfl)
    exact hm 34 h2 K Q' fun v w' hb hv => hK _ _ (hI.next hl ho h2 (by decide) (by decide) hb hv hB hall)
  · obtain ⟨h1, h2⟩ := opG_of (x := .fieldAddr 27 (.tmp 2) 2) (d := some 35) (by kernel_rfl) ho
    refine ⟨free_not (guardG_of (by kernel_rfl) ho), fun K Q' hK => ?_⟩
    have hn : ∀ x ∈ q3Needs.getD 14 [], Holds (tabV (q3Tab G A0 n0 c0 A1 n1 c1 A2 n2 c2 A3 n3 c3)) a W x := hI.ri.needs (needs := q3Needs) (init := [2]) (by kernel_rfl) ho hall hini
    have hm : Meets Try.prog (tabV (q3Tab G A0 n0 c0 A1 n1 c1 A2 n2 c2 A3 n3 c3)) o' a W := meets_field h1 (fg_val 2 (.pointer (some ⟨G, 0, none⟩)) hn (by kernel_rfl) rfl) (by kernel_rfl : (Instr.fieldAt 27 (.pointer (some ⟨G, 0, none⟩)) 2).run Try.prog W = .ok (.pointer (some ⟨G, 2, none⟩)) W) (fg_put h2 rfl)
    exact hm 35 h2 K Q' fun v w' hb hv => hK _ _ (hI.next hl ho h2 (by decide) (by decide) hb hv hB hall)
  · obtain ⟨h1, h2⟩ := opG_of (x := .load 24 (.tmp 35)) (d := some 36) (by kernel_rfl) ho
    refine ⟨free_not (guardG_of (by kernel_rfl) ho), fun K Q' hK => ?_⟩
    have hn : ∀ x ∈ q3Needs.getD 15 [], Holds (tabV (q3Tab G A0 n0 c0 A1 n1 c1 A2 n2 c2 A3 n3 c3)) a W x := hI.ri.needs (needs := q3Needs) (init := [2]) (by kernel_rfl) ho hall hini
    have hm : Meets Try.prog (tabV (q3Tab G A0 n0 c0 A1 n1 c1 A2 n2 c2 A3 n3 c3)) o' a W := by
      have hlf : listed.getD 33 false = false := by
        cases hc : listed.getD 33 false with
        | false => rfl
        | true => exact absurd ((waitsK_of (ops := q3Ops) (i := 33) (j := 15) (by kernel_rfl) hI.ri.cl hc).symm.trans hu) (by decide)
      have cc9 := hI.blk.cell 2
      simp only [hlf, cond_false, List.getElem?_toArray, List.getElem?_cons_zero, List.getElem?_cons_succ] at cc9
      exact meets_load (v := .slice A2 n2 c2) h1 (fg_val 35 (.pointer (some ⟨G, 2, none⟩)) hn (by kernel_rfl) rfl) (by simp [go_sem, cc9]) (fg_put h2 rfl)
    exact hm 36 h2 K Q' fun v w' hb hv => hK _ _ (hI.next hl ho h2 (by decide) (by decide) hb hv hB hall)
  · obtain ⟨h1, h2⟩ := opG_of (x := .fieldAddr 27 (.tmp 2) 2) (d := some 37) (by kernel_rfl) ho
    refine ⟨free_not (guardG_of (by kernel_rfl) ho), fun K Q' hK => ?_⟩
    have hn : ∀ x ∈ q3Needs.getD 16 [], Holds (tabV (q3Tab G A0 n0 c0 A1 n1 c1 A2 n2 c2 A3 n3 c3)) a W x := hI.ri.needs (needs := q3Needs) (init := [2]) (by kernel_rfl) ho hall hini
    have hm : Meets Try.prog (tabV (q3Tab G A0 n0 c0 A1 n1 c1 A2 n2 c2 A3 n3 c3)) o' a W := meets_field h1 (fg_val 2 (.pointer (some ⟨G, 0, none⟩)) hn (by kernel_rfl) rfl) (by kernel_rfl : (Instr.fieldAt 27 (.pointer (some ⟨G, 0, none⟩)) 2).run Try.prog W = .ok (.pointer (some ⟨G, 2, none⟩)) W) (fg_put h2 rfl)
    exact hm 37 h2 K Q' fun v w' hb hv => hK _ _ (hI.next hl ho h2 (by decide) (by decide) hb hv hB hall)
  · obtain ⟨h1, h2⟩ := opG_of (x := .load 24 (.tmp 37)) (d := some 38) (by kernel_rfl) ho
    refine ⟨free_not (guardG_of (by kernel_rfl) ho), fun K Q' hK => ?_⟩
    have hn : ∀ x ∈ q3Needs.getD 17 [], Holds (tabV (q3Tab G A0 n0 c0 A1 n1 c1 A2 n2 c2 A3 n3 c3)) a W x := hI.ri.needs (needs := q3Needs) (init := [2]) (by kernel_rfl) ho hall hini
    have hm : Meets Try.prog (tabV (q3Tab G A0 n0 c0 A1 n1 c1 A2 n2 c2 A3 n3 c3)) o' a W := by
      have hlf : listed.getD 33 false = false := by
        cases hc : listed.getD 33 false with
        | false => rfl
        | true => exact absurd ((waitsK_of (ops := q3Ops) (i := 33) (j := 17) (by kernel_rfl) hI.ri.cl hc).symm.trans hu) (by decide)
      have cc9 := hI.blk.cell 2
      simp only [hlf, cond_false, List.getElem?_toArray, List.getElem?_cons_zero, List.getElem?_cons_succ] at cc9
      exact meets_load (v := .slice A2 n2 c2) h1 (fg_val 37 (.pointer (some ⟨G, 2, none⟩)) hn (by kernel_rfl) rfl) (by simp [go_sem, cc9]) (fg_put h2 rfl)
    exact hm 38 h2 K Q' fun v w' hb hv => hK _ _ (hI.next hl ho h2 (by decide) (by decide) hb hv hB hall)
  · obtain ⟨h1, h2⟩ := opG_of (x := .call { callee := .builtin .len, args := #[.tmp 38], argTypes := #[24] }) (d := some 39) (by kernel_rfl) ho
    refine ⟨free_not (guardG_of (by kernel_rfl) ho), fun K Q' hK => ?_⟩
    have hn : ∀ x ∈ q3Needs.getD 18 [], Holds (tabV (q3Tab G A0 n0 c0 A1 n1 c1 A2 n2 c2 A3 n3 c3)) a W x := hI.ri.needs (needs := q3Needs) (init := [2]) (by kernel_rfl) ho hall hini
    have hm : Meets Try.prog (tabV (q3Tab G A0 n0 c0 A1 n1 c1 A2 n2 c2 A3 n3 c3)) o' a W := meets_value (v := .int .i64 (n2 : Int)) (by have e1 := (fg_tmp 38 (.slice A2 n2 c2) hn (by kernel_rfl) rfl); have e2 := typeK_of (t := 3) (by kernel_rfl) ho; unfold execOp; simp only [h1]; simp [go_sem, e1, e2]) (fg_put h2 rfl)
    exact hm 39 h2 K Q' fun v w' hb hv => hK _ _ (hI.next hl ho h2 (by decide) (by decide) hb hv hB hall)
  · obtain ⟨h1, h2⟩ := opG_of (x := .call { callee := .builtin .min, args := #[.tmp 39, .const (.int .i64 8)], argTypes := #[3, 3] }) (d := some 40) (by kernel_rfl) ho
    refine ⟨free_not (guardG_of (by kernel_rfl) ho), fun K Q' hK => ?_⟩
    have hn : ∀ x ∈ q3Needs.getD 19 [], Holds (tabV (q3Tab G A0 n0 c0 A1 n1 c1 A2 n2 c2 A3 n3 c3)) a W x := hI.ri.needs (needs := q3Needs) (init := [2]) (by kernel_rfl) ho hall hini
    have hm : Meets Try.prog (tabV (q3Tab G A0 n0 c0 A1 n1 c1 A2 n2 c2 A3 n3 c3)) o' a W := meets_value (v := .int .i64 (min (n2 : Int) 8)) (by have e1 := (fg_tmp 39 (.int .i64 (n2 : Int)) hn (by kernel_rfl) rfl); have e2 := typeK_of (t := 3) (by kernel_rfl) ho; unfold execOp; simp only [h1]; simp [go_sem, e1, e2]) (fg_put h2 rfl)
    exact hm 40 h2 K Q' fun v w' hb hv => hK _ _ (hI.next hl ho h2 (by decide) (by decide) hb hv hB hall)
  · obtain ⟨h1, h2⟩ := opG_of (x := .slice 24 (.tmp 36) none (some (.tmp 40)) none) (d := some 41) (by kernel_rfl) ho
    refine ⟨free_not (guardG_of (by kernel_rfl) ho), fun K Q' hK => ?_⟩
    have hn : ∀ x ∈ q3Needs.getD 20 [], Holds (tabV (q3Tab G A0 n0 c0 A1 n1 c1 A2 n2 c2 A3 n3 c3)) a W x := hI.ri.needs (needs := q3Needs) (init := [2]) (by kernel_rfl) ho hall hini
    have hm : Meets Try.prog (tabV (q3Tab G A0 n0 c0 A1 n1 c1 A2 n2 c2 A3 n3 c3)) o' a W := meets_value (v := .slice A2 (min (n2 : Int) 8).toNat c2) (by have e1 := (fg_tmp 36 (.slice A2 n2 c2) hn (by kernel_rfl) rfl); have e2 := (fg_tmp 40 (.int .i64 (min (n2 : Int) 8)) hn (by kernel_rfl) rfl); unfold execOp; simp only [h1]; simp [go_sem, e1, e2, hm2, hx2, hy2, addK]) (fg_put h2 rfl)
    exact hm 41 h2 K Q' fun v w' hb hv => hK _ _ (hI.next hl ho h2 (by decide) (by decide) hb hv hB hall)
  · obtain ⟨h1, h2⟩ := opG_of (x := .fieldAddr 27 (.tmp 2) 3) (d := some 42) (by kernel_rfl) ho
    refine ⟨free_not (guardG_of (by kernel_rfl) ho), fun K Q' hK => ?_⟩
    have hn : ∀ x ∈ q3Needs.getD 21 [], Holds (tabV (q3Tab G A0 n0 c0 A1 n1 c1 A2 n2 c2 A3 n3 c3)) a W x := hI.ri.needs (needs := q3Needs) (init := [2]) (by kernel_rfl) ho hall hini
    have hm : Meets Try.prog (tabV (q3Tab G A0 n0 c0 A1 n1 c1 A2 n2 c2 A3 n3 c3)) o' a W := meets_field h1 (fg_val 2 (.pointer (some ⟨G, 0, none⟩)) hn (by kernel_rfl) rfl) (by kernel_rfl : (Instr.fieldAt 27 (.pointer (some ⟨G, 0, none⟩)) 3).run Try.prog W = .ok (.pointer (some ⟨G, 3, none⟩)) W) (fg_put h2 rfl)
    exact hm 42 h2 K Q' fun v w' hb hv => hK _ _ (hI.next hl ho h2 (by decide) (by decide) hb hv hB hall)
  · obtain ⟨h1, h2⟩ := opG_of (x := .load 25 (.tmp 42)) (d := some 43) (by kernel_rfl) ho
    refine ⟨free_not (guardG_of (by kernel_rfl) ho), fun K Q' hK => ?_⟩
    have hn : ∀ x ∈ q3Needs.getD 22 [], Holds (tabV (q3Tab G A0 n0 c0 A1 n1 c1 A2 n2 c2 A3 n3 c3)) a W x := hI.ri.needs (needs := q3Needs) (init := [2]) (by kernel_rfl) ho hall hini
    have hm : Meets Try.prog (tabV (q3Tab G A0 n0 c0 A1 n1 c1 A2 n2 c2 A3 n3 c3)) o' a W := by
      have hlf : listed.getD 35 false = false := by
        cases hc : listed.getD 35 false with
        | false => rfl
        | true => exact absurd ((waitsK_of (ops := q3Ops) (i := 35) (j := 22) (by kernel_rfl) hI.ri.cl hc).symm.trans hu) (by decide)
      have cc9 := hI.blk.cell 3
      simp only [hlf, cond_false, List.getElem?_toArray, List.getElem?_cons_zero, List.getElem?_cons_succ] at cc9
      exact meets_load (v := .slice A3 n3 c3) h1 (fg_val 42 (.pointer (some ⟨G, 3, none⟩)) hn (by kernel_rfl) rfl) (by simp [go_sem, cc9]) (fg_put h2 rfl)
    exact hm 43 h2 K Q' fun v w' hb hv => hK _ _ (hI.next hl ho h2 (by decide) (by decide) hb hv hB hall)
  · obtain ⟨h1, h2⟩ := opG_of (x := .fieldAddr 27 (.tmp 2) 3) (d := some 44) (by kernel_rfl) ho
    refine ⟨free_not (guardG_of (by kernel_rfl) ho), fun K Q' hK => ?_⟩
    have hn : ∀ x ∈ q3Needs.getD 23 [], Holds (tabV (q3Tab G A0 n0 c0 A1 n1 c1 A2 n2 c2 A3 n3 c3)) a W x := hI.ri.needs (needs := q3Needs) (init := [2]) (by kernel_rfl) ho hall hini
    have hm : Meets Try.prog (tabV (q3Tab G A0 n0 c0 A1 n1 c1 A2 n2 c2 A3 n3 c3)) o' a W := meets_field h1 (fg_val 2 (.pointer (some ⟨G, 0, none⟩)) hn (by kernel_rfl) rfl) (by kernel_rfl : (Instr.fieldAt 27 (.pointer (some ⟨G, 0, none⟩)) 3).run Try.prog W = .ok (.pointer (some ⟨G, 3, none⟩)) W) (fg_put h2 rfl)
    exact hm 44 h2 K Q' fun v w' hb hv => hK _ _ (hI.next hl ho h2 (by decide) (by decide) hb hv hB hall)
  · obtain ⟨h1, h2⟩ := opG_of (x := .load 25 (.tmp 44)) (d := some 45) (by kernel_rfl) ho
    refine ⟨free_not (guardG_of (by kernel_rfl) ho), fun K Q' hK => ?_⟩
    have hn : ∀ x ∈ q3Needs.getD 24 [], Holds (tabV (q3Tab G A0 n0 c0 A1 n1 c1 A2 n2 c2 A3 n3 c3)) a W x := hI.ri.needs (needs := q3Needs) (init := [2]) (by kernel_rfl) ho hall hini
    have hm : Meets Try.prog (tabV (q3Tab G A0 n0 c0 A1 n1 c1 A2 n2 c2 A3 n3 c3)) o' a W := by
      have hlf : listed.getD 35 false = false := by
        cases hc : listed.getD 35 false with
        | false => rfl
        | true => exact absurd ((waitsK_of (ops := q3Ops) (i := 35) (j := 24) (by kernel_rfl) hI.ri.cl hc).symm.trans hu) (by decide)
      have cc9 := hI.blk.cell 3
      simp only [hlf, cond_false, List.getElem?_toArray, List.getElem?_cons_zero, List.getElem?_cons_succ] at cc9
      exact meets_load (v := .slice A3 n3 c3) h1 (fg_val 44 (.pointer (some ⟨G, 3, none⟩)) hn (by kernel_rfl) rfl) (by simp [go_sem, cc9]) (fg_put h2 rfl)
    exact hm 45 h2 K Q' fun v w' hb hv => hK _ _ (hI.next hl ho h2 (by decide) (by decide) hb hv hB hall)
  · obtain ⟨h1, h2⟩ := opG_of (x := .call { callee := .builtin .len, args := #[.tmp 45], argTypes := #[25] }) (d := some 46) (by kernel_rfl) ho
    refine ⟨free_not (guardG_of (by kernel_rfl) ho), fun K Q' hK => ?_⟩
    have hn : ∀ x ∈ q3Needs.getD 25 [], Holds (tabV (q3Tab G A0 n0 c0 A1 n1 c1 A2 n2 c2 A3 n3 c3)) a W x := hI.ri.needs (needs := q3Needs) (init := [2]) (by kernel_rfl) ho hall hini
    have hm : Meets Try.prog (tabV (q3Tab G A0 n0 c0 A1 n1 c1 A2 n2 c2 A3 n3 c3)) o' a W := meets_value (v := .int .i64 (n3 : Int)) (by have e1 := (fg_tmp 45 (.slice A3 n3 c3) hn (by kernel_rfl) rfl); have e2 := typeK_of (t := 3) (by kernel_rfl) ho; unfold execOp; simp only [h1]; simp [go_sem, e1, e2]) (fg_put h2 rfl)
    exact hm 46 h2 K Q' fun v w' hb hv => hK _ _ (hI.next hl ho h2 (by decide) (by decide) hb hv hB hall)
  · obtain ⟨h1, h2⟩ := opG_of (x := .call { callee := .builtin .min, args := #[.tmp 46, .const (.int .i64 12)], argTypes := #[3, 3] }) (d := some 47) (by kernel_rfl) ho
    refine ⟨free_not (guardG_of (by kernel_rfl) ho), fun K Q' hK => ?_⟩
    have hn : ∀ x ∈ q3Needs.getD 26 [], Holds (tabV (q3Tab G A0 n0 c0 A1 n1 c1 A2 n2 c2 A3 n3 c3)) a W x := hI.ri.needs (needs := q3Needs) (init := [2]) (by kernel_rfl) ho hall hini
    have hm : Meets Try.prog (tabV (q3Tab G A0 n0 c0 A1 n1 c1 A2 n2 c2 A3 n3 c3)) o' a W := meets_value (v := .int .i64 (min (n3 : Int) 12)) (by have e1 := (fg_tmp 46 (.int .i64 (n3 : Int)) hn (by kernel_rfl) rfl); have e2 := typeK_of (t := 3) (by kernel_rfl) ho; unfold execOp; simp only [h1]; simp [go_sem, e1, e2]) (fg_put h2 rfl)
    exact hm 47 h2 K Q' fun v w' hb hv => hK _ _ (hI.next hl ho h2 (by decide) (by decide) hb hv hB hall)
  · obtain ⟨h1, h2⟩ := opG_of (x := .slice 25 (.tmp 43) none (some (.tmp 47)) none) (d := some 48) (by kernel_rfl) ho
    refine ⟨free_not (guardG_of (by kernel_rfl) ho), fun K Q' hK => ?_⟩
    have hn : ∀ x ∈ q3Needs.getD 27 [], Holds (tabV (q3Tab G A0 n0 c0 A1 n1 c1 A2 n2 c2 A3 n3 c3)) a W x := hI.ri.needs (needs := q3Needs) (init := [2]) (by kernel_rfl) ho hall hini
    have hm : Meets Try.prog (tabV (q3Tab G A0 n0 c0 A1 n1 c1 A2 n2 c2 A3 n3 c3)) o' a W := meets_value (v := .slice A3 (min (n3 : Int) 12).toNat c3) (by have e1 := (fg_tmp 43 (.slice A3 n3 c3) hn (by kernel_rfl) rfl); have e2 := (fg_tmp 47 (.int .i64 (min (n3 : Int) 12)) hn (by kernel_rfl) rfl); unfold execOp; simp only [h1]; simp [go_sem, e1, e2, hm3, hx3, hy3, addK]) (fg_put h2 rfl)
    exact hm 48 h2 K Q' fun v w' hb hv => hK _ _ (hI.next hl ho h2 (by decide) (by decide) hb hv hB hall)
  · obtain ⟨h1, h2⟩ := opG_of (x := .fieldAddr 27 (.tmp 2) 0) (d := some 49) (by kernel_rfl) ho
    refine ⟨free_not (guardG_of (by kernel_rfl) ho), fun K Q' hK => ?_⟩
    have hn : ∀ x ∈ q3Needs.getD 28 [], Holds (tabV (q3Tab G A0 n0 c0 A1 n1 c1 A2 n2 c2 A3 n3 c3)) a W x := hI.ri.needs (needs := q3Needs) (init := [2]) (by kernel_rfl) ho hall hini
    have hm : Meets Try.prog (tabV (q3Tab G A0 n0 c0 A1 n1 c1 A2 n2 c2 A3 n3 c3)) o' a W := meets_field h1 (fg_val 2 (.pointer (some ⟨G, 0, none⟩)) hn (by kernel_rfl) rfl) (by kernel_rfl : (Instr.fieldAt 27 (.pointer (some ⟨G, 0, none⟩)) 0).run Try.prog W = .ok (.pointer (some ⟨G, 0, none⟩)) W) (fg_put h2 rfl)
    exact hm 49 h2 K Q' fun v w' hb hv => hK _ _ (hI.next hl ho h2 (by decide) (by decide) hb hv hB hall)
  · obtain ⟨h1, h2⟩ := opG_of (x := .store 22 (.tmp 49) (.tmp 27)) (d := none) (by kernel_rfl) ho
    refine ⟨free_not (guardG_of (by kernel_rfl) ho), fun K Q' hK => ?_⟩
    have hn : ∀ x ∈ q3Needs.getD 29 [], Holds (tabV (q3Tab G A0 n0 c0 A1 n1 c1 A2 n2 c2 A3 n3 c3)) a W x := hI.ri.needs (needs := q3Needs) (init := [2]) (by kernel_rfl) ho hall hini
    have e1 := (fg_val 49 (.pointer (some ⟨G, 0, none⟩)) hn (by kernel_rfl) rfl)
    have e2 := (fg_val 27 (.slice A0 (min (n0 : Int) 5).toNat c0) hn (by kernel_rfl) rfl)
    have f0 := hI.blk.frozen 0
    have cc9 := hI.blk.cell 0
    have hlf : listed.getD 29 false = false := by rw [Array.getD_eq_getD_getElem?, hf]; rfl
    simp only [hlf, cond_false, List.getElem?_toArray, List.getElem?_cons_zero, List.getElem?_cons_succ] at cc9
    exact wp_store h1 h2 (w' := W.setCell ⟨G, 0, none⟩ (.slice A0 (min (n0 : Int) 5).toNat c0)) (u := ()) (by rw [e1, e2]; simp [go_sem, f0, cc9]) (hK _ _ (hI.st0 ho h2 hf hBG hall))
  · obtain ⟨h1, h2⟩ := opG_of (x := .fieldAddr 27 (.tmp 2) 1) (d := some 50) (by kernel_rfl) ho
    refine ⟨free_not (guardG_of (by kernel_rfl) ho), fun K Q' hK => ?_⟩
    have hn : ∀ x ∈ q3Needs.getD 30 [], Holds (tabV (q3Tab G A0 n0 c0 A1 n1 c1 A2 n2 c2 A3 n3 c3)) a W x := hI.ri.needs (needs := q3Needs) (init := [2]) (by kernel_rfl) ho hall hini
    have hm : Meets Try.prog (tabV (q3Tab G A0 n0 c0 A1 n1 c1 A2 n2 c2 A3 n3 c3)) o' a W := meets_field h1 (fg_val 2 (.pointer (some ⟨G, 0, none⟩)) hn (by kernel_rfl) rfl) (by kernel_rfl : (Instr.fieldAt 27 (.pointer (some ⟨G, 0, none⟩)) 1).run Try.prog W = .ok (.pointer (some ⟨G, 1, none⟩)) W) (fg_put h2 rfl)
    exact hm 50 h2 K Q' fun v w' hb hv => hK _ _ (hI.next hl ho h2 (by decide) (by decide) hb hv hB hall)
  · obtain ⟨h1, h2⟩ := opG_of (x := .store 23 (.tmp 50) (.tmp 34)) (d := none) (by kernel_rfl) ho
    refine ⟨free_not (guardG_of (by kernel_rfl) ho), fun K Q' hK => ?_⟩
    have hn : ∀ x ∈ q3Needs.getD 31 [], Holds (tabV (q3Tab G A0 n0 c0 A1 n1 c1 A2 n2 c2 A3 n3 c3)) a W x := hI.ri.needs (needs := q3Needs) (init := [2]) (by kernel_rfl) ho hall hini
    have e1 := (fg_val 50 (.pointer (some ⟨G, 1, none⟩)) hn (by kernel_rfl) rfl)
    have e2 := (fg_val 34 (.slice A1 (min (n1 : Int) 10).toNat c1) hn (by kernel_rfl) rfl)
    have f0 := hI.blk.frozen 1
    have cc9 := hI.blk.cell 1
    have hlf : listed.getD 31 false = false := by rw [Array.getD_eq_getD_getElem?, hf]; rfl
    simp only [hlf, cond_false, List.getElem?_toArray, List.getElem?_cons_zero, List.getElem?_cons_succ] at cc9
    exact wp_store h1 h2 (w' := W.setCell ⟨G, 1, none⟩ (.slice A1 (min (n1 : Int) 10).toNat c1)) (u := ()) (by rw [e1, e2]; simp [go_sem, f0, cc9]) (hK _ _ (hI.st1 ho h2 hf hBG hall))
  · obtain ⟨h1, h2⟩ := opG_of (x := .fieldAddr 27 (.tmp 2) 2) (d := some 51) (by kernel_rfl) ho
    refine ⟨free_not (guardG_of (by kernel_rfl) ho), fun K Q' hK => ?_⟩
    have hn : ∀ x ∈ q3Needs.getD 32 [], Holds (tabV (q3Tab G A0 n0 c0 A1 n1 c1 A2 n2 c2 A3 n3 c3)) a W x := hI.ri.needs (needs := q3Needs) (init := [2]) (by kernel_rfl) ho hall hini
    have hm : Meets Try.prog (tabV (q3Tab G A0 n0 c0 A1 n1 c1 A2 n2 c2 A3 n3 c3)) o' a W := meets_field h1 (fg_val 2 (.pointer (some ⟨G, 0, none⟩)) hn (by kernel_rfl) rfl) (by kernel_rfl : (Instr.fieldAt 27 (.pointer (some ⟨G, 0, none⟩)) 2).run Try.prog W = .ok (.pointer (some ⟨G, 2, none⟩)) W) (fg_put h2 rfl)
    exact hm 51 h2 K Q' fun v w' hb hv => hK _ _ (hI.next hl ho h2 (by decide) (by decide) hb hv hB hall)
  · obtain ⟨h1, h2⟩ := opG_of (x := .store 24 (.tmp 51) (.tmp 41)) (d := none) (by kernel_rfl) ho
    refine ⟨free_not (guardG_of (by kernel_rfl) ho), fun K Q' hK => ?_⟩
    have hn : ∀ x ∈ q3Needs.getD 33 [], Holds (tabV (q3Tab G A0 n0 c0 A1 n1 c1 A2 n2 c2 A3 n3 c3)) a W x := hI.ri.needs (needs := q3Needs) (init := [2]) (by kernel_rfl) ho hall hini
    have e1 := (fg_val 51 (.pointer (some ⟨G, 2, none⟩)) hn (by kernel_rfl) rfl)
    have e2 := (fg_val 41 (.slice A2 (min (n2 : Int) 8).toNat c2) hn (by kernel_rfl) rfl)
    have f0 := hI.blk.frozen 2
    have cc9 := hI.blk.cell 2
    have hlf : listed.getD 33 false = false := by rw [Array.getD_eq_getD_getElem?, hf]; rfl
    simp only [hlf, cond_false, List.getElem?_toArray, List.getElem?_cons_zero, List.getElem?_cons_succ] at cc9
    exact wp_store h1 h2 (w' := W.setCell ⟨G, 2, none⟩ (.slice A2 (min (n2 : Int) 8).toNat c2)) (u := ()) (by rw [e1, e2]; simp [go_sem, f0, cc9]) (hK _ _ (hI.st2 ho h2 hf hBG hall))
  · obtain ⟨h1, h2⟩ := opG_of (x := .fieldAddr 27 (.tmp 2) 3) (d := some 52) (by kernel_rfl) ho
    refine ⟨free_not (guardG_of (by kernel_rfl) ho), fun K Q' hK => ?_⟩
    have hn : ∀ x ∈ q3Needs.getD 34 [], Holds (tabV (q3Tab G A0 n0 c0 A1 n1 c1 A2 n2 c2 A3 n3 c3)) a W x := hI.ri.needs (needs := q3Needs) (init := [2]) (by kernel_rfl) ho hall hini
    have hm : Meets Try.prog (tabV (q3Tab G A0 n0 c0 A1 n1 c1 A2 n2 c2 A3 n3 c3)) o' a W := meets_field h1 (fg_val 2 (.pointer (some ⟨G, 0, none⟩)) hn (by kernel_rfl) rfl) (by kernel_rfl : (Instr.fieldAt 27 (.pointer (some ⟨G, 0, none⟩)) 3).run Try.prog W = .ok (.pointer (some ⟨G, 3, none⟩)) W) (fg_put h2 rfl)
    exact hm 52 h2 K Q' fun v w' hb hv => hK _ _ (hI.next hl ho h2 (by decide) (by decide) hb hv hB hall)
  · obtain ⟨h1, h2⟩ := opG_of (x := .store 25 (.tmp 52) (.tmp 48)) (d := none) (by kernel_rfl) ho
    refine ⟨free_not (guardG_of (by kernel_rfl) ho), fun K Q' hK => ?_⟩
    have hn : ∀ x ∈ q3Needs.getD 35 [], Holds (tabV (q3Tab G A0 n0 c0 A1 n1 c1 A2 n2 c2 A3 n3 c3)) a W x := hI.ri.needs (needs := q3Needs) (init := [2]) (by kernel_rfl) ho hall hini
    have e1 := (fg_val 52 (.pointer (some ⟨G, 3, none⟩)) hn (by kernel_rfl) rfl)
    have e2 := (fg_val 48 (.slice A3 (min (n3 : Int) 12).toNat c3) hn (by kernel_rfl) rfl)
    have f0 := hI.blk.frozen 3
    have cc9 := hI.blk.cell 3
    have hlf : listed.getD 35 false = false := by rw [Array.getD_eq_getD_getElem?, hf]; rfl
    simp only [hlf, cond_false, List.getElem?_toArray, List.getElem?_cons_zero, List.getElem?_cons_succ] at cc9
    exact wp_store h1 h2 (w' := W.setCell ⟨G, 3, none⟩ (.slice A3 (min (n3 : Int) 12).toNat c3)) (u := ()) (by rw [e1, e2]; simp [go_sem, f0, cc9]) (hK _ _ (hI.st3 ho h2 hf hBG hall))
set_option maxRecDepth 100000 in
set_option maxHeartbeats 2000000 in
theorem q3_region {ops : Array Oper} {id : Nat} {Q : Exit → Act → World → Prop} (G : Nat) (A0 : Option Addr) (n0 c0 : Nat) (A1 : Option Addr) (n1 c1 : Nat) (A2 : Option Addr) (n2 c2 : Nat) (A3 : Option Addr) (n3 c3 : Nat) (l : List Value) (B : Nat) (wr : World) (he : ops = q3Ops) (hl : l.length = 184) (h2 : l[2]? = some (.pointer (some ⟨G, 0, none⟩))) (hBG : B ≤ G) (hB : B ≤ wr.heap.size) (hm0 : (0 : Int) ≤ min (n0 : Int) 5) (hx0 : min (n0 : Int) 5 ≤ (c0 : Int)) (hy0 : c0 ≤ 9223372036854775807) (hm1 : (0 : Int) ≤ min (n1 : Int) 10) (hx1 : min (n1 : Int) 10 ≤ (c1 : Int)) (hy1 : c1 ≤ 9223372036854775807) (hm2 : (0 : Int) ≤ min (n2 : Int) 8) (hx2 : min (n2 : Int) 8 ≤ (c2 : Int)) (hy2 : c2 ≤ 9223372036854775807) (hm3 : (0 : Int) ≤ min (n3 : Int) 12) (hx3 : min (n3 : Int) 12 ≤ (c3 : Int)) (hy3 : c3 ≤ 9223372036854775807)
    (hblk : Blk wr G 27 #[.slice A0 n0 c0, .slice A1 n1 c1, .slice A2 n2 c2, .slice A3 n3 c3])
    (fin : ∀ w, Below B wr w → Blk w G 27 #[.slice A0 (min (n0 : Int) 5).toNat c0, .slice A1 (min (n1 : Int) 10).toNat c1, .slice A2 (min (n2 : Int) 8).toNat c2, .slice A3 (min (n3 : Int) 12).toNat c3] → Q .normal ⟨(updM (q3Mask G A0 n0 c0 A1 n1 c1 A2 n2 c2 A3 n3 c3) l).toArray, []⟩ w) :
    (Code.region id ops true).wp Try.prog Q ⟨l.toArray, []⟩ wr := by
  have hz : q3Ops.size = 36 := q3_size
  refine wp_region_inv (Inv := I3 G A0 n0 c0 A1 n1 c1 A2 n2 c2 A3 n3 c3 l B wr) he (by kernel_rfl) (backV_of (by kernel_rfl)) ⟨⟨by simp, rfl, Below.drew (Below.refl _ _), fun i o d ho hl => ?_, fun k _ => by simp, fun i o ho hl => ?_⟩, ?_⟩ (q3_step G A0 n0 c0 A1 n1 c1 A2 n2 c2 A3 n3 c3 l B wr hl h2 hBG hB hm0 hx0 hy0 hm1 hx1 hy1 hm2 hx2 hy2 hm3 hx3 hy3) ?_
  · have hlt := (Array.getElem?_eq_some_iff.1 ho).1
    simp [hlt] at hl
  · have hlt := (Array.getElem?_eq_some_iff.1 ho).1
    simp [hlt] at hl
  · rw [hz]
    exact hblk
  · intro a w hI
    have hb := hI.blk
    rw [hz] at hb
    have hall : ∀ i, i < q3Ops.size → (Array.replicate q3Ops.size true).getD i false = true := fun i hi => by simp [hi]
    have hfr : a.tmps = (updM (q3Mask G A0 n0 c0 A1 n1 c1 A2 n2 c2 A3 n3 c3) l).toArray :=
      frameK_of (ops := q3Ops) (tab := q3Tab G A0 n0 c0 A1 n1 c1 A2 n2 c2 A3 n3 c3) (dl := [21, 22, 23, 24, 25, 26, 27, 28, 29, 30, 31, 32, 33, 34, 35, 36, 37, 38, 39, 40, 41, 42, 43, 44, 45, 46, 47, 48, 49, 50, 51, 52]) (N := 184) hI.ri.size hl (by kernel_rfl) rfl (fun i o' d ho hd => hI.ri.done i o' d ho (hall i (Array.getElem?_eq_some_iff.1 ho).1) hd) hI.ri.keep
    have hd := hI.ri.dfr
    obtain ⟨tm, df⟩ := a
    dsimp only at hd hfr
    subst hfr hd
    exact fin w hI.ri.bel hb
end Go.Proofs.Ytajcnjehjkpieaa
