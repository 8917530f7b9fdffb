/- Plain laws of the reference's Shift: units moved in a list of outcomes. -/
import Derived.Test.YtfnfbojaiikigaaGreatDoorP61
set_option linter.unusedSimpArgs false
set_option linter.unusedVariables false
namespace Go.Proofs.YtfnfbojaiikigaaGreatDoor

/-- No two outcomes with one key, all runs in range, no weight below 0. -/
structure Uni (l : List Otc) : Prop where
  ne : l.Pairwise fun a b => keyO a ≠ keyO b
  each : ∀ o ∈ l, 0 ≤ o.runs ∧ o.runs ≤ 7 ∧ 0 ≤ o.wt
theorem wAt_set {l : List Otc} {i : Nat} (hi : i < l.length) (a : Otc) (j : Nat) : wAt (l.set i a) j = wAt l j - (if keyO l[i] = j then l[i].wt else 0) + (if keyO a = j then a.wt else 0) := by
  induction l generalizing i with
  | nil => simp at hi
  | cons o l ih =>
    cases i with
    | zero => rw [List.set_cons_zero, wAt_cons, wAt_cons, List.getElem_cons_zero]; omega
    | succ i => rw [List.set_cons_succ, wAt_cons, wAt_cons, List.getElem_cons_succ, ih (by simpa using hi)]; omega
theorem wAt_uni {l : List Otc} (h : Uni l) {i : Nat} (hi : i < l.length) : wAt l (keyO l[i]) = l[i].wt := by
  have hp := List.pairwise_iff_getElem.1 h.ne
  have e : wAt (l.set i { l[i] with wt := 0 }) (keyO l[i]) = 0 := by
    have : ∀ o ∈ l.set i { l[i] with wt := 0 }, (if keyO o = keyO l[i] then o.wt else 0) = 0 := fun o ho => by
      obtain ⟨k, hk, rfl⟩ := List.mem_iff_getElem.1 ho
      rw [List.length_set] at hk
      by_cases hki : k = i
      · subst hki; rw [List.getElem_set_self]; simp
      · rw [List.getElem_set_ne (fun e => hki e.symm)]
        have : keyO l[k] ≠ keyO l[i] := by
          rcases Nat.lt_or_gt_of_ne hki with h1 | h1
          · exact hp k i hk hi h1
          · exact fun e => hp i k hi hk h1 e.symm
        rw [if_neg this]
    unfold wAt
    have h0 : (l.set i { l[i] with wt := 0 }).map (fun o => if keyO o = keyO l[i] then o.wt else 0) = (l.set i { l[i] with wt := 0 }).map (fun _ => 0) := List.map_congr_left this
    rw [h0]
    generalize l.set i { l[i] with wt := 0 } = m
    induction m with
    | nil => rfl
    | cons a m ih => rw [List.map_cons, sumI_cons, ih]; rfl
  rw [wAt_set hi, if_pos rfl] at e
  rw [show keyO { l[i] with wt := 0 } = keyO l[i] from rfl, if_pos rfl] at e
  dsimp only at e
  omega
theorem wAt_zero_of {l : List Otc} {j : Nat} (h : wAt l j ≠ 0) : ∃ i, ∃ hi : i < l.length, keyO l[i] = j := by
  rcases Classical.em (∃ i, ∃ hi : i < l.length, keyO l[i] = j) with h1 | h1
  · exact h1
  · exact absurd (wAt_none fun o ho e => by obtain ⟨i, hi, rfl⟩ := List.mem_iff_getElem.1 ho; exact h1 ⟨i, hi, e⟩) h
theorem Uni.set {l : List Otc} (h : Uni l) {i : Nat} (hi : i < l.length) (x : Int) (hx : 0 ≤ x) : Uni (l.set i { l[i] with wt := x }) := by
  refine ⟨?_, fun o ho => ?_⟩
  · have : (l.set i { l[i] with wt := x }).map keyO = l.map keyO := by
      rw [List.map_set, show keyO { l[i] with wt := x } = keyO l[i] from rfl]
      apply List.ext_getElem
      · simp
      · intro k h1 h2
        rw [List.getElem_set]
        split
        · rename_i e; subst e; simp
        · rfl
    have h2 := List.pairwise_map.2 h.ne
    rw [← this] at h2
    exact List.pairwise_map.1 h2
  · rcases List.mem_or_eq_of_mem_set ho with h1 | h1
    · exact h.each o h1
    · rw [h1]
      have := h.each _ (List.getElem_mem hi)
      exact ⟨this.1, this.2.1, hx⟩
theorem uni_of {d : List Otc} (h : checkD d = 0) : Uni d := by
  have hn := checkD_neat h
  exact ⟨hn.asc.imp fun h => Nat.ne_of_lt h, fun o ho => by have := hn.each o ho; omega⟩
/-- The index of the outcome without a wicket that has the most runs, of the first k. -/
def mostK (d : List Otc) : Nat → Int
  | 0 => -1
  | k + 1 => match d[k]? with
    | none => mostK d k
    | some o => if o.wick = false ∧ 0 < o.runs ∧ 0 < o.wt ∧ (mostK d k < 0 ∨ ((d[(mostK d k).toNat]?).map (·.runs)).getD 0 < o.runs) then (k : Int) else mostK d k
def candM (o : Otc) : Prop := o.wick = false ∧ 0 < o.runs ∧ 0 < o.wt
theorem mostK_at (d : List Otc) : ∀ k, k ≤ d.length → (mostK d k = -1 ∧ ∀ i (hi : i < k) (hd : i < d.length), ¬ candM d[i]) ∨ ∃ i : Nat, ∃ hi : i < d.length, i < k ∧ mostK d k = i ∧ candM d[i] ∧ ∀ s (hs : s < k) (hd : s < d.length), candM d[s] → d[s].runs ≤ d[i].runs
  | 0, _ => .inl ⟨rfl, fun i hi => by omega⟩
  | k + 1, hk => by
    have hkd : k < d.length := by omega
    have hm : mostK d (k + 1) = if d[k].wick = false ∧ 0 < d[k].runs ∧ 0 < d[k].wt ∧ (mostK d k < 0 ∨ ((d[(mostK d k).toNat]?).map (·.runs)).getD 0 < d[k].runs) then (k : Int) else mostK d k := by
      rw [mostK, List.getElem?_eq_getElem hkd]
    rcases mostK_at d k (by omega) with ⟨h1, h2⟩ | ⟨i, hi, hik, h1, h2, h3⟩
    · by_cases hc : candM d[k]
      · refine .inr ⟨k, hkd, by omega, ?_, hc, fun s hs hd hcs => ?_⟩
        · rw [hm, if_pos ⟨hc.1, hc.2.1, hc.2.2, .inl (by omega)⟩]
        · by_cases hsk : s = k
          · subst hsk; exact Int.le_refl _
          · exact absurd hcs (h2 s (by omega) hd)
      · refine .inl ⟨?_, fun s hs hd => ?_⟩
        · rw [hm, if_neg (fun h => hc ⟨h.1, h.2.1, h.2.2.1⟩), h1]
        · by_cases hsk : s = k
          · subst hsk; exact hc
          · exact h2 s (by omega) hd
    · have e : ((d[(mostK d k).toNat]?).map (·.runs)).getD 0 = d[i].runs := by
        rw [h1, Int.toNat_natCast, List.getElem?_eq_getElem hi]; rfl
      rw [e] at hm
      by_cases hc : candM d[k] ∧ d[i].runs < d[k].runs
      · refine .inr ⟨k, hkd, by omega, ?_, hc.1, fun s hs hd hcs => ?_⟩
        · rw [hm, if_pos ⟨hc.1.1, hc.1.2.1, hc.1.2.2, .inr hc.2⟩]
        · by_cases hsk : s = k
          · subst hsk; exact Int.le_refl _
          · have := h3 s (by omega) hd hcs; omega
      · refine .inr ⟨i, hi, by omega, ?_, h2, fun s hs hd hcs => ?_⟩
        · rw [hm, if_neg (fun h => hc ⟨⟨h.1, h.2.1, h.2.2.1⟩, by rcases h.2.2.2 with h4 | h4 <;> omega⟩), h1]
        · by_cases hsk : s = k
          · subst hsk
            rcases Classical.em (d[i].runs < d[s].runs) with h4 | h4
            · exact absurd ⟨hcs, h4⟩ hc
            · omega
          · exact h3 s (by omega) hd hcs
/-- The first outcome of 0 runs, with or without a wicket, that has a weight. -/
def dotF (w : Bool) : List Otc → Nat → Int
  | [], _ => -1
  | o :: l, i => if o.runs = 0 ∧ o.wick = w ∧ 0 < o.wt then (i : Int) else dotF w l (i + 1)
def dotS (d : List Otc) (w : Bool) : Int := dotF w d 0
theorem dotF_at (w : Bool) : ∀ (l : List Otc) (i : Nat), (dotF w l i = -1 ∧ ∀ o ∈ l, ¬ (o.runs = 0 ∧ o.wick = w ∧ 0 < o.wt)) ∨ ∃ k : Nat, ∃ hk : k < l.length, dotF w l i = ((i + k : Nat) : Int) ∧ l[k].runs = 0 ∧ l[k].wick = w ∧ 0 < l[k].wt
  | [], i => .inl ⟨rfl, by simp⟩
  | o :: l, i => by
    rw [dotF]
    by_cases h : o.runs = 0 ∧ o.wick = w ∧ 0 < o.wt
    · rw [if_pos h]; exact .inr ⟨0, by simp, by simp, h⟩
    · rw [if_neg h]
      rcases dotF_at w l (i + 1) with ⟨h1, h2⟩ | ⟨k, hk, h1, h2⟩
      · exact .inl ⟨h1, fun x hx => by
          rcases List.mem_cons.1 hx with rfl | hx
          · exact h
          · exact h2 x hx⟩
      · exact .inr ⟨k + 1, by simpa using hk, by rw [h1]; congr 1; omega, h2⟩
/-- The place of an outcome with these runs, with or without a wicket; the length where there is none. -/
def placeO (r : Int) (w : Bool) : List Otc → Nat
  | [] => 0
  | o :: l => if o.runs = r ∧ o.wick = w then 0 else placeO r w l + 1
theorem placeO_le (r : Int) (w : Bool) : ∀ l : List Otc, placeO r w l ≤ l.length
  | [] => Nat.le_refl _
  | o :: l => by
    rw [placeO]; split
    · omega
    · have := placeO_le r w l; simp; omega
theorem placeO_lt (r : Int) (w : Bool) : ∀ (l : List Otc) (h : placeO r w l < l.length), l[placeO r w l].runs = r ∧ l[placeO r w l].wick = w
  | [], h => by simp [placeO] at h
  | o :: l, h => by
    by_cases ho : o.runs = r ∧ o.wick = w
    · have e : placeO r w (o :: l) = 0 := by rw [placeO, if_pos ho]
      simp only [e, List.getElem_cons_zero]; exact ho
    · have e : placeO r w (o :: l) = placeO r w l + 1 := by rw [placeO, if_neg ho]
      have h' : placeO r w l < l.length := by rw [e] at h; simpa using h
      simp only [e, List.getElem_cons_succ]
      exact placeO_lt r w l h'
theorem placeO_before (r : Int) (w : Bool) : ∀ (l : List Otc) (i : Nat) (h : i < l.length), i < placeO r w l → ¬ (l[i].runs = r ∧ l[i].wick = w)
  | o :: l, i, h, hi => by
    rw [placeO] at hi
    by_cases ho : o.runs = r ∧ o.wick = w
    · rw [if_pos ho] at hi; omega
    · rw [if_neg ho] at hi
      cases i with
      | zero => rw [List.getElem_cons_zero]; exact ho
      | succ i => rw [List.getElem_cons_succ]; exact placeO_before r w l i (by simpa using h) (by omega)
def takeL (d : List Otc) (i : Nat) : List Otc := match d[i]? with
  | none => d
  | some o => d.set i { o with wt := o.wt - 1 }
def giveL (out : List Otc) (r : Int) (w : Bool) : List Otc := match out[placeO r w out]? with
  | some o => out.set (placeO r w out) { o with wt := o.wt + 1 }
  | none => out ++ [⟨r, w, 1⟩]
/-- A unit moved from the i-th outcome to the runs r. -/
def moveL (d : List Otc) (i : Nat) (r : Int) (w : Bool) : List Otc := giveL (takeL d i) r w
theorem takeL_at {d : List Otc} {i : Nat} (h : i < d.length) : takeL d i = d.set i { d[i] with wt := d[i].wt - 1 } := by unfold takeL; rw [List.getElem?_eq_getElem h]
theorem giveL_at {d : List Otc} {r : Int} {w : Bool} (h : placeO r w d < d.length) : giveL d r w = d.set (placeO r w d) { d[placeO r w d] with wt := d[placeO r w d].wt + 1 } := by unfold giveL; rw [List.getElem?_eq_getElem h]
theorem giveL_new {d : List Otc} {r : Int} {w : Bool} (h : ¬ placeO r w d < d.length) : giveL d r w = d ++ [⟨r, w, 1⟩] := by unfold giveL; rw [List.getElem?_eq_none (by omega)]
def keyR (r : Int) (w : Bool) : Nat := keyO ⟨r, w, 0⟩
theorem giveL_law {d : List Otc} (h : Uni d) {r : Int} {w : Bool} (hr : 0 ≤ r ∧ r ≤ 7) : Uni (giveL d r w) ∧ (∀ j, wAt (giveL d r w) j = upd (wAt d) (keyR r w) 1 j) ∧ (giveL d r w).length ≤ d.length + 1 := by
  by_cases hp : placeO r w d < d.length
  · obtain ⟨h1, h2⟩ := placeO_lt r w d hp
    have h0 := h.each _ (List.getElem_mem hp)
    have hk : keyO d[placeO r w d] = keyR r w := (key_eq h0.1 hr.1).2 ⟨h1, h2⟩
    rw [giveL_at hp]
    refine ⟨h.set hp _ (by omega), fun j => ?_, by simp⟩
    rw [wAt_set hp, show keyO { d[placeO r w d] with wt := d[placeO r w d].wt + 1 } = keyO d[placeO r w d] from rfl, hk, upd]
    by_cases hj : j = keyR r w
    · rw [if_pos hj.symm, if_pos hj.symm, if_pos hj]; simp only; omega
    · rw [if_neg (fun e => hj e.symm), if_neg (fun e => hj e.symm), if_neg hj]; omega
  · rw [giveL_new hp]
    have hle := placeO_le r w d
    refine ⟨⟨List.pairwise_append.2 ⟨h.ne, List.pairwise_singleton _ _, fun a ha b hb => ?_⟩, fun o ho => ?_⟩, fun j => ?_, by simp⟩
    · rw [List.mem_singleton.1 hb]
      obtain ⟨i, hi, rfl⟩ := List.mem_iff_getElem.1 ha
      intro e
      have h0 := h.each _ (List.getElem_mem hi)
      exact placeO_before r w d i hi (by omega) ((key_eq (b := ⟨r, w, 1⟩) h0.1 hr.1).1 e)
    · rcases List.mem_append.1 ho with ho | ho
      · exact h.each o ho
      · rw [List.mem_singleton.1 ho]; exact ⟨hr.1, hr.2, by simp⟩
    · rw [wAt_app, wAt_cons, wAt_nil, show keyO ⟨r, w, 1⟩ = keyR r w from rfl, upd]
      by_cases hj : j = keyR r w
      · rw [if_pos hj.symm, if_pos hj]; simp only; omega
      · rw [if_neg (fun e => hj e.symm), if_neg hj]; omega
theorem takeL_law {d : List Otc} (h : Uni d) {i : Nat} (hi : i < d.length) (hw : 0 < d[i].wt) : Uni (takeL d i) ∧ (∀ j, wAt (takeL d i) j = upd (wAt d) (keyO d[i]) (-1) j) ∧ (takeL d i).length = d.length := by
  rw [takeL_at hi]
  refine ⟨h.set hi _ (by omega), fun j => ?_, by simp⟩
  rw [wAt_set hi, show keyO { d[i] with wt := d[i].wt - 1 } = keyO d[i] from rfl, upd]
  by_cases hj : j = keyO d[i]
  · rw [if_pos hj.symm, if_pos hj.symm, if_pos hj]; simp only; omega
  · rw [if_neg (fun e => hj e.symm), if_neg (fun e => hj e.symm), if_neg hj]; omega
theorem moveL_law {d : List Otc} (h : Uni d) {i : Nat} (hi : i < d.length) (hw : 0 < d[i].wt) {r : Int} {w : Bool} (hr : 0 ≤ r ∧ r ≤ 7) :
    Uni (moveL d i r w) ∧ (∀ j, wAt (moveL d i r w) j = upd (upd (wAt d) (keyO d[i]) (-1)) (keyR r w) 1 j) ∧ (moveL d i r w).length ≤ d.length + 1 := by
  obtain ⟨h1, h2, h3⟩ := takeL_law h hi hw
  obtain ⟨h4, h5, h6⟩ := giveL_law h1 (r := r) (w := w) hr
  refine ⟨h4, fun j => ?_, by unfold moveL; omega⟩
  unfold moveL
  rw [h5, upd, upd, h2]
def mostS (d : List Otc) : Int := mostK d d.length
/-- The reference's unit that makes a ball harder, easier. -/
def hardL (k : Nat) (d : List Otc) : List Otc := if 0 ≤ mostS d then moveL d (mostS d).toNat 0 (decide (k % 2 = 1)) else d
def easyI (d : List Otc) : Int := if dotS d true < 0 then dotS d false else dotS d true
def easyL (d : List Otc) : List Otc := if 0 ≤ easyI d then moveL d (easyI d).toNat 1 false else d
theorem upd_congr {f g : Nat → Int} (h : ∀ j, f j = g j) (k : Nat) (x : Int) : upd f k x = upd g k x := by rw [show f = g from funext h]
theorem key_plain {o : Otc} (h : 0 ≤ o.runs) (hw : o.wick = false) : keyO o = 2 * o.runs.toNat := by unfold keyO; rw [hw]; simp
theorem hardL_law {d : List Otc} (h : Uni d) (k : Nat) : Uni (hardL k d) ∧ wAt (hardL k d) = hardF k (wAt d) ∧ (hardL k d).length ≤ d.length + 1 := by
  unfold hardL mostS
  have nn := fun j => wAt_nonneg (fun o ho => (h.each o ho).2.2) (l := d) j
  rcases mostK_at d d.length (Nat.le_refl _) with ⟨h1, h2⟩ | ⟨i, hi, _, h1, h2, h3⟩
  · rw [h1, if_neg (by omega)]
    refine ⟨h, ?_, by omega⟩
    have ht : topF (wAt d) 7 = 0 := topF_none fun s hs1 hs7 => by
      rcases Classical.em (wAt d (2 * s) = 0) with h0 | h0
      · exact h0
      · obtain ⟨i, hi, hk⟩ := wAt_zero_of h0
        have he := h.each _ (List.getElem_mem hi)
        have hw := wAt_uni h hi
        rw [hk] at hw
        have hr := key_runs he.1
        rw [hk] at hr
        refine absurd ⟨?_, ?_, ?_⟩ (h2 i hi hi)
        · rw [hr.2]; simp
        · rw [hr.1]; omega
        · have := nn (2 * s); omega
    rw [hardF, if_pos ht]
  · rw [h1, if_pos (by omega), Int.toNat_natCast]
    obtain ⟨g1, g2, g3⟩ := moveL_law h hi h2.2.2 (r := 0) (w := decide (k % 2 = 1)) (by omega)
    have he := h.each _ (List.getElem_mem hi)
    have hkey := key_plain he.1 h2.1
    have ht : topF (wAt d) 7 = d[i].runs.toNat := topF_at (by
        rw [← hkey, wAt_uni h hi]; have := h2.2.2; omega) (fun s hs1 hs7 => by
        rcases Classical.em (wAt d (2 * s) = 0) with h0 | h0
        · exact h0
        · obtain ⟨i', hi', hk'⟩ := wAt_zero_of h0
          have he' := h.each _ (List.getElem_mem hi')
          have hw' := wAt_uni h hi'
          rw [hk'] at hw'
          have hr' := key_runs he'.1
          rw [hk'] at hr'
          have := h3 i' hi' hi' ⟨by rw [hr'.2]; simp, by rw [hr'.1]; omega, by have := nn (2 * s); omega⟩
          rw [hr'.1] at this
          omega) (by omega) (by have := h2.2.1; omega)
    refine ⟨g1, ?_, g3⟩
    rw [funext g2, hardF, if_neg (by rw [ht]; have := h2.2.1; omega), ht, hkey]
    congr 1
    unfold keyR keyO
    by_cases hk2 : k % 2 = 1
    · simp [hk2]
    · simp [hk2]; omega
theorem easyL_law {d : List Otc} (h : Uni d) : Uni (easyL d) ∧ wAt (easyL d) = easyF (wAt d) ∧ (easyL d).length ≤ d.length + 1 := by
  have nn := fun j => wAt_nonneg (fun o ho => (h.each o ho).2.2) (l := d) j
  have none : ∀ w : Bool, (∀ o ∈ d, ¬ (o.runs = 0 ∧ o.wick = w ∧ 0 < o.wt)) → wAt d (keyR 0 w) = 0 := fun w hno => by
    rcases Classical.em (wAt d (keyR 0 w) = 0) with h0 | h0
    · exact h0
    · obtain ⟨i, hi, hk⟩ := wAt_zero_of h0
      have he := h.each _ (List.getElem_mem hi)
      have hw := wAt_uni h hi
      rw [hk] at hw
      have := (key_eq (b := ⟨0, w, 0⟩) he.1 (by simp)).1 hk
      exact absurd ⟨this.1, this.2, by have := nn (keyR 0 w); omega⟩ (hno _ (List.getElem_mem hi))
  have k1 : keyR 0 true = 1 := rfl
  have k0 : keyR 0 false = 0 := rfl
  have hit : ∀ (i : Nat) (hi : i < d.length) (w : Bool), d[i].runs = 0 → d[i].wick = w → 0 < d[i].wt → keyO d[i] = keyR 0 w ∧ 0 < wAt d (keyR 0 w) := fun i hi w a b c => by
    have he := h.each _ (List.getElem_mem hi)
    have e : keyO d[i] = keyR 0 w := (key_eq (b := ⟨0, w, 0⟩) he.1 (by simp)).2 ⟨a, b⟩
    have := wAt_uni h hi
    rw [e] at this
    exact ⟨e, by omega⟩
  rcases dotF_at true d 0 with ⟨h1, h2⟩ | ⟨i, hi, h1, ha, hb, hc⟩
  · have z1 := none true h2
    rw [k1] at z1
    have hE : easyI d = dotF false d 0 := by unfold easyI dotS; rw [if_pos (by omega)]
    unfold easyL
    rw [hE]
    rcases dotF_at false d 0 with ⟨h3, h4⟩ | ⟨i, hi, h3, ha, hb, hc⟩
    · have z0 := none false h4
      rw [k0] at z0
      rw [h3, if_neg (by omega)]
      exact ⟨h, by rw [easyF, if_neg (by omega), if_neg (by omega)], by omega⟩
    · obtain ⟨e1, e2⟩ := hit i hi false ha hb hc
      rw [h3, if_pos (by omega), Nat.zero_add, Int.toNat_natCast]
      obtain ⟨g1, g2, g3⟩ := moveL_law h hi hc (r := 1) (w := false) (by omega)
      rw [k0] at e1 e2
      exact ⟨g1, by rw [funext g2, easyF, if_neg (by omega), if_pos e2, e1]; rfl, g3⟩
  · have hE : easyI d = dotF true d 0 := by unfold easyI dotS; rw [if_neg (by omega)]
    unfold easyL
    rw [hE]
    obtain ⟨e1, e2⟩ := hit i hi true ha hb hc
    rw [h1, if_pos (by omega), Nat.zero_add, Int.toNat_natCast]
    obtain ⟨g1, g2, g3⟩ := moveL_law h hi hc (r := 1) (w := false) (by omega)
    rw [k1] at e1 e2
    exact ⟨g1, by rw [funext g2, easyF, if_pos e2, e1]; rfl, g3⟩
def hardLK (d : List Otc) : Nat → List Otc
  | 0 => d
  | n + 1 => hardL n (hardLK d n)
def easyLK (d : List Otc) : Nat → List Otc
  | 0 => d
  | n + 1 => easyL (easyLK d n)
theorem hardLK_law {d : List Otc} (h : Uni d) : ∀ n, Uni (hardLK d n) ∧ wAt (hardLK d n) = hardK (wAt d) n ∧ (hardLK d n).length ≤ d.length + n
  | 0 => ⟨h, rfl, by simp [hardLK]⟩
  | n + 1 => by
    obtain ⟨h1, h2, h3⟩ := hardLK_law h n
    obtain ⟨g1, g2, g3⟩ := hardL_law h1 n
    exact ⟨g1, by rw [hardLK, g2, h2]; rfl, by rw [hardLK]; omega⟩
theorem easyLK_law {d : List Otc} (h : Uni d) : ∀ n, Uni (easyLK d n) ∧ wAt (easyLK d n) = easyK (wAt d) n ∧ (easyLK d n).length ≤ d.length + n
  | 0 => ⟨h, rfl, by simp [easyLK]⟩
  | n + 1 => by
    obtain ⟨h1, h2, h3⟩ := easyLK_law h n
    obtain ⟨g1, g2, g3⟩ := easyL_law h1
    exact ⟨g1, by rw [easyLK, g2, h2]; rfl, by rw [easyLK]; omega⟩
theorem Uni.small {l : List Otc} (h : Uni l) (hs : sumK (wAt l) 16 0 = 16) : ∀ o ∈ l, OkN o := fun o ho => by
  have he := h.each o ho
  obtain ⟨i, hi, rfl⟩ := List.mem_iff_getElem.1 ho
  refine ⟨he.1, he.2.1, he.2.2, ?_⟩
  have hk : keyO l[i] < 16 := by unfold keyO; split <;> omega
  have h1 := (sumK_pos 16 0 fun j _ _ => wAt_nonneg (fun o ho => (h.each o ho).2.2) j).2 (keyO l[i]) (by omega) (by omega)
  rw [wAt_uni h hi, hs] at h1
  exact h1
/-- The list that the reference hands to Norm. -/
def shiftL (d : List Otc) (n : Int) : List Otc := easyLK (hardLK d n.toNat) (-n).toNat
theorem shiftL_norm {d : List Otc} (h : checkD d = 0) {n : Int} (h0 : -12 ≤ n) (h1 : n ≤ 12) : normS (shiftL d n) = shiftS d n := by
  have hu := uni_of h
  have hf := fit_of h
  have hd := (checkD_ok h).len
  obtain ⟨a1, a2, a3⟩ := hardLK_law hu n.toNat
  obtain ⟨b1, b2, b3⟩ := easyLK_law a1 (-n).toNat
  have e : wAt (shiftL d n) = moveW (wAt d) n := by
    unfold shiftL moveW
    rw [b2, a2]
    by_cases hn : 0 ≤ n
    · rw [if_pos hn, show (-n).toNat = 0 from by omega]; rfl
    · rw [if_neg hn, show n.toNat = 0 from by omega]; rfl
  have hs : sumK (wAt (shiftL d n)) 16 0 = 16 := by rw [e]; exact (hf.move n).sum
  have hu2 : Uni (shiftL d n) := b1
  rw [shift_ok h h0 h1, normS_good (by unfold shiftL; omega) (hu2.small hs) (by rw [← sumK_wAt _ fun o ho => ⟨(hu2.each o ho).1, (hu2.each o ho).2.1⟩]; exact hs), e]
end Go.Proofs.YtfnfbojaiikigaaGreatDoor
