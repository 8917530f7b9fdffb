/- Plain laws of an accepted side. -/
import Derived.Test.YtdgejeiiiholnaaGreatDoorP8
set_option linter.unusedSimpArgs false
set_option linter.unusedVariables false
namespace Go.Proofs.YtdgejeiiiholnaaGreatDoor

theorem playersErr_ok : ∀ (l pre : List (List UInt8)), playersErr l pre = 0 → (∀ p ∈ l, nameS p = true ∧ p ∉ pre) ∧ l.Nodup := by
  intro l
  induction l with
  | nil => intro pre _; exact ⟨by simp, by simp⟩
  | cons a l ih =>
    intro pre h
    rw [playersErr] at h
    split at h
    · simp at h
    · split at h
      · simp at h
      · rename_i h1 h2
        obtain ⟨h3, h4⟩ := ih _ h
        refine ⟨fun p hp => ?_, List.nodup_cons.2 ⟨fun ha => (h3 a ha).2 (by simp), h4⟩⟩
        rcases List.mem_cons.1 hp with rfl | hp
        · exact ⟨by simpa using h1, h2⟩
        · exact ⟨(h3 p hp).1, fun hpre => (h3 p hp).2 (by simp [hpre])⟩
theorem indexF_nodup : ∀ (l : List (List UInt8)) (m i : Nat) (h : m < l.length), l.Nodup → indexF l[m] l i = i + m := by
  intro l
  induction l with
  | nil => intro m i h; simp at h
  | cons a l ih =>
    intro m i h hn
    rw [indexF]
    cases m with
    | zero => simp
    | succ m =>
      obtain ⟨h1, h2⟩ := List.nodup_cons.1 hn
      have hm : m < l.length := by simp at h; omega
      rw [List.getElem_cons_succ, if_neg (fun e => h1 (by rw [e]; exact List.getElem_mem hm)), ih m (i + 1) hm h2]
      omega
theorem indexF_none (s : List UInt8) : ∀ (l : List (List UInt8)) (i : Nat), s ∉ l → indexF s l i = -1 := by
  intro l
  induction l with
  | nil => intro i _; rfl
  | cons a l ih =>
    intro i h
    rw [indexF, if_neg (fun e => h (by simp [e]))]
    exact ih _ fun hm => h (by simp [hm])
theorem nameS_ne {l : List UInt8} (h : nameS l = true) : l ≠ [] ∧ l.length ≤ 16 := by
  cases l with
  | nil => simp [nameS] at h
  | cons c l =>
    simp only [nameS, Bool.and_eq_true, decide_eq_true_eq] at h
    exact ⟨by simp, by simp; omega⟩
theorem checkS_ok {q : Sqd} (h : checkS q = 0) : nameS q.name = true ∧ 2 ≤ q.players.length ∧ q.players.length ≤ 11 ∧ (∀ p ∈ q.players, nameS p = true) ∧ q.players.Nodup ∧ titleS q q.cap ≠ [] ∧ titleS q q.kee ≠ [] := by
  unfold checkS at h
  split at h
  · simp at h
  · split at h
    · simp at h
    · split at h
      · rename_i h1; exact absurd h h1
      · split at h
        · simp at h
        · rename_i h1 h2 h3 h4
          have h3' := playersErr_ok _ _ (Classical.byContradiction h3)
          exact ⟨by simpa using h1, by omega, by omega, fun p hp => (h3'.1 p hp).1, h3'.2, fun e => h4 (.inl e), fun e => h4 (.inr e)⟩
theorem titleS_in {q : Sqd} {n : Int} (h : titleS q n ≠ []) : 1 ≤ n ∧ n ≤ q.players.length := by
  unfold titleS at h
  split at h
  · exact absurd rfl h
  · omega
/-- What SquadFinds asks of an accepted side. -/
theorem finds {q : Sqd} (h : checkS q = 0) {m : Nat} (hm : m < q.players.length) :
    indexS q.players q.players[m] + 1 = (m : Int) + 1 ∧ titleS q ((m : Int) + 1) ≠ [] ∧ titleS q ((q.players.length : Int) + 1) = [] ∧ indexS q.players [] + 1 = 0 := by
  obtain ⟨h1, h2, h3, h4, h5, h6, h7⟩ := checkS_ok h
  refine ⟨by unfold indexS; rw [indexF_nodup _ m 0 hm h5]; simp, ?_, by unfold titleS; rw [if_pos (by omega)], by unfold indexS; rw [indexF_none]; rfl; exact fun hn => (nameS_ne (h4 _ hn)).1 rfl⟩
  unfold titleS
  rw [if_neg (by omega)]
  have : q.players.getD ((m : Int) + 1 - 1).toNat [] = q.players[m] := by
    rw [show ((m : Int) + 1 - 1).toNat = m from by omega, List.getD_eq_getElem?_getD, List.getElem?_eq_getElem hm]; rfl
  rw [this]
  intro e
  have := (nameS_ne (h4 _ (List.getElem_mem hm))).1
  simp at e
  exact this e.1
def fewS (q : Sqd) : Sqd := { q with name := q.name.take 20, players := (q.players.take 13).map (·.take 20) }
theorem fewS_len (q : Sqd) : (fewS q).name.length ≤ 20 ∧ (∀ p ∈ (fewS q).players, p.length ≤ 20) ∧ (fewS q).players.length ≤ 13 := by
  refine ⟨by simp [fewS]; omega, fun p hp => ?_, by simp [fewS]; omega⟩
  simp only [fewS, List.mem_map] at hp
  obtain ⟨a, _, rfl⟩ := hp
  simp; omega
end Go.Proofs.YtdgejeiiiholnaaGreatDoor
