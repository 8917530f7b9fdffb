/- Plain facts: how long the fields, the lines and the diagnostics of a source are; the loop over the lines of a side, step by step. -/
import Derived.Test.YtdgejeiiiholnaaGreatDoorP5
set_option linter.unusedSimpArgs false
set_option linter.unusedVariables false
namespace Go.Proofs.YtdgejeiiiholnaaGreatDoor

theorem quotedS_text (n : Nat) : ∀ (l : List UInt8), l.length ≤ n → ∀ (j : Nat) (acc : List UInt8), (quotedS l j acc).1.length ≤ acc.length + l.length := by
  induction n with
  | zero => intro l hl j acc; have : l = [] := List.eq_nil_of_length_eq_zero (by omega); subst this; simp [quotedS]
  | succ n ih =>
    intro l hl j acc
    cases l with
    | nil => simp [quotedS]
    | cons c l =>
      simp only [List.length_cons] at hl ⊢
      rw [quotedS.eq_def]; dsimp only
      split
      · cases l with
        | nil => simp
        | cons d l' =>
          simp only [List.length_cons] at hl ⊢
          split
          · have := ih l' (by omega) (j + 2) (acc ++ [34]); simp at this; omega
          · simp
      · split
        · have := ih l (by omega) (j + 1) (acc ++ [c]); simp at this; omega
        · simp
theorem takeWhile_le {α : Type} (p : α → Bool) (l : List α) : (l.takeWhile p).length ≤ l.length := by
  have := drop_len p l; omega
theorem dropWhile_le {α : Type} (p : α → Bool) (l : List α) : (l.dropWhile p).length ≤ l.length := by
  have := drop_len p l; omega
theorem fieldsF_text (N : Nat) (n : Nat) : ∀ (l : List UInt8) (i : Nat) (after : Bool) (out : List Fld), l.length ≤ N → (∀ f ∈ out, f.text.length ≤ N) → ∀ f ∈ (fieldsF n l i after out).1, f.text.length ≤ N := by
  induction n with
  | zero => intro l i after out _ h; rw [fieldsF]; exact h
  | succ n ih =>
    intro l i after out hl h
    cases l with
    | nil => rw [fieldsF]; exact h; simp
    | cons c l =>
      have hl' : l.length ≤ N := by simp at hl; omega
      rw [fieldsF]
      split
      · exact ih _ _ _ _ hl' h
      · split
        · exact h
        · split
          · simp
          · split
            · split
              · refine ih _ _ _ _ (by rw [List.length_drop]; omega) fun f hf => ?_
                rcases List.mem_append.1 hf with hf | hf
                · exact h f hf
                · simp at hf; subst hf
                  have := quotedS_text _ l (Nat.le_refl _) (i + 1) []
                  simp at this ⊢; omega
              · simp
            · split
              · simp
              · refine ih _ _ _ _ (Nat.le_trans (dropWhile_le _ _) hl) fun f hf => ?_
                rcases List.mem_append.1 hf with hf | hf
                · exact h f hf
                · simp only [List.mem_singleton] at hf; subst hf
                  exact Nat.le_trans (takeWhile_le _ _) hl
theorem fieldsS_text (l : List UInt8) : ∀ f ∈ (fieldsS l).1, f.text.length ≤ l.length := fieldsF_text _ _ _ _ _ _ (Nat.le_refl _) (by simp)
def OkLin (x : Lin) : Prop := x.fields.length ≤ 1000 ∧ ∀ f ∈ x.fields, f.text.length ≤ 1000
theorem splitF_ok : ∀ (ps : List (List UInt8)) (n : Int) (out : List Lin) (ds : List Dia), (∀ x ∈ out, OkLin x) → ds.length ≤ 50 → (∀ x ∈ (splitF ps n out ds).1, OkLin x) ∧ (splitF ps n out ds).1.length ≤ out.length + ps.length ∧ (splitF ps n out ds).2.length ≤ 50 := by
  intro ps
  induction ps with
  | nil => intro n out ds h hd; rw [splitF]; exact ⟨h, by simp, hd⟩
  | cons p ps ih =>
    intro n out ds h hd
    have hd2 : ∀ x : Dia, (if ds.length < 50 then ds ++ [x] else ds).length ≤ 50 := by
      intro x; split
      · simp; omega
      · exact hd
    rw [splitF]
    split
    · have := ih (n + 1) out _ h (hd2 ⟨n, 1001, 9⟩); exact ⟨this.1, by simp; omega, this.2.2⟩
    · split
      · have := ih (n + 1) out _ h (hd2 ⟨n, (fieldsS p).2, 4⟩); exact ⟨this.1, by simp; omega, this.2.2⟩
      · split
        · rename_i hp _ _
          have := ih (n + 1) (out ++ [⟨n, (fieldsS p).1⟩]) ds (fun x hx => by
            rcases List.mem_append.1 hx with hx | hx
            · exact h x hx
            · simp only [List.mem_singleton] at hx; subst hx
              exact ⟨by have := (fieldsS_len p).1; show (fieldsS p).1.length ≤ 1000; omega, fun f hf => by have := fieldsS_text p f hf; omega⟩) hd
          exact ⟨this.1, by have := this.2.1; simp at this ⊢; omega, this.2.2⟩
        · have := ih (n + 1) out ds h hd; exact ⟨this.1, by simp; omega, this.2.2⟩
theorem splitS_ok (s : List UInt8) : (∀ x ∈ (splitS s).1, OkLin x) ∧ (splitS s).1.length ≤ 262145 ∧ (splitS s).2.length ≤ 50 := by
  unfold splitS
  split
  · simp
  · have h1 := splitF_ok (pieces 10 s) 1 [] [] (by simp) (by simp)
    have h2 := pieces_len 10 s
    exact ⟨h1.1, by have := h1.2.1; simp at this; omega, h1.2.2⟩

/-- One line of a side, with index i. -/
def stepS (x : Lin) (i : Nat) (q : Sqd) : Sqd × Cur :=
  if i = 0 then ({ q with name := ((Cur.start x).keyword sSIDE).1.ident.2 }, ((Cur.start x).keyword sSIDE).1.ident.1) else playerS q (Cur.start x)
theorem linesF_cons (x : Lin) (l : List Lin) (i : Nat) (q : Sqd) : linesF (x :: l) i q = match (stepS x i q).2.close with | some d => .inr d | none => linesF l (i + 1) (stepS x i q).1 := by
  rfl
theorem linesF_bad {x : Lin} {l : List Lin} {i : Nat} {q q' : Sqd} {c : Cur} {d : Dia} (h : stepS x i q = (q', c)) (hc : c.close = some d) : linesF (x :: l) i q = .inr d := by
  rw [linesF_cons, h]; simp only [hc]
theorem linesF_ok {x : Lin} {l : List Lin} {i : Nat} {q q' : Sqd} {c : Cur} (h : stepS x i q = (q', c)) (hc : c.close = none) : linesF (x :: l) i q = linesF l (i + 1) q' := by
  rw [linesF_cons, h]; simp only [hc]
theorem dutiesF_players (n : Int) : ∀ (k : Nat) (q : Sqd) (c : Cur), (dutiesF k n q c).1.players = q.players ∧ (dutiesF k n q c).1.name = q.name := by
  intro k
  induction k with
  | zero => intro q c; exact ⟨rfl, rfl⟩
  | succ k ih =>
    intro q c
    rw [dutiesF]
    split
    · have h1 := ih (dutyS n q c).1 (dutyS n q c).2
      have h2 := dutyS_left n q c
      exact ⟨h1.1.trans h2.2.2.1, h1.2.trans h2.2.2.2⟩
    · exact ⟨rfl, rfl⟩
theorem playerS_players (q : Sqd) (c : Cur) : (playerS q c).1.players = q.players ++ [(c.keyword sPLAYER).1.ident.2] ∧ (playerS q c).1.name = q.name := by
  unfold playerS dutiesS
  exact dutiesF_players _ _ _ _
theorem stepS_players (x : Lin) (i : Nat) (q : Sqd) (hx : OkLin x) (hq : q.players.length ≤ i) (hl : ∀ p ∈ q.players, p.length ≤ 1000) (hn : q.name.length ≤ 1000) :
    (stepS x i q).1.players.length ≤ i + 1 ∧ (∀ p ∈ (stepS x i q).1.players, p.length ≤ 1000) ∧ (stepS x i q).1.name.length ≤ 1000 := by
  have hk : ∀ kw, ((Cur.start x).keyword kw).1.ident.2.length ≤ 1000 := fun kw => by
    refine Cur.ident_text _ fun f hf => ?_
    rw [Cur.keyword_fields] at hf
    exact hx.2 f hf
  unfold stepS
  split
  · exact ⟨by simp; omega, hl, hk _⟩
  · have hp := playerS_players q (Cur.start x)
    rw [hp.1, hp.2]
    exact ⟨by simp; omega, fun p hp => by
      rcases List.mem_append.1 hp with hp | hp
      · exact hl p hp
      · simp only [List.mem_singleton] at hp; subst hp; exact hk _, hn⟩
end Go.Proofs.YtdgejeiiiholnaaGreatDoor
