/- Plain specifications of the model (chapter 43): its checks, its indices, the distribution of a ball. -/
import Derived.Test.YtfnfbojaiikigaaGreatDoorP61
import Derived.Test.YtfnfbojaiikigaaGreatDoorPP
set_option linter.unusedSimpArgs false
set_option linter.unusedVariables false
namespace Go.Proofs.YtfnfbojaiikigaaGreatDoor

structure Bat where
  name : List UInt8
  dist : List Otc
structure Bow where
  name : List UInt8
  shift : Int
structure Mdl where
  bats : List Bat
  bows : List Bow
def noMdl : Mdl := ⟨[], []⟩
def batErr (pre : List (List UInt8)) (b : Bat) : Int := if nameS b.name = false then 5 else if b.name ∈ pre then 7 else checkD b.dist
def batsF : List (List UInt8) → List Bat → Int
  | _, [] => 0
  | pre, b :: l => if batErr pre b ≠ 0 then batErr pre b else batsF (pre ++ [b.name]) l
def bowErr (pre : List (List UInt8)) (b : Bow) : Int := if nameS b.name = false then 5 else if b.name ∈ pre then 7 else if b.shift < -12 ∨ 12 < b.shift then 2 else 0
def bowsF : List (List UInt8) → List Bow → Int
  | _, [] => 0
  | pre, b :: l => if bowErr pre b ≠ 0 then bowErr pre b else bowsF (pre ++ [b.name]) l
def checkM (m : Mdl) : Int :=
  if m.bats.length = 0 ∨ m.bows.length = 0 then 6 else if 11 < m.bats.length ∨ 11 < m.bows.length then 9
  else if batsF [] m.bats ≠ 0 then batsF [] m.bats else bowsF [] m.bows
def batI (l : List Bat) (n : List UInt8) : Int := indexS (l.map (·.name)) n
def bowI (l : List Bow) (n : List UInt8) : Int := indexS (l.map (·.name)) n
def ballS (m : Mdl) (i j : Int) : List Otc × Int :=
  if checkM m ≠ 0 then ([], checkM m) else if i < 0 ∨ (m.bats.length : Int) ≤ i ∨ j < 0 ∨ (m.bows.length : Int) ≤ j then ([], 6)
  else match m.bats[i.toNat]?, m.bows[j.toNat]? with
    | some b, some w => shiftS b.dist w.shift
    | _, _ => ([], 6)
theorem indexF_before (s : List UInt8) : ∀ (l : List (List UInt8)) (i j : Nat) (hi : i < l.length), l[i] = s → (indexF s l j < ((j + i : Nat) : Int) ↔ s ∈ l.take i)
  | a :: l, i, j, hi, he => by
    rw [indexF]
    by_cases ha : a = s
    · rw [if_pos ha]
      cases i with
      | zero => simp
      | succ i => rw [List.take_succ_cons]; simp [ha]; omega
    · rw [if_neg ha]
      cases i with
      | zero => exact absurd he ha
      | succ i =>
        have := indexF_before s l i (j + 1) (by simpa using hi) (by simpa using he)
        rw [List.take_succ_cons, List.mem_cons]
        rw [show j + (i + 1) = j + 1 + i from by omega, this]
        constructor
        · exact fun h => .inr h
        · rintro (h | h)
          · exact absurd h.symm ha
          · exact h
theorem batI_before {l : List Bat} {k : Nat} (hk : k < l.length) : decide (batI l l[k].name < (k : Int)) = decide (l[k].name ∈ (l.take k).map (·.name)) := by
  rw [Bool.eq_iff_iff, decide_eq_true_eq, decide_eq_true_eq]
  have := indexF_before l[k].name (l.map (·.name)) k 0 (by simpa using hk) (by simp)
  rw [Nat.zero_add, ← List.map_take] at this
  exact this
theorem bowI_before {l : List Bow} {k : Nat} (hk : k < l.length) : decide (bowI l l[k].name < (k : Int)) = decide (l[k].name ∈ (l.take k).map (·.name)) := by
  rw [Bool.eq_iff_iff, decide_eq_true_eq, decide_eq_true_eq]
  have := indexF_before l[k].name (l.map (·.name)) k 0 (by simpa using hk) (by simp)
  rw [Nat.zero_add, ← List.map_take] at this
  exact this
theorem take_map_succ {α β : Type} (g : α → β) {l : List α} {k : Nat} (hk : k < l.length) : (l.take (k + 1)).map g = (l.take k).map g ++ [g l[k]] := by
  rw [List.take_add_one, List.getElem?_eq_getElem hk, List.map_append]; rfl
theorem batsF_at {l : List Bat} {k : Nat} (hk : k < l.length) : batsF ((l.take k).map (·.name)) (l.drop k) =
    if batErr ((l.take k).map (·.name)) l[k] ≠ 0 then batErr ((l.take k).map (·.name)) l[k] else batsF ((l.take (k + 1)).map (·.name)) (l.drop (k + 1)) := by
  rw [List.drop_eq_getElem_cons hk, batsF, take_map_succ (·.name) hk]
theorem bowsF_at {l : List Bow} {k : Nat} (hk : k < l.length) : bowsF ((l.take k).map (·.name)) (l.drop k) =
    if bowErr ((l.take k).map (·.name)) l[k] ≠ 0 then bowErr ((l.take k).map (·.name)) l[k] else bowsF ((l.take (k + 1)).map (·.name)) (l.drop (k + 1)) := by
  rw [List.drop_eq_getElem_cons hk, bowsF, take_map_succ (·.name) hk]
theorem batsF_ok : ∀ (l : List Bat) (pre : List (List UInt8)), batsF pre l = 0 → ∀ b ∈ l, nameS b.name = true ∧ checkD b.dist = 0
  | [], _, _, b, hb => by cases hb
  | a :: l, pre, h, b, hb => by
    rw [batsF] at h
    by_cases he : batErr pre a = 0
    · rw [if_neg (by simpa using he)] at h
      rcases List.mem_cons.1 hb with rfl | hb
      · unfold batErr at he
        by_cases h1 : nameS b.name = false
        · rw [if_pos h1] at he; cases he
        · rw [if_neg h1] at he
          by_cases h2 : b.name ∈ pre
          · rw [if_pos h2] at he; cases he
          · rw [if_neg h2] at he; exact ⟨by simpa using h1, he⟩
      · exact batsF_ok l _ h b hb
    · rw [if_pos he] at h; exact absurd h he
theorem bowsF_ok : ∀ (l : List Bow) (pre : List (List UInt8)), bowsF pre l = 0 → ∀ b ∈ l, nameS b.name = true ∧ -12 ≤ b.shift ∧ b.shift ≤ 12
  | [], _, _, b, hb => by cases hb
  | a :: l, pre, h, b, hb => by
    rw [bowsF] at h
    by_cases he : bowErr pre a = 0
    · rw [if_neg (by simpa using he)] at h
      rcases List.mem_cons.1 hb with rfl | hb
      · unfold bowErr at he
        by_cases h1 : nameS b.name = false
        · rw [if_pos h1] at he; cases he
        · rw [if_neg h1] at he
          by_cases h2 : b.name ∈ pre
          · rw [if_pos h2] at he; cases he
          · rw [if_neg h2] at he
            by_cases h3 : b.shift < -12 ∨ 12 < b.shift
            · rw [if_pos h3] at he; cases he
            · exact ⟨by simpa using h1, by omega, by omega⟩
      · exact bowsF_ok l _ h b hb
    · rw [if_pos he] at h; exact absurd h he
structure OkM (m : Mdl) : Prop where
  nb : 1 ≤ m.bats.length ∧ m.bats.length ≤ 11
  nw : 1 ≤ m.bows.length ∧ m.bows.length ≤ 11
  bat : ∀ b ∈ m.bats, nameS b.name = true ∧ checkD b.dist = 0
  bow : ∀ b ∈ m.bows, nameS b.name = true ∧ -12 ≤ b.shift ∧ b.shift ≤ 12
theorem checkM_ok {m : Mdl} (h : checkM m = 0) : OkM m := by
  unfold checkM at h
  by_cases h1 : m.bats.length = 0 ∨ m.bows.length = 0
  · rw [if_pos h1] at h; cases h
  · rw [if_neg h1] at h
    by_cases h2 : 11 < m.bats.length ∨ 11 < m.bows.length
    · rw [if_pos h2] at h; cases h
    · rw [if_neg h2] at h
      by_cases h3 : batsF [] m.bats ≠ 0
      · rw [if_pos h3] at h; exact absurd h h3
      · rw [if_neg h3] at h
        exact ⟨by omega, by omega, batsF_ok _ [] (by omega), bowsF_ok _ [] h⟩
/-- What Ball hands back, where it does. -/
theorem ballS_ok {m : Mdl} {i j : Int} (h : (ballS m i j).2 = 0) : checkM m = 0 ∧ ∃ (b : Bat) (w : Bow), 0 ≤ i ∧ i < m.bats.length ∧ 0 ≤ j ∧ j < m.bows.length ∧ m.bats[i.toNat]? = some b ∧ m.bows[j.toNat]? = some w ∧ ballS m i j = shiftS b.dist w.shift ∧ (shiftS b.dist w.shift).2 = 0 := by
  unfold ballS at h ⊢
  by_cases h1 : checkM m ≠ 0
  · rw [if_pos h1] at h; exact absurd h h1
  · rw [if_neg h1] at h ⊢
    by_cases h2 : i < 0 ∨ (m.bats.length : Int) ≤ i ∨ j < 0 ∨ (m.bows.length : Int) ≤ j
    · rw [if_pos h2] at h; cases h
    · rw [if_neg h2] at h ⊢
      have hi : i.toNat < m.bats.length := by omega
      have hj : j.toNat < m.bows.length := by omega
      rw [List.getElem?_eq_getElem hi, List.getElem?_eq_getElem hj] at h ⊢
      exact ⟨by omega, _, _, by omega, by omega, by omega, by omega, rfl, rfl, rfl, h⟩
theorem shiftS_bad {d : List Otc} {n : Int} (h : (shiftS d n).2 ≠ 0) : (shiftS d n).1 = [] := by
  unfold shiftS at h ⊢
  split
  · rfl
  · split
    · rfl
    · rename_i h1 h2; rw [if_neg h1, if_neg h2] at h; exact absurd rfl h
theorem ballS_bad {m : Mdl} {i j : Int} (h : (ballS m i j).2 ≠ 0) : (ballS m i j).1 = [] := by
  unfold ballS at h ⊢
  split
  · rfl
  · split
    · rfl
    · rename_i h1 h2
      rw [if_neg h1, if_neg h2] at h
      split
      · rename_i b w hb hw
        rw [hb, hw] at h
        exact shiftS_bad h
      · rfl
end Go.Proofs.YtfnfbojaiikigaaGreatDoor
