/- Plain law: splitting with the diagnostics counted at the end; the pieces, byte by byte. -/
import Derived.Test.YtdgejeiiiholnaaGreatDoorP10
set_option linter.unusedSimpArgs false
set_option linter.unusedVariables false
namespace Go.Proofs.YtdgejeiiiholnaaGreatDoor

def stepU (p : List UInt8) (n : Int) (out : List Lin) (ds : List Dia) : List Lin × List Dia :=
  if 1000 < p.length then (out, ds ++ [⟨n, 1001, 9⟩])
  else if (fieldsS p).2 ≠ 0 then (out, ds ++ [⟨n, (fieldsS p).2, 4⟩])
  else if (fieldsS p).1 ≠ [] then (out ++ [⟨n, (fieldsS p).1⟩], ds) else (out, ds)
def splitU : List (List UInt8) → Int → List Lin → List Dia → List Lin × List Dia
  | [], _, out, ds => (out, ds)
  | p :: ps, n, out, ds => splitU ps (n + 1) (stepU p n out ds).1 (stepU p n out ds).2
theorem take50 (ds : List Dia) (x : Dia) : (if (ds.take 50).length < 50 then ds.take 50 ++ [x] else ds.take 50) = (ds ++ [x]).take 50 := by
  by_cases h : ds.length < 50
  · rw [List.take_of_length_le (by omega), if_pos h, List.take_of_length_le (by simp; omega)]
  · rw [if_neg (by simp; omega), List.take_append_of_le_length (by omega)]
theorem splitF_U : ∀ (ps : List (List UInt8)) (n : Int) (out : List Lin) (ds : List Dia), splitF ps n out (ds.take 50) = ((splitU ps n out ds).1, (splitU ps n out ds).2.take 50) := by
  intro ps
  induction ps with
  | nil => intro n out ds; rfl
  | cons p ps ih =>
    intro n out ds
    rw [splitF, splitU]
    unfold stepU
    split
    · rw [take50, ih]
    · split
      · rw [take50, ih]
      · split
        · rw [ih]
        · rw [ih]
theorem splitS_U {l : List UInt8} (h : ¬ 262144 < l.length) : splitS l = ((splitU (pieces 10 l) 1 [] []).1, (splitU (pieces 10 l) 1 [] []).2.take 50) := by
  unfold splitS
  rw [if_neg h]
  exact splitF_U _ 1 [] []
theorem pieces_none : ∀ (l : List UInt8), (10 : UInt8) ∉ l → pieces 10 l = [l] := by
  intro l
  induction l with
  | nil => intro _; rfl
  | cons b l ih =>
    intro h
    rw [pieces, if_neg (fun e => h (by simp [e])), ih (fun hm => h (by simp [hm]))]
/-- Where the loop over the bytes of a source stands: index k, the line began at st. -/
def SpInv (s : ByteArray) (k st : Nat) (n : Int) (out : List Lin) (ds : List Dia) (res : List Lin × List Dia) : Prop :=
  (k ≤ s.size ∧ st ≤ k ∧ (∀ j (h : j < s.size), st ≤ j → j < k → s[j] ≠ 10) ∧ splitU (pieces 10 (s.data.toList.drop st)) n out ds = res) ∨ (k = s.size + 1 ∧ (out, ds) = res)
theorem SpInv.start (s : ByteArray) : SpInv s 0 0 1 [] [] (splitU (pieces 10 s.data.toList) 1 [] []) := .inl ⟨Nat.zero_le _, Nat.le_refl _, fun j _ _ h => absurd h (by omega), rfl⟩
theorem SpInv.next {s : ByteArray} {k st : Nat} {n : Int} {out : List Lin} {ds : List Dia} {res : List Lin × List Dia} (h : SpInv s k st n out ds res) (hk : k < s.size) (hc : s[k] ≠ 10) : SpInv s (k + 1) st n out ds res := by
  rcases h with ⟨_, h2, h3, h4⟩ | ⟨h1, _⟩
  · refine .inl ⟨hk, by omega, fun j hj h5 h6 => ?_, h4⟩
    by_cases e : j = k
    · subst e; exact hc
    · exact h3 j hj h5 (by omega)
  · omega
theorem SpInv.line {s : ByteArray} {k st : Nat} {n : Int} {out : List Lin} {ds : List Dia} {res : List Lin × List Dia} (h : SpInv s k st n out ds res) (hk : k ≤ s.size) (hc : k = s.size ∨ ∃ h : k < s.size, s[k] = 10) :
    st ≤ k ∧ SpInv s (k + 1) (k + 1) (n + 1) (stepU (s.extract st k).data.toList n out ds).1 (stepU (s.extract st k).data.toList n out ds).2 res := by
  rcases h with ⟨_, h2, h3, h4⟩ | ⟨h1, _⟩
  · refine ⟨h2, ?_⟩
    have hx : (s.extract st k).data.toList = (s.data.toList.drop st).take (k - st) := by rw [Lib.extract_data]
    have hno : (10 : UInt8) ∉ (s.extract st k).data.toList := by
      rw [hx]
      intro hm
      obtain ⟨i, hi⟩ := List.mem_iff_getElem?.1 hm
      have hlt := (List.getElem?_eq_some_iff.1 hi).1
      rw [List.getElem?_take] at hi
      split at hi
      · rename_i hik
        rw [List.getElem?_drop] at hi
        have hsz : st + i < s.size := by omega
        have := h3 (st + i) hsz (by omega) (by omega)
        have e : s.data.toList[st + i]? = some s[st + i] := by
          rw [List.getElem?_eq_getElem (by simpa using hsz)]; rfl
        rw [e] at hi
        exact this (Option.some.inj hi)
      · cases hi
    by_cases hke : k = s.size
    · right
      refine ⟨by omega, ?_⟩
      have hall : (s.extract st k).data.toList = s.data.toList.drop st := by rw [hx, List.take_of_length_le (by simp; omega)]
      rw [hall] at hno ⊢
      rw [pieces_none _ hno, splitU, splitU] at h4
      exact h4
    · rcases hc with hc | ⟨hlt, hc⟩
      · exact absurd hc hke
      · left
        refine ⟨by omega, Nat.le_refl _, fun j _ h5 h6 => by omega, ?_⟩
        have hsp : s.data.toList.drop st = (s.extract st k).data.toList ++ 10 :: s.data.toList.drop (k + 1) := by
          rw [hx]
          have e1 : (s.data.toList.drop st).drop (k - st) = 10 :: s.data.toList.drop (k + 1) := by
            rw [List.drop_drop, show st + (k - st) = k from by omega, drop_cons s k hlt, hc]
          rw [← e1, List.take_append_drop]
        rw [hsp, pieces_line _ _ hno, splitU] at h4
        exact h4
  · omega
theorem SpInv.done {s : ByteArray} {k st : Nat} {n : Int} {out : List Lin} {ds : List Dia} {res : List Lin × List Dia} (h : SpInv s k st n out ds res) (hk : s.size < k) : (out, ds) = res := by
  rcases h with ⟨h1, _⟩ | ⟨_, h⟩
  · omega
  · exact h
end Go.Proofs.YtdgejeiiiholnaaGreatDoor
