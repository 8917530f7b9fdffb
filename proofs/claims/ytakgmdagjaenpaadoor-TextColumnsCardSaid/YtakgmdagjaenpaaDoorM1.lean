/- The contracts of the law's sameDiags and sameLines at equal lists. No further conditions. -/
import Derived.Test.YtakgmdagjaenpaaDoorT1
import Derived.Test.YtakgmdagjaenpaaDoorB
import Derived.Laws.StructEq
set_option linter.unusedSimpArgs false
set_option linter.unusedVariables false
namespace Go.Proofs.YtakgmdagjaenpaaDoor
open Go.RowKit

/-- A line of a list that lies. -/
theorem lin_at {w : World} {F : Nat → Prop} {A : Option Addr} {n c : Nat} {l : List Lin} (h : Sl 2 elLin w F (.slice A n c) l) {k : Nat} (hk : k < l.length) :
    ∃ b o A2 c2, A = some ⟨b, o, none⟩ ∧ F b ∧ w.cell? ⟨b, o + k * 2, none⟩ = some (.int .i64 l[k].num) ∧ w.cell? ⟨b, o + k * 2 + 1, none⟩ = some (.slice A2 l[k].fields.length c2) ∧ Sl 3 elFld w F (.slice A2 l[k].fields.length c2) l[k].fields ∧ l[k].fields.length ≤ c2 ∧ c2 ≤ 9223372036854775807 := by
  obtain ⟨b, o, cs, h1, h2, h3, h4, v, rfl, h6⟩ := h.at hk
  obtain ⟨A2, c2, rfl, hc, hc2⟩ := h6.shape
  have y0 := h4 0 _ rfl
  rw [Nat.add_zero] at y0
  exact ⟨b, o, A2, c2, h1, h2, y0, h4 1 _ rfl, h6, hc, hc2⟩
/-- A field of a list that lies. -/
theorem fld_at {w : World} {F : Nat → Prop} {A : Option Addr} {n c : Nat} {l : List Fld} (h : Sl 3 elFld w F (.slice A n c) l) {k : Nat} (hk : k < l.length) :
    ∃ b o, A = some ⟨b, o, none⟩ ∧ F b ∧ w.cell? ⟨b, o + k * 3, none⟩ = some (.string (S l[k].text)) ∧ w.cell? ⟨b, o + k * 3 + 1, none⟩ = some (.int .i64 l[k].col) ∧ w.cell? ⟨b, o + k * 3 + 2, none⟩ = some (.bool l[k].quoted) := by
  obtain ⟨b, o, cs, h1, h2, h3, h4, h5⟩ := h.at hk
  have h5' : cs = [.string (S l[k].text), .int .i64 l[k].col, .bool l[k].quoted] := h5
  subst h5'
  have y0 := h4 0 _ rfl
  rw [Nat.add_zero] at y0
  exact ⟨b, o, h1, h2, y0, h4 1 _ rfl, h4 2 _ rfl⟩
end Go.Proofs.YtakgmdagjaenpaaDoor
