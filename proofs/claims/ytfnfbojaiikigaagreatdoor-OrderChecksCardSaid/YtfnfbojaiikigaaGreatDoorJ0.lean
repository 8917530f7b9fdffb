/- Models in memory: batters (a name, a distribution), bowlers (a name, a number). -/
import Derived.Test.YtfnfbojaiikigaaGreatDoorH1
import Derived.Test.YtfnfbojaiikigaaGreatDoorP63
set_option linter.unusedSimpArgs false
set_option linter.unusedVariables false
namespace Go.Proofs.YtfnfbojaiikigaaGreatDoor
open Go.RowKit

def elBat (w : World) (F : Nat → Prop) (cs : List Value) (b : Bat) : Prop := (∃ v, cs = [.string (S b.name), v] ∧ Sl 3 elOtc w F v b.dist) ∧ b.name.length ≤ maxLen
theorem elBat_good : Good elBat := ⟨fun ⟨⟨v, h, hs⟩, hl⟩ hk hG => ⟨⟨v, h, hs.keep elOtc_good hk hG⟩, hl⟩⟩
def elBow (_ : World) (_ : Nat → Prop) (cs : List Value) (b : Bow) : Prop := cs = [.string (S b.name), .int .i64 b.shift] ∧ b.name.length ≤ maxLen
theorem elBow_good : Good elBow := ⟨fun h _ _ => h⟩
theorem bat_at {w : World} {F : Nat → Prop} {A : Option Addr} {n c : Nat} {l : List Bat} (h : Sl 2 elBat w F (.slice A n c) l) {k : Nat} (hk : k < l.length) :
    ∃ b o v, A = some ⟨b, o, none⟩ ∧ F b ∧ w.cell? ⟨b, o + k * 2, none⟩ = some (.string (S l[k].name)) ∧ w.cell? ⟨b, o + k * 2 + 1, none⟩ = some v ∧ Sl 3 elOtc w F v l[k].dist ∧ l[k].name.length ≤ maxLen := by
  obtain ⟨b, o, cs, hA, hF, hl, hc, ⟨v, rfl, hs⟩, hn⟩ := h.at hk
  exact ⟨b, o, v, hA, hF, hc 0 _ rfl, hc 1 _ rfl, hs, hn⟩
theorem bow_at {w : World} {F : Nat → Prop} {A : Option Addr} {n c : Nat} {l : List Bow} (h : Sl 2 elBow w F (.slice A n c) l) {k : Nat} (hk : k < l.length) :
    ∃ b o, A = some ⟨b, o, none⟩ ∧ F b ∧ w.cell? ⟨b, o + k * 2, none⟩ = some (.string (S l[k].name)) ∧ w.cell? ⟨b, o + k * 2 + 1, none⟩ = some (.int .i64 l[k].shift) ∧ l[k].name.length ≤ maxLen := by
  obtain ⟨b, o, cs, hA, hF, hl, hc, rfl, hn⟩ := h.at hk
  exact ⟨b, o, hA, hF, hc 0 _ rfl, hc 1 _ rfl, hn⟩
/-- A model that lies: its two slices. -/
structure MdlAt (w : World) (F : Nat → Prop) (bv wv : Value) (m : Mdl) : Prop where
  bat : Sl 2 elBat w F bv m.bats
  bow : Sl 2 elBow w F wv m.bows
def mdlV (bv wv : Value) : Value := .agg #[bv, wv]
theorem MdlAt.keep {w w' : World} {F G : Nat → Prop} {bv wv : Value} {m : Mdl} (h : MdlAt w F bv wv m) (hs : Same F w w') (hG : ∀ b, F b → G b) : MdlAt w' G bv wv m := ⟨h.bat.keep elBat_good hs hG, h.bow.keep elBow_good hs hG⟩
theorem MdlAt.below {w w' : World} {bv wv : Value} {m : Mdl} (h : MdlAt w (· < w.heap.size) bv wv m) (hb : Below w.heap.size w w') : MdlAt w' (· < w'.heap.size) bv wv m :=
  h.keep (Same.of_below hb) fun b h => Nat.lt_of_lt_of_le h hb.size
end Go.Proofs.YtfnfbojaiikigaaGreatDoor
