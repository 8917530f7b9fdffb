/- Words that several packages share: rows against blocks, append as a step, the cursor while the world turns elsewhere, a literal as a row. -/
import Derived.Test.YtfnfbojaiikigaaGreatDoorA2
import Derived.Test.YtfnfbojaiikigaaGreatDoorC
import Derived.Test.YtfnfbojaiikigaaGreatDoorT6
import Derived.Deep.RegionLaw
set_option linter.unusedSimpArgs false
set_option linter.unusedVariables false
namespace Go.Proofs.YtfnfbojaiikigaaGreatDoor
open Go.RowKit

theorem own_ne {α : Type} {size e base : Nat} {R : World → (Nat → Prop) → List Value → α → Prop} {G : Nat → Prop} {w : World} {v : Value} {l : List α} {g : Nat} {t : TypeId} {cs : Array Value}
    (h : OwnG size R e base w v G l) (hg : Blk w g t cs) (hne : e ≠ t) : v.ownBlock ≠ some g := by
  obtain ⟨xs, hx, ⟨rfl, _⟩ | ⟨g', cap, cur, rfl, _, hh, _⟩⟩ := h.owns
  · simp [Value.ownBlock]
  · intro he
    have : g' = g := by simpa [Value.ownBlock] using he
    subst this
    unfold Blk at hg
    rw [hh] at hg
    injection hg with hg
    injection hg with _ ht
    exact hne ht
/-- append of one element, as a step of a region that draws. -/
theorem step_append_el {P : Program} {ops : Array Oper} {o : Oper} {a : Act} {w : World} {K : Act → World → Prop} {Q : Exit → Act → World → Prop} {E : Prop} (hgd : o.guard = none) (s x : Operand) (t : TypeId)
    (ho : o.op = .call { callee := .builtin .append, args := #[s, x], argTypes := #[t, t] })
    {e : TypeId} {size bytes : Nat} (hE : ElemOf P t e size bytes) {α : Type} {R : World → (Nat → Prop) → List Value → α → Prop} (hR : Good R)
    (base : Nat) (v : Value) (l : List α) (hs : a.eval s = v) (hown : OwnSl size R e base w v l)
    (ad : Addr) (c : Nat) (cs : List Value) (hx : a.eval x = .slice (some ad) 1 c) (el : α) (hl : cs.length = size) (hcell : ∀ j u, cs[j]? = some u → w.cell? (ad.add j) = some u)
    (h1 : ∀ u ∈ cs, u.oneCell' = true) (hel : R w NoG cs el)
    (h63 : l.length + 1 ≤ maxLen) (hbytes : (l.length + 1) * bytes ≤ 140737488355328) (hbase : base ≤ w.heap.size)
    (h : ∀ g cap w', OwnSl size R e base w' (.slice (some ⟨g, 0, none⟩) (l.length + 1) cap) (l ++ [el]) → w.grownBy w' v.ownBlock → (some g = v.ownBlock ∨ g = w.heap.size) → K (a.put o.dst (.slice (some ⟨g, 0, none⟩) (l.length + 1) cap)) w') :
    if Region.wanted o (yielded ops a.tmps) = true then Oper.wp P o a w K Q else E := by
  have hw : Region.wanted o (yielded ops a.tmps) = true := by simp [Region.wanted, hgd]
  rw [if_pos hw]
  obtain ⟨i, z, e1, e2, e3, e4, e5, e6, e7⟩ := hE
  obtain ⟨css, hlen, ho', hsz, hel'⟩ := hown
  obtain ⟨v', w', hr, h2, h3, _, h4⟩ := run_append_own_at (P := P) w base t o.type e i z size bytes e1 e2 e3 e4 e5 e6 e7 v l.length css.flatten ho' ad 1 c cs (by omega) hcell h1 h63 hbytes hbase
  unfold Oper.wp execOp
  simp only [ho, resolve, invoke, builtin, Sem.run_bind, Sem.run_pure, Result.andThen_ok, List.map_toArray, List.map_cons, List.map_nil, hs, hx, hr]
  have hnew : OwnG size R e base w' v' NoG (l ++ [el]) := OwnG.snoc hR hlen hsz hel' h2 (Same.grown h3 fun b hb => hb.elim) hl hel
  obtain ⟨xs, _, ⟨_, h0⟩ | ⟨g, cap, cur, rfl, _⟩⟩ := hnew.owns
  · simp at h0
  · simp only [List.length_append, List.length_cons, List.length_nil, Nat.zero_add] at h4 hnew ⊢
    refine h g cap w' hnew h3 ?_
    rcases h4 with h4 | h4
    · exact .inl h4
    · exact .inr (by simpa [Value.ownBlock] using h4)

theorem Only.undrew {g : Nat} {a w : World} (h : Only g a.drew w) : Only g a w := ⟨h.os, h.tape, h.output, h.size, h.block⟩
/-- A slice literal is a row of the call's own. -/
theorem own_lit {α : Type} {size e : Nat} {R : World → (Nat → Prop) → List Value → α → Prop} (w : World) (css : List (List Value)) (l : List α) (hl : css.length = l.length) (hsz : ∀ cs ∈ css, cs.length = size) (hm : l.length ≤ maxLen)
    (hel : ∀ (i : Nat) (a : α) (cs : List Value), l[i]? = some a → css[i]? = some cs → R (w.alloc (.cells css.flatten.toArray e)) NoG cs a) :
    OwnSl size R e w.heap.size (w.alloc (.cells css.flatten.toArray e)) (.slice (some ⟨w.heap.size, 0, none⟩) l.length l.length) l := by
  have hf : css.flatten.length = css.length * size := by
    clear hl hel
    induction css with
    | nil => simp
    | cons x css ih => rw [List.flatten_cons, List.length_append, ih (fun cs hc => hsz cs (by simp [hc])), hsz x (by simp), List.length_cons, Nat.succ_mul]; omega
  refine ⟨css, hl, ⟨by rw [hf, hl], .inr ⟨w.heap.size, l.length, css.flatten.toArray, rfl, Nat.le_refl _, heap_alloc_new w _, Nat.le_refl _, hm, by simp only [List.size_toArray]; rw [hf, hl], ?_⟩⟩, hsz, hel⟩
  rw [List.take_of_length_le (by rw [hf, hl]; exact Nat.le_refl _)]
def TextPost (w : World) (r : List UInt8 × Int) (e : Ending) (w' : World) : Prop := e = .returned (.tuple #[.string (S r.1), .int .i64 r.2]) ∧ Below w.heap.size w w'
def noD : Value := .slice none 0 0
end Go.Proofs.YtfnfbojaiikigaaGreatDoor
