/- Plain specifications of the office: the register of players, the conduct book; the laws of TopEligible. -/
import Derived.Test.YtajcnjehjkpieaaPP
import Derived.Lib.SlicesCompact
import Derived.Lib.SlicesS
set_option linter.unusedSimpArgs false
set_option linter.unusedVariables false
namespace Go.Proofs.Ytajcnjehjkpieaa
open Go.RowKit

structure Tra where
  player : List UInt8
  team : List UInt8
  day : Int
structure Win where
  fr : Int
  til : Int
structure Off where
  id : Int
  player : List UInt8
  day : Int
  pts : Int
def tr (l : List Tra) (k : Nat) : Tra := l.getD k ⟨[], [], 0⟩
def wi (l : List Win) (k : Nat) : Win := l.getD k ⟨0, 0⟩
def ofn (l : List Off) (k : Nat) : Off := l.getD k ⟨0, [], 0, 0⟩
theorem tr_at {l : List Tra} {k : Nat} (h : k < l.length) : l[k] = tr l k := by simp [tr, List.getD_eq_getElem?_getD, h]
theorem wi_at {l : List Win} {k : Nat} (h : k < l.length) : l[k] = wi l k := by simp [wi, List.getD_eq_getElem?_getD, h]
theorem ofn_at {l : List Off} {k : Nat} (h : k < l.length) : l[k] = ofn l k := by simp [ofn, List.getD_eq_getElem?_getD, h]

def isDayB (n : Int) : Bool := decide (0 ≤ n) && decide (n ≤ 1000000)
/-- The first number that is not 0. -/
def fst0 (f : Nat → Int) : Nat → Nat → Int
  | 0, _ => 0
  | n + 1, k => if f k ≠ 0 then f k else fst0 f n (k + 1)
/-- The same with its place. -/
def fstI (f : Nat → Int) : Nat → Nat → Int × Int
  | 0, _ => (-1, 0)
  | n + 1, k => if f k ≠ 0 then ((k : Int), f k) else fstI f n (k + 1)
theorem fst0_zero {f : Nat → Int} : ∀ {n k : Nat}, fst0 f n k = 0 → ∀ j, k ≤ j → j < k + n → f j = 0
  | 0, k, _, j, h1, h2 => absurd h1 (by omega)
  | n + 1, k, h, j, h1, h2 => by
    unfold fst0 at h
    by_cases hk : f k = 0
    · rw [if_neg (by simp [hk])] at h
      by_cases hj : j = k
      · rw [hj]; exact hk
      · exact fst0_zero h j (by omega) (by omega)
    · rw [if_pos hk] at h; exact absurd h hk
theorem fst0_err {f : Nat → Int} {n k : Nat} {e : Int} (hk : k < n) (h : f k = e) (he : e ≠ 0) : fst0 f (n - k) k = e := by
  rw [show n - k = n - (k + 1) + 1 by omega, fst0, if_pos (by rw [h]; exact he), h]
theorem fst0_next {f : Nat → Int} {n k : Nat} (hk : k < n) (h : f k = 0) : fst0 f (n - k) k = fst0 f (n - (k + 1)) (k + 1) := by
  rw [show n - k = n - (k + 1) + 1 by omega, fst0, if_neg (by simp [h])]
theorem fstI_err {f : Nat → Int} {n k : Nat} {e : Int} (hk : k < n) (h : f k = e) (he : e ≠ 0) : fstI f (n - k) k = ((k : Int), e) := by
  rw [show n - k = n - (k + 1) + 1 by omega, fstI, if_pos (by rw [h]; exact he), h]
theorem fstI_next {f : Nat → Int} {n k : Nat} (hk : k < n) (h : f k = 0) : fstI f (n - k) k = fstI f (n - (k + 1)) (k + 1) := by
  rw [show n - k = n - (k + 1) + 1 by omega, fstI, if_neg (by simp [h])]
def winE (w : List Win) (k : Nat) : Int :=
  if !isDayB (wi w k).fr || !isDayB (wi w k).til then 2
  else if decide ((wi w k).til < (wi w k).fr) || (decide (0 < k) && decide ((wi w k).fr ≤ (wi w (k - 1)).til)) then 8 else 0
def winS (w : List Win) : Int := if 32 < w.length then 9 else fst0 (winE w) w.length 0
/-- The team of a player's last entry before one. -/
def befT (l : List Tra) (p : List UInt8) : Nat → List UInt8
  | 0 => []
  | k + 1 => if (tr l k).player = p then (tr l k).team else befT l p k
/-- How two numbers and two names compare. -/
def cmpN (a b : Int) : Int := if a < b then -1 else if b < a then 1 else 0
def cmpB (a b : List UInt8) : Int := if Op.bytesLess a b then -1 else if a == b then 0 else 1
def orI (a b : Int) : Int := if a ≠ 0 then a else b
def ordT (a b : Tra) : Int := orI (cmpN a.day b.day) (cmpB a.player b.player)
def openW (w : List Win) (d : Int) : Bool := w.any fun x => decide (x.fr ≤ d) && decide (d ≤ x.til)
def traE (w : List Win) (l : List Tra) (k : Nat) : Int :=
  if !nameS (tr l k).player || ((tr l k).team != [] && !nameS (tr l k).team) then 5
  else if !isDayB (tr l k).day then 2
  else if decide (0 < k) && decide (0 ≤ ordT (tr l (k - 1)) (tr l k)) then 8
  else if (tr l k).team == befT l (tr l k).player k then 1
  else if (tr l k).team != [] && befT l (tr l k).player k != [] && !openW w (tr l k).day then 15 else 0
def regS (w : List Win) (l : List Tra) : Int × Int :=
  if winS w ≠ 0 then (-1, winS w) else if 2000 < l.length then (-1, 9) else fstI (traE w l) l.length 0
/-- The last entry of a player up to a day. -/
def lastF (l : List Tra) (p : List UInt8) (d : Int) : Nat → Option Nat
  | 0 => none
  | k + 1 => if (tr l k).player = p ∧ (tr l k).day ≤ d then some k else lastF l p d k
def optI : Option Nat → Int
  | none => -1
  | some k => k
def teamD (l : List Tra) (p : List UInt8) (d : Int) : List UInt8 := match lastF l p d l.length with
  | none => []
  | some i => (tr l i).team
def farB (d e : Int) : Bool := decide (7 ≤ IntKind.u64.wrap (IntKind.u64.wrap d - IntKind.u64.wrap e))
def eligS (l : List Tra) (p t : List UInt8) (d : Int) : Bool := match lastF l p d l.length with
  | none => false
  | some i => t != [] && (tr l i).team == t && (befT l (tr l i).player i == [] || farB d (tr l i).day)
def squadR (l : List Tra) (t : List UInt8) (d : Int) : List (List UInt8) := (l.filter fun x => t != [] && teamD l x.player d == t).map (·.player)
def squadS (l : List Tra) (t : List UInt8) (d : Int) : List (List UInt8) := Lib.compact ((squadR l t d).mergeSort fun x y => decide (x ≤ y))

theorem lastF_some {l : List Tra} {p : List UInt8} {d : Int} : ∀ {n i : Nat}, lastF l p d n = some i → i < n ∧ (tr l i).player = p
  | 0, i, h => by cases h
  | n + 1, i, h => by
    unfold lastF at h
    by_cases hk : (tr l n).player = p ∧ (tr l n).day ≤ d
    · rw [if_pos hk] at h; injection h with h; subst h; exact ⟨by omega, hk.1⟩
    · rw [if_neg hk] at h; obtain ⟨h1, h2⟩ := lastF_some h; exact ⟨by omega, h2⟩
theorem compact_mem {α : Type} [Inhabited α] [DecidableEq α] (zs : List α) : ∀ n, n ≤ zs.length → ∀ j, j < n → zs.toArray[j]! ∈ Lib.compactUpTo zs.toArray n
  | 0, _, j, hj => absurd hj (by omega)
  | n + 1, hn, j, hj => by
    rw [Lib.compactUpTo_succ]
    by_cases hjn : j < n
    · exact List.mem_append_left _ (compact_mem zs n (by omega) j hjn)
    · obtain rfl : j = n := by omega
      by_cases hk : Lib.keeps zs.toArray j = true
      · rw [if_pos hk]; simp
      · have h0 : j ≠ 0 := fun h => hk (by simp [Lib.keeps, h])
        have he : zs.toArray[j]! = zs.toArray[j - 1]! := by
          by_cases he : zs.toArray[j]! = zs.toArray[j - 1]!
          · exact he
          · exact absurd (Lib.keeps_pos he) hk
        rw [he]
        exact List.mem_append_left _ (compact_mem zs j (by omega) (j - 1) (by omega))
theorem mem_compactE {α : Type} [Inhabited α] [DecidableEq α] {zs : List α} {x : α} (h : x ∈ zs) : x ∈ Lib.compact zs := by
  obtain ⟨j, hj, rfl⟩ := List.getElem_of_mem h
  have := compact_mem zs zs.length (Nat.le_refl _) j hj
  rw [getElem!_pos zs.toArray j (by simpa using hj)] at this
  simpa [Lib.compact] using this
/-- Whoever may play for a team is in its squad, and the team is the player's. -/
theorem elig_law {l : List Tra} {p t : List UInt8} {d : Int} (h : eligS l p t d = true) : p ∈ squadS l t d ∧ teamD l p d = t ∧ ∃ i, i < l.length ∧ (tr l i).player = p ∧ (tr l i).team = t := by
  unfold eligS at h
  cases hl : lastF l p d l.length with
  | none => rw [hl] at h; cases h
  | some i =>
    rw [hl] at h
    simp only [Bool.and_eq_true, bne_iff_ne, beq_iff_eq] at h
    obtain ⟨⟨h1, h2⟩, _⟩ := h
    obtain ⟨hi, hp⟩ := lastF_some hl
    have ht : teamD l p d = t := by unfold teamD; rw [hl]; exact h2
    refine ⟨?_, ht, i, hi, hp, h2⟩
    refine mem_compactE ((List.mergeSort_perm _ _).symm.subset ?_)
    refine List.mem_map.2 ⟨tr l i, List.mem_filter.2 ⟨?_, by rw [hp, ht]; simp [h1]⟩, hp⟩
    rw [← tr_at hi]; exact List.getElem_mem hi

/- The conduct book. -/
def offE (l : List Off) (k : Nat) : Int :=
  if decide ((ofn l k).id < 1) || decide (1099511627776 < (ofn l k).id) then 2
  else if !nameS (ofn l k).player then 5
  else if !isDayB (ofn l k).day || decide ((ofn l k).pts < 1) || decide (8 < (ofn l k).pts) then 2
  else if decide (0 < k) && decide (0 ≤ orI (cmpN (ofn l (k - 1)).day (ofn l k).day) (cmpN (ofn l (k - 1)).id (ofn l k).id)) then 8
  else if (l.take k).any (fun x => x.id == (ofn l k).id) then 7 else 0
def conS (l : List Off) : Int := if 2000 < l.length then 9 else fst0 (offE l) l.length 0
def countsB (p : List UInt8) (d : Int) (x : Off) : Bool := x.player == p && decide (x.day ≤ d) && decide (wrap64 (d - 730) < x.day)
def ptsS (l : List Off) (p : List UInt8) (d : Int) : Int := l.foldl (fun n x => if countsB p d x then n + x.pts else n) 0
def matS (l : List Int) : Int :=
  if 400 < l.length then 9 else if l.any (fun d => !isDayB d) then 2 else fst0 (fun k => if l.getD (k + 1) 0 ≤ l.getD k 0 then 8 else 0) (l.length - 1) 0
def costS (l : List Off) (p : List UInt8) (k : Nat) : Int := 2 * ((ptsS (l.take k) p (ofn l k).day + (ofn l k).pts).tdiv 4 - (ptsS (l.take k) p (ofn l k).day).tdiv 4)
/-- Marks of an offence's matches, from match k on. -/
def markF (ms : List Int) (day : Int) : Nat → Nat → List Bool → Int → List Bool
  | 0, _, m, _ => m
  | n + 1, k, m, c => if decide (0 < c) && decide (day < ms.getD k 0) && !(m.getD k false) then markF ms day n (k + 1) (m.set k true) (c - 1) else markF ms day n (k + 1) m c
def susF (l : List Off) (p : List UInt8) (ms : List Int) : Nat → Nat → List Bool → List Bool
  | 0, _, m => m
  | n + 1, k, m => if (ofn l k).player = p then susF l p ms n (k + 1) (markF ms (ofn l k).day ms.length 0 m (costS l p k)) else susF l p ms n (k + 1) m
def marksS (l : List Off) (p : List UInt8) (ms : List Int) : List Bool := susF l p ms l.length 0 (List.replicate ms.length false)
/-- The matches that are marked, of the first k. -/
def outF (ms : List Int) (m : List Bool) : Nat → List Int
  | 0 => []
  | k + 1 => if m.getD k false then outF ms m k ++ [ms.getD k 0] else outF ms m k
def susS (l : List Off) (p : List UInt8) (ms : List Int) : List Int × Int :=
  if conS l ≠ 0 then ([], conS l) else if matS ms ≠ 0 then ([], matS ms) else (outF ms (marksS l p ms) ms.length, 0)
def totS (l : List Off) (p : List UInt8) : Int := l.foldl (fun n x => if x.player = p then n + x.pts else n) 0

def cntB (m : List Bool) : Nat := m.countP id
theorem cnt_set {m : List Bool} {k : Nat} : cntB (m.set k true) ≤ cntB m + 1 := by
  unfold cntB
  induction m generalizing k with
  | nil => simp
  | cons b m ih =>
    cases k with
    | zero => cases b <;> simp
    | succ k => have := ih (k := k); cases b <;> simp at this ⊢ <;> omega
theorem markF_len (ms : List Int) (day : Int) : ∀ (n k : Nat) (m : List Bool) (c : Int), (markF ms day n k m c).length = m.length
  | 0, _, _, _ => rfl
  | n + 1, k, m, c => by
    unfold markF
    split
    · rw [markF_len]; simp
    · exact markF_len ..
theorem markF_cnt (ms : List Int) (day : Int) : ∀ (n k : Nat) (m : List Bool) (c : Int), (cntB (markF ms day n k m c) : Int) ≤ cntB m + max c 0
  | 0, _, m, c => by unfold markF; omega
  | n + 1, k, m, c => by
    unfold markF
    split
    · rename_i h
      simp only [Bool.and_eq_true, decide_eq_true_eq] at h
      have := markF_cnt ms day n (k + 1) (m.set k true) (c - 1)
      have h2 := cnt_set (m := m) (k := k)
      have := h.1.1
      omega
    · exact markF_cnt ..
theorem outF_len (ms : List Int) (m : List Bool) : ∀ k, (outF ms m k).length ≤ cntB (m.take k)
  | 0 => by simp [outF]
  | k + 1 => by
    have ih := outF_len ms m k
    have ht : cntB (m.take k) ≤ cntB (m.take (k + 1)) := by
      unfold cntB
      exact List.Sublist.countP_le (List.take_sublist_take_left (by omega))
    unfold outF
    split
    · rename_i h
      have hk : k < m.length := by
        by_cases hk : k < m.length
        · exact hk
        · simp [List.getD_eq_getElem?_getD, hk] at h
      have hm : m[k] = true := by simpa [List.getD_eq_getElem?_getD, hk] using h
      have : cntB (m.take (k + 1)) = cntB (m.take k) + 1 := by
        unfold cntB
        rw [List.take_succ_eq_append_getElem hk, List.countP_append, hm]
        rfl
      simp; omega
    · omega
theorem cost_le {l : List Off} {p : List UInt8} {k : Nat} (hb : 0 ≤ ptsS (l.take k) p (ofn l k).day) (hx : 1 ≤ (ofn l k).pts) : costS l p k ≤ 2 * ((ofn l k).pts / 4 + 1) := by
  unfold costS
  rw [Int.tdiv_eq_ediv_of_nonneg (by omega), Int.tdiv_eq_ediv_of_nonneg hb]
  omega
theorem pts_go (p : List UInt8) (d : Int) : ∀ (l : List Off) (n : Int), 0 ≤ n → (∀ x ∈ l, 1 ≤ x.pts) → 0 ≤ l.foldl (fun n x => if countsB p d x then n + x.pts else n) n
  | [], n, h, _ => h
  | x :: l, n, h, hx => by
    have := hx x (List.mem_cons_self ..)
    exact pts_go p d l _ (by dsimp only; split <;> omega) fun y hy => hx y (List.mem_cons_of_mem _ hy)
theorem susF_cnt {l : List Off} {p : List UInt8} {ms : List Int} (hl : ∀ x ∈ l, 1 ≤ x.pts) : ∀ (n k : Nat) (m : List Bool), k + n ≤ l.length → (∃ S : Int, 0 ≤ S ∧ (cntB m : Int) ≤ 2 * (S / 4 + k) ∧ S = totS (l.take k) p) → ∃ S : Int, (cntB (susF l p ms n k m) : Int) ≤ 2 * (S / 4 + ((k + n : Nat) : Int)) ∧ S = totS (l.take (k + n)) p
  | 0, k, m, _, ⟨S, h0, h1, h2⟩ => ⟨S, by unfold susF; omega, by rw [Nat.add_zero]; exact h2⟩
  | n + 1, k, m, hk, ⟨S, h0, h1, h2⟩ => by
    have hlt : k < l.length := by omega
    have hx : 1 ≤ (ofn l k).pts := by rw [← ofn_at hlt]; exact hl _ (List.getElem_mem hlt)
    have ht : totS (l.take (k + 1)) p = if (ofn l k).player = p then S + (ofn l k).pts else S := by
      unfold totS at h2 ⊢
      rw [List.take_succ_eq_append_getElem hlt, List.foldl_append, ← h2, ofn_at hlt]
      rfl
    unfold susF
    by_cases hp : (ofn l k).player = p
    · rw [if_pos hp]
      rw [if_pos hp] at ht
      have hb : 0 ≤ ptsS (l.take k) p (ofn l k).day := pts_go _ _ _ _ (by omega) fun x h => hl x (List.mem_of_mem_take h)
      have hc := cost_le hb hx
      have hm := markF_cnt ms (ofn l k).day ms.length 0 m (costS l p k)
      obtain ⟨S', a, b⟩ := susF_cnt (ms := ms) hl n (k + 1) (markF ms (ofn l k).day ms.length 0 m (costS l p k)) (by omega) ⟨S + (ofn l k).pts, by omega, by push_cast; omega, ht.symm⟩
      exact ⟨S', by rw [show k + (n + 1) = k + 1 + n by omega]; exact a, by rw [show k + (n + 1) = k + 1 + n by omega]; exact b⟩
    · rw [if_neg hp]
      rw [if_neg hp] at ht
      obtain ⟨S', a, b⟩ := susF_cnt (ms := ms) hl n (k + 1) m (by omega) ⟨S, h0, by push_cast; omega, ht.symm⟩
      exact ⟨S', by rw [show k + (n + 1) = k + 1 + n by omega]; exact a, by rw [show k + (n + 1) = k + 1 + n by omega]; exact b⟩
theorem con_pts {l : List Off} (h : conS l = 0) : l.length ≤ 2000 ∧ ∀ x ∈ l, 1 ≤ x.pts ∧ x.pts ≤ 8 := by
  unfold conS at h
  by_cases hb : 2000 < l.length
  · rw [if_pos hb] at h; omega
  rw [if_neg hb] at h
  refine ⟨by omega, fun x hx => ?_⟩
  obtain ⟨k, hk, rfl⟩ := List.getElem_of_mem hx
  have h0 := fst0_zero h k (by omega) (by omega)
  rw [ofn_at hk]
  unfold offE at h0
  by_cases h1 : (decide ((ofn l k).id < 1) || decide (1099511627776 < (ofn l k).id)) = true
  · rw [if_pos h1] at h0; omega
  rw [if_neg h1] at h0
  by_cases h2 : (!nameS (ofn l k).player) = true
  · rw [if_pos h2] at h0; omega
  rw [if_neg h2] at h0
  by_cases h3 : (!isDayB (ofn l k).day || decide ((ofn l k).pts < 1) || decide (8 < (ofn l k).pts)) = true
  · rw [if_pos h3] at h0; omega
  simp only [Bool.or_eq_true, decide_eq_true_eq, not_or] at h3
  omega
/-- The points bound the matches that are missed. -/
theorem missed_le {l : List Off} {p : List UInt8} {ms : List Int} (h : conS l = 0) : ((outF ms (marksS l p ms) ms.length).length : Int) ≤ 2 * ((totS l p).tdiv 4 + l.length) := by
  have hl := fun x hx => ((con_pts h).2 x hx).1
  have h1 := outF_len ms (marksS l p ms) ms.length
  have h2 : cntB ((marksS l p ms).take ms.length) ≤ cntB (marksS l p ms) := List.Sublist.countP_le (List.take_sublist _ _)
  obtain ⟨S, a, b⟩ := susF_cnt (p := p) (ms := ms) hl l.length 0 (List.replicate ms.length false) (by omega) ⟨0, by omega, by simp [cntB, List.countP_replicate], rfl⟩
  rw [Nat.zero_add, List.take_length] at b
  rw [Nat.zero_add] at a
  have hS : 0 ≤ S := by
    rw [b]
    unfold totS
    have : ∀ (l : List Off) (n : Int), 0 ≤ n → (∀ x ∈ l, 1 ≤ x.pts) → 0 ≤ l.foldl (fun n x => if x.player = p then n + x.pts else n) n := by
      intro l
      induction l with
      | nil => intro n h _; exact h
      | cons x l ih => intro n h hx; have := hx x (List.mem_cons_self ..); exact ih _ (by dsimp only; split <;> omega) fun y hy => hx y (List.mem_cons_of_mem _ hy)
    exact this l 0 (by omega) hl
  rw [← b, Int.tdiv_eq_ediv_of_nonneg hS]
  unfold marksS at *
  omega
end Go.Proofs.Ytajcnjehjkpieaa
