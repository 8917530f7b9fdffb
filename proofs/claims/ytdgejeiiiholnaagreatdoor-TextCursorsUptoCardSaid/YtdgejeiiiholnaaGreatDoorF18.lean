/- The contract of the law's 'called': the kinds 2, 6 and 7; all kinds. -/
import Derived.Test.YtdgejeiiiholnaaGreatDoorF17
set_option linter.unusedSimpArgs false
set_option linter.unusedVariables false
namespace Go.Proofs.YtdgejeiiiholnaaGreatDoor
open Go.RowKit

theorem more_eq {a b : Cur} (h : Cur.sim a b) : b.more = a.more := h.more.symm

set_option maxRecDepth 100000 in
set_option maxHeartbeats 4000000 in
theorem called_7 (a b : Cur) (k : Nat) (hk : k < 256) (hm : k % 8 = 7) (lo hi : Int) (wd : ByteArray) (F F' : Nat → Prop) (ga gb : Nat) (w W : World) (h : Two w W F F' ga gb a b) (hs : Cur.sim a b) (hg : GlobN w) (hlen : ∀ f ∈ a.fields, f.text.length ≤ 1000000000) :
    Calls Tryz.prog 18 #[.pointer (some ⟨ga, 0, none⟩), .pointer (some ⟨gb, 0, none⟩), .agg #[.int .u8 k, .int .i64 lo, .int .i64 hi, .string wd]] W (CallsPost w F F' ga gb (a) (b)) := by
  have hlen2 : ∀ f ∈ b.fields, f.text.length ≤ 1000000000 := by rw [← hs.fields]; exact hlen
  have hbox := Box2.new h (callCells k lo hi wd)
  have hz : ((k : Int) % 8) = 7 := by omega
  have c0 : (W.alloc (.cells (callCells k lo hi wd) 45)).cell? ⟨W.heap.size, 0, none⟩ = some (.int .u8 k) := hbox.blk.cell 0
  have KA := Lib.hid (fun W0 (W0h : CurAt W0 F ga a) => cur_More a F ga W0 W0h)
  have KB := Lib.hid (fun W0 (W0h : RCurAt W0 F' gb b) => rcur_More b F' gb W0 W0h)
  rw [more_eq hs] at KB
  have H := Lib.hid hbox
  clear h hs hg hlen hlen2 hbox hm
  go_enter Tryz.func18, Tryz.ntmps18
  go_wp2_with (first
    | (go_at_call 19; refine (KA.out _ H.out.two.ca).mono ?_; rintro e w2 ⟨rfl, n2, rfl⟩; have H2 := Lib.hid (H.out.below (Below.drewN_ (Below.refl _ _) n2)))
    | (go_at_call 20; refine (KB.out _ H2.out.two.rb).mono ?_; rintro e w3 ⟨rfl, n3, rfl⟩; have H3 := Lib.hid (H2.out.below (Below.drewN_ (Below.refl _ _) n3))))
  go_ret
  exact ⟨rfl, (H.out.below (Below.drewN_ (Below.refl _ _) _)).two⟩

set_option maxRecDepth 100000 in
set_option maxHeartbeats 4000000 in
theorem called_6 (a b : Cur) (k : Nat) (hk : k < 256) (hm : k % 8 = 6) (lo hi : Int) (wd : ByteArray) (F F' : Nat → Prop) (ga gb : Nat) (w W : World) (h : Two w W F F' ga gb a b) (hs : Cur.sim a b) (hg : GlobN w) (hlen : ∀ f ∈ a.fields, f.text.length ≤ 1000000000) :
    Calls Tryz.prog 18 #[.pointer (some ⟨ga, 0, none⟩), .pointer (some ⟨gb, 0, none⟩), .agg #[.int .u8 k, .int .i64 lo, .int .i64 hi, .string wd]] W (CallsPost w F F' ga gb (a.reject lo) (b.reject lo)) := by
  have hlen2 : ∀ f ∈ b.fields, f.text.length ≤ 1000000000 := by rw [← hs.fields]; exact hlen
  have hbox := Box2.new h (callCells k lo hi wd)
  have hz : ((k : Int) % 8) = 6 := by omega
  have c0 : (W.alloc (.cells (callCells k lo hi wd) 45)).cell? ⟨W.heap.size, 0, none⟩ = some (.int .u8 k) := hbox.blk.cell 0
  have c1 : (W.alloc (.cells (callCells k lo hi wd) 45)).cell? ⟨W.heap.size, 1, none⟩ = some (.int .i64 lo) := hbox.blk.cell 1
  have hs2 := hs.reject lo
  obtain ⟨a', ha⟩ : ∃ a', a' = a.reject lo := ⟨_, rfl⟩
  obtain ⟨b', hb⟩ : ∃ b', b' = b.reject lo := ⟨_, rfl⟩
  rw [← ha, ← hb] at hs2 ⊢
  have KA := Lib.hid (fun W0 (W0h : CurAt W0 F ga a) => cur_Reject a lo F ga W0 W0h)
  have KB := Lib.hid (fun W0 (W0h : RCurAt W0 F' gb b) => rcur_Reject b lo F' gb W0 W0h)
  rw [← ha] at KA
  rw [← hb] at KB
  have MA := Lib.hid (fun W0 (W0h : CurAt W0 F ga a') => cur_More a' F ga W0 W0h)
  have MB := Lib.hid (fun W0 (W0h : RCurAt W0 F' gb b') => rcur_More b' F' gb W0 W0h)
  rw [more_eq hs2] at MB
  have H := Lib.hid hbox
  clear h hs hg hlen hlen2 hbox hm ha hb hs2
  go_enter Tryz.func18, Tryz.ntmps18
  go_wp2_with (first
    | (go_at_call 23; refine (KA.out _ H.out.two.ca).mono ?_; rintro e w4 ⟨rfl, hc4, ho4⟩; have H4 := Lib.hid (H.out.stepA hc4 ho4); have y4 : w4.cell? ⟨W.heap.size, 1, none⟩ = some (.int .i64 lo) := H4.out.blk.cell 1; clear hc4 ho4)
    | (go_at_call 61; refine (KB.out _ H4.out.two.rb).mono ?_; rintro e w5 ⟨rfl, hc5, ho5⟩; have H5 := Lib.hid (H4.out.stepB hc5 ho5); clear hc5 ho5)
    | (go_at_call 19; refine (MA.out _ H5.out.two.ca).mono ?_; rintro e w2 ⟨rfl, n2, rfl⟩; have H2 := Lib.hid (H5.out.below (Below.drewN_ (Below.refl _ _) n2)))
    | (go_at_call 20; refine (MB.out _ H2.out.two.rb).mono ?_; rintro e w3 ⟨rfl, n3, rfl⟩; have H3 := Lib.hid (H2.out.below (Below.drewN_ (Below.refl _ _) n3))))
  go_ret
  exact ⟨rfl, (H5.out.below (Below.drewN_ (Below.refl _ _) _)).two⟩

set_option maxRecDepth 100000 in
set_option maxHeartbeats 4000000 in
theorem called_2 (a b : Cur) (k : Nat) (hk : k < 256) (hm : k % 8 = 2) (lo hi : Int) (wd : ByteArray) (F F' : Nat → Prop) (ga gb : Nat) (w W : World) (h : Two w W F F' ga gb a b) (hs : Cur.sim a b) (hg : GlobN w) (hlen : ∀ f ∈ a.fields, f.text.length ≤ 1000000000) :
    Calls Tryz.prog 18 #[.pointer (some ⟨ga, 0, none⟩), .pointer (some ⟨gb, 0, none⟩), .agg #[.int .u8 k, .int .i64 lo, .int .i64 hi, .string wd]] W (CallsPost w F F' ga gb ((a.oneOf (wordsC wd.data.toList)).1) ((b.oneOf (wordsC wd.data.toList)).1)) := by
  have hlen2 : ∀ f ∈ b.fields, f.text.length ≤ 1000000000 := by rw [← hs.fields]; exact hlen
  have hbox := Box2.new h (callCells k lo hi wd)
  have hz : ((k : Int) % 8) = 2 := by omega
  have c0 : (W.alloc (.cells (callCells k lo hi wd) 45)).cell? ⟨W.heap.size, 0, none⟩ = some (.int .u8 k) := hbox.blk.cell 0
  obtain ⟨⟨a', t⟩, ha⟩ : ∃ r, r = a.oneOf (wordsC wd.data.toList) := ⟨_, rfl⟩
  obtain ⟨⟨b', t'⟩, hb⟩ : ∃ r, r = b.oneOf (wordsC wd.data.toList) := ⟨_, rfl⟩
  have hsm := hs.oneOf (wordsC wd.data.toList)
  rw [← ha, ← hb] at hsm
  obtain ⟨_, rfl⟩ : Cur.sim a' b' ∧ t = t' := hsm
  rw [← ha, ← hb]
  have KA := Lib.hid (fun W0 (W0h : CurAt W0 F ga a) v G hv hG => cur_OneOf a v (wordsC wd.data.toList) G F ga W0 W0h hv hG)
  have KB := Lib.hid (fun W0 (W0h : RCurAt W0 F' gb b) v G hv hG => rcur_OneOf b v (wordsC wd.data.toList) G F' gb W0 W0h hv hG)
  rw [← ha] at KA
  rw [← hb] at KB
  obtain ⟨W1, hW1⟩ : ∃ W1, W1 = W.alloc (.cells (callCells k lo hi wd) 45) := ⟨_, rfl⟩
  have HW1 := Lib.hid hW1
  have H := Lib.hid hbox
  clear h hs hg hlen hlen2 hbox ha hb hm hW1
  go_enter Tryz.func18, Tryz.ntmps18
  go_wp2
  rw [← HW1.out] at c0 H ⊢
  obtain ⟨g, hg⟩ : ∃ g, g = W.heap.size := ⟨_, rfl⟩
  rw [← hg] at c0 H ⊢
  clear hg c0
  have y3 : W1.cell? ⟨g, 3, none⟩ = some (.string wd) := H.out.blk.cell 3
  have ARM := Lib.hid fun (W9 : World) (o : Obj) (a b : Cur) (h : Box2 w W9 F F' ga gb g a b (callCells k lo hi wd)) => (h.alloc o)
  have gal : ∀ W9, Box2 w W9 F F' ga gb g a b (callCells k lo hi wd) → ∀ b9, b9 = W9.heap.size → b9 < (W9.alloc (.cells #[.string ⟨#[65]⟩, .string wd, .string ⟨#[49, 50]⟩, .string ⟨#[65]⟩] 9)).heap.size ∧ b9 ≠ ga := fun W9 h9 b9 hb => by
    have := h9.two.ca.lt
    exact ⟨by rw [hb]; simp, by omega⟩
  have gbl : ∀ W9, Box2 w W9 F F' ga gb g a' b (callCells k lo hi wd) → ∀ b9, b9 = W9.heap.size → b9 < (W9.alloc (.cells #[.string ⟨#[65]⟩, .string wd, .string ⟨#[49, 50]⟩, .string ⟨#[65]⟩] 9)).heap.size ∧ b9 ≠ gb := fun W9 h9 b9 hb => by
    have := h9.two.rb.lt
    exact ⟨by rw [hb]; simp, by omega⟩
  have GA := Lib.hid gal
  have GB := Lib.hid gbl
  clear gal gbl
  have HA2 := Lib.hid (H.out.alloc (.cells #[.string ⟨#[65]⟩, .string wd, .string ⟨#[49, 50]⟩, .string ⟨#[65]⟩] 9)).drew
  have KA1 := Lib.hid (KA.out (W1.alloc (.cells #[.string ⟨#[65]⟩, .string wd, .string ⟨#[49, 50]⟩, .string ⟨#[65]⟩] 9)).drew HA2.out.two.ca (.slice (some ⟨W1.heap.size, 0, none⟩) 4 4) (fun b => b = W1.heap.size) ((fresh_words W1 wd).keep elStr_good (fun _ _ => rfl) (fun _ h => h)) (GA.out W1 H.out))
  have KB1 := Lib.hid fun W9 (h9 : Box2 w W9 F F' ga gb g a' b (callCells k lo hi wd)) => KB.out (W9.alloc (.cells #[.string ⟨#[65]⟩, .string wd, .string ⟨#[49, 50]⟩, .string ⟨#[65]⟩] 9)) (h9.alloc (.cells #[.string ⟨#[65]⟩, .string wd, .string ⟨#[49, 50]⟩, .string ⟨#[65]⟩] 9)).two.rb (.slice (some ⟨W9.heap.size, 0, none⟩) 4 4) (fun b => b = W9.heap.size) (fresh_words W9 wd) (GB.out W9 h9)
  have hz1 : (W1.alloc (.cells #[.string ⟨#[65]⟩, .string wd, .string ⟨#[49, 50]⟩, .string ⟨#[65]⟩] 9)).heap.size = W1.heap.size + 1 := by simp
  have hDD := (H.out.alloc (.cells #[.string ⟨#[65]⟩, .string wd, .string ⟨#[49, 50]⟩, .string ⟨#[65]⟩] 9)).alloc (.cells #[.string ⟨#[65]⟩, .string wd, .string ⟨#[49, 50]⟩, .string ⟨#[65]⟩] 9)
  have hw1 : Sl 1 elStr ((W1.alloc (.cells #[.string ⟨#[65]⟩, .string wd, .string ⟨#[49, 50]⟩, .string ⟨#[65]⟩] 9)).alloc (.cells #[.string ⟨#[65]⟩, .string wd, .string ⟨#[49, 50]⟩, .string ⟨#[65]⟩] 9)).drew (fun b => b = W1.heap.size) (.slice (some ⟨W1.heap.size, 0, none⟩) 4 4) (wordsC wd.data.toList) :=
    (fresh_words W1 wd).keep elStr_good (fun b hb => Below.heap_alloc _ (.cells #[.string ⟨#[65]⟩, .string wd, .string ⟨#[49, 50]⟩, .string ⟨#[65]⟩] 9) b (by rw [hb, hz1]; omega)) fun _ h => h
  have hw2 : Sl 1 elStr ((W1.alloc (.cells #[.string ⟨#[65]⟩, .string wd, .string ⟨#[49, 50]⟩, .string ⟨#[65]⟩] 9)).alloc (.cells #[.string ⟨#[65]⟩, .string wd, .string ⟨#[49, 50]⟩, .string ⟨#[65]⟩] 9)).drew (fun b => b = W1.heap.size + 1) (.slice (some ⟨W1.heap.size + 1, 0, none⟩) 4 4) (wordsC wd.data.toList) := by
    rw [← hz1]
    exact (fresh_words (W1.alloc (.cells #[.string ⟨#[65]⟩, .string wd, .string ⟨#[49, 50]⟩, .string ⟨#[65]⟩] 9)) wd).keep elStr_good (fun _ _ => rfl) fun _ h => h
  have hzz : ((W1.alloc (.cells #[.string ⟨#[65]⟩, .string wd, .string ⟨#[49, 50]⟩, .string ⟨#[65]⟩] 9)).alloc (.cells #[.string ⟨#[65]⟩, .string wd, .string ⟨#[49, 50]⟩, .string ⟨#[65]⟩] 9)).drew.heap.size = W1.heap.size + 2 := by simp
  have hlta := H.out.two.ca.lt
  have hltb := H.out.two.rb.lt
  have KA2 := Lib.hid (KA.out _ hDD.drew.two.ca _ _ hw1 (fun b hb => ⟨by rw [hb, hzz]; omega, by omega⟩))
  have HDD := Lib.hid hDD.drew
  have KA3 := Lib.hid (KA.out _ hDD.drew.two.ca _ _ hw2 (fun b hb => ⟨by rw [hb, hzz]; omega, by omega⟩))
  have KB3 := Lib.hid fun W9 (h9 : Box2 w W9 F F' ga gb g a' b (callCells k lo hi wd)) (ho : Only ga ((W1.alloc (.cells #[.string ⟨#[65]⟩, .string wd, .string ⟨#[49, 50]⟩, .string ⟨#[65]⟩] 9)).alloc (.cells #[.string ⟨#[65]⟩, .string wd, .string ⟨#[49, 50]⟩, .string ⟨#[65]⟩] 9)).drew W9) => KB.out W9 h9.two.rb (.slice (some ⟨W1.heap.size, 0, none⟩) 4 4) (fun b => b = W1.heap.size) (hw1.keep elStr_good (ho.same fun b hb => ⟨by rw [hb, hzz]; omega, by omega⟩) fun _ h => h)
    (fun b hb => ⟨by have := ho.size; rw [hzz] at this; omega, by omega⟩)
  have KB2 := Lib.hid fun W9 (h9 : Box2 w W9 F F' ga gb g a' b (callCells k lo hi wd)) (ho : Only ga ((W1.alloc (.cells #[.string ⟨#[65]⟩, .string wd, .string ⟨#[49, 50]⟩, .string ⟨#[65]⟩] 9)).alloc (.cells #[.string ⟨#[65]⟩, .string wd, .string ⟨#[49, 50]⟩, .string ⟨#[65]⟩] 9)).drew W9) => KB.out W9 h9.two.rb (.slice (some ⟨W1.heap.size + 1, 0, none⟩) 4 4) (fun b => b = W1.heap.size + 1) (hw2.keep elStr_good (ho.same fun b hb => ⟨by rw [hb, hzz]; omega, by omega⟩) fun _ h => h)
    (fun b hb => ⟨by have := ho.size; rw [hzz] at this; omega, by omega⟩)
  clear hz1 hDD hw1 hw2 hzz hlta hltb
  go_region_held3 (fun w' => w'.cell? ⟨g, 3, none⟩ = some (.string wd)) (first | exact y3 | go_keep) (first
    | (go_at_call 26; ((with_reducible refine KA2.out.mono ?_); rintro e w2 ⟨rfl, hc2, ho2⟩; have H2 := Lib.hid (HDD.out.stepA hc2 ho2); have HO2 := Lib.hid ho2; have y3 : w2.cell? ⟨g, 3, none⟩ = some (.string wd) := H2.out.blk.cell 3; clear hc2 ho2))
    | (go_at_call 57; ((with_reducible refine (KB2.out _ H2.out HO2.out).mono ?_); rintro e w3 ⟨rfl, hc3, ho3⟩; have H3 := Lib.hid (H2.out.stepB hc3 ho3); have y3 : w3.cell? ⟨g, 3, none⟩ = some (.string wd) := H3.out.blk.cell 3; clear hc3 ho3))
    | (go_at_call 26; ((with_reducible refine KA3.out.mono ?_); rintro e w2 ⟨rfl, hc2, ho2⟩; have H2 := Lib.hid (HDD.out.stepA hc2 ho2); have HO2 := Lib.hid ho2; have y3 : w2.cell? ⟨g, 3, none⟩ = some (.string wd) := H2.out.blk.cell 3; clear hc2 ho2))
    | (go_at_call 57; ((with_reducible refine (KB3.out _ H2.out HO2.out).mono ?_); rintro e w3 ⟨rfl, hc3, ho3⟩; have H3 := Lib.hid (H2.out.stepB hc3 ho3); have y3 : w3.cell? ⟨g, 3, none⟩ = some (.string wd) := H3.out.blk.cell 3; clear hc3 ho3))
    | (go_at_call 26; ((with_reducible refine KA1.out.mono ?_); rintro e w2 ⟨rfl, hc2, ho2⟩; have H2 := Lib.hid (HA2.out.stepA hc2 ho2); have y3 : w2.cell? ⟨g, 3, none⟩ = some (.string wd) := H2.out.blk.cell 3; clear hc2 ho2))
    | (go_at_call 57; ((with_reducible refine (KB1.out _ H2.out).mono ?_); rintro e w3 ⟨rfl, hc3, ho3⟩; have H3 := Lib.hid ((H2.out.alloc (.cells #[.string ⟨#[65]⟩, .string wd, .string ⟨#[49, 50]⟩, .string ⟨#[65]⟩] 9)).stepB hc3 ho3); have y3 : w3.cell? ⟨g, 3, none⟩ = some (.string wd) := H3.out.blk.cell 3; clear hc3 ho3)))
  all_goals go_wp2
  all_goals go_ret
  all_goals exact ⟨rfl, H3.out.two⟩

theorem law_called (a b : Cur) (k : Nat) (hk : k < 256) (lo hi : Int) (wd : ByteArray) (F F' : Nat → Prop) (ga gb : Nat) (w W : World) (h : Two w W F F' ga gb a b) (hs : Cur.sim a b) (hg : GlobN w) (hlen : ∀ f ∈ a.fields, f.text.length ≤ 1000000000) :
    Calls Tryz.prog 18 #[.pointer (some ⟨ga, 0, none⟩), .pointer (some ⟨gb, 0, none⟩), .agg #[.int .u8 k, .int .i64 lo, .int .i64 hi, .string wd]] W (CallsPost w F F' ga gb (calledA a (k % 8) lo hi wd.data.toList) (calledB b (k % 8) lo hi wd.data.toList)) := by
  obtain ⟨m, hm⟩ : ∃ m, m = k % 8 := ⟨_, rfl⟩
  rw [← hm]
  have hm8 : m < 8 := by omega
  match m, hm8, hm with
  | 0, _, hm => exact called_0 a b k hk hm.symm lo hi wd F F' ga gb w W h hs hg hlen
  | 1, _, hm => exact called_1 a b k hk hm.symm lo hi wd F F' ga gb w W h hs hg hlen
  | 2, _, hm => exact called_2 a b k hk hm.symm lo hi wd F F' ga gb w W h hs hg hlen
  | 3, _, hm => exact called_3 a b k hk hm.symm lo hi wd F F' ga gb w W h hs hg hlen
  | 4, _, hm => exact called_4 a b k hk hm.symm lo hi wd F F' ga gb w W h hs hg hlen
  | 5, _, hm => exact called_5 a b k hk hm.symm lo hi wd F F' ga gb w W h hs hg hlen
  | 6, _, hm => exact called_6 a b k hk hm.symm lo hi wd F F' ga gb w W h hs hg hlen
  | 7, _, hm => exact called_7 a b k hk hm.symm lo hi wd F F' ga gb w W h hs hg hlen
end Go.Proofs.YtdgejeiiiholnaaGreatDoor
