/- The contract of the law's 'called': one call on both cursors. -/
import Derived.Test.YtdgejeiiiholnaaGreatDoorC5
import Derived.Test.YtdgejeiiiholnaaGreatDoorC4
import Derived.Test.YtdgejeiiiholnaaGreatDoorF16
import Derived.Test.YtdgejeiiiholnaaGreatDoorF12
import Derived.Test.YtdgejeiiiholnaaGreatDoorP39
import Derived.Deep.RegionHeld3
set_option linter.unusedSimpArgs false
set_option linter.unusedVariables false
namespace Go.Proofs.YtdgejeiiiholnaaGreatDoor
open Go.RowKit

/-- Both cursors, apart from each other and behind all that lay in the world w. -/
structure Two (w W : World) (F F' : Nat → Prop) (ga gb : Nat) (a b : Cur) : Prop where
  bel : Below w.heap.size w W
  ca : CurAt W F ga a
  rb : RCurAt W F' gb b
  ba : w.heap.size ≤ ga
  bb : w.heap.size ≤ gb
  ne : ga ≠ gb
  fa : ¬ F gb
  fb : ¬ F' ga
section
variable {w W W' : World} {F F' : Nat → Prop} {ga gb : Nat} {a b a' b' : Cur}
theorem Two.below (h : Two w W F F' ga gb a b) (hb : Below W.heap.size W W') : Two w W' F F' ga gb a b :=
  ⟨h.bel.trans (hb.mono h.bel.size), h.ca.below hb, h.rb.below hb, h.ba, h.bb, h.ne, h.fa, h.fb⟩
theorem Two.alloc (h : Two w W F F' ga gb a b) (o : Obj) : Two w (W.alloc o) F F' ga gb a b := h.below (Below.alloc (Below.refl _ _) (Nat.le_refl _) o)
theorem Two.drewN (h : Two w W F F' ga gb a b) (n : Nat) : Two w (W.drewN n) F F' ga gb a b := h.below (Below.drewN_ (Below.refl _ _) n)
theorem Two.drew (h : Two w W F F' ga gb a b) : Two w W.drew F F' ga gb a b := h.below (Below.drew (Below.refl _ _))
theorem Two.stepA (h : Two w W F F' ga gb a b) (hc : CurAt W' F ga a') (ho : Only ga W W') : Two w W' F F' ga gb a' b :=
  ⟨h.bel.trans (ho.below h.ba h.bel.size), hc, h.rb.only ho (fun e => h.ne e.symm) h.fb, h.ba, h.bb, h.ne, h.fa, h.fb⟩
theorem CurAt.only {R : Nat} (h : CurAt W F ga a) (ho : Only R W W') (hg : ga ≠ R) (hF : ¬ F R) : CurAt W' F ga a :=
  h.keep (G := F) (ho.same fun b hb => ⟨(h.foot b hb).1, fun e => hF (e ▸ hb)⟩) (ho.block ga h.lt fun e => hg (Option.some.inj e)) ho.size
theorem Two.stepB (h : Two w W F F' ga gb a b) (hc : RCurAt W' F' gb b') (ho : Only gb W W') : Two w W' F F' ga gb a b' :=
  ⟨h.bel.trans (ho.below h.bb h.bel.size), h.ca.only ho h.ne h.fa, hc, h.ba, h.bb, h.ne, h.fa, h.fb⟩
end
def CallsPost (w : World) (F F' : Nat → Prop) (ga gb : Nat) (a b : Cur) (e : Ending) (W' : World) : Prop := e = .returned (.bool true) ∧ Two w W' F F' ga gb a b
/-- The box of a call's arguments. -/
abbrev callCells (k : Nat) (lo hi : Int) (wd : ByteArray) : Array Value := #[.int .u8 k, .int .i64 lo, .int .i64 hi, .string wd]
/-- The box and the cursors, behind the entry. -/
structure Box2 (w W : World) (F F' : Nat → Prop) (ga gb g : Nat) (a b : Cur) (cs : Array Value) : Prop where
  two : Two w W F F' ga gb a b
  blk : Blk W g 45 cs
  na : ga ≠ g
  nb : gb ≠ g
section
variable {w W W' : World} {F F' : Nat → Prop} {ga gb g : Nat} {a b a' b' : Cur} {cs : Array Value}
theorem Box2.below (h : Box2 w W F F' ga gb g a b cs) (hb : Below W.heap.size W W') : Box2 w W' F F' ga gb g a b cs := ⟨h.two.below hb, h.blk.below hb h.blk.lt, h.na, h.nb⟩
theorem Box2.drew (h : Box2 w W F F' ga gb g a b cs) : Box2 w W.drew F F' ga gb g a b cs := h.below (Below.drew (Below.refl _ _))
theorem Box2.alloc (h : Box2 w W F F' ga gb g a b cs) (o : Obj) : Box2 w (W.alloc o) F F' ga gb g a b cs := h.below (Below.alloc (Below.refl _ _) (Nat.le_refl _) o)
theorem Box2.stepA (h : Box2 w W F F' ga gb g a b cs) (hc : CurAt W' F ga a') (ho : Only ga W W') : Box2 w W' F F' ga gb g a' b cs :=
  ⟨h.two.stepA hc ho, h.blk.grown ho (fun e => h.na (Option.some.inj e)), h.na, h.nb⟩
theorem Box2.stepB (h : Box2 w W F F' ga gb g a b cs) (hc : RCurAt W' F' gb b') (ho : Only gb W W') : Box2 w W' F F' ga gb g a b' cs :=
  ⟨h.two.stepB hc ho, h.blk.grown ho (fun e => h.nb (Option.some.inj e)), h.na, h.nb⟩
theorem Box2.new (h : Two w W F F' ga gb a b) (cs : Array Value) : Box2 w (W.alloc (.cells cs 45)) F F' ga gb W.heap.size a b cs :=
  ⟨h.alloc _, Blk.new W _ _, fun e => by have := h.ca.lt; omega, fun e => by have := h.rb.lt; omega⟩
end
theorem fresh_words (W : World) (wd : ByteArray) : Sl 1 elStr (W.alloc (.cells #[.string ⟨#[65]⟩, .string wd, .string ⟨#[49, 50]⟩, .string ⟨#[65]⟩] 9)) (fun b => b = W.heap.size) (.slice (some ⟨W.heap.size, 0, none⟩) 4 4) (wordsC wd.data.toList) := by
  have hb := Blk.new W 9 #[.string ⟨#[65]⟩, .string wd, .string ⟨#[49, 50]⟩, .string ⟨#[65]⟩]
  refine ⟨some ⟨W.heap.size, 0, none⟩, 4, rfl, Nat.le_refl _, by decide, fun _ => ⟨W.heap.size, 0, rfl, rfl, fun i s hi => ⟨[.string (S s)], rfl, fun j u hj => ?_, rfl⟩⟩⟩
  cases j with
  | succ j => simp at hj
  | zero =>
    simp at hj
    subst hj
    rw [hb.cell]
    match i, hi with
    | 0, hi => simp [wordsC] at hi; subst hi; rfl
    | 1, hi => simp [wordsC] at hi; subst hi; rfl
    | 2, hi => simp [wordsC] at hi; subst hi; rfl
    | 3, hi => simp [wordsC] at hi; subst hi; rfl

set_option maxRecDepth 100000 in
set_option maxHeartbeats 4000000 in
theorem called_0 (a b : Cur) (k : Nat) (hk : k < 256) (hm : k % 8 = 0) (lo hi : Int) (wd : ByteArray) (F F' : Nat → Prop) (ga gb : Nat) (w W : World) (h : Two w W F F' ga gb a b) (hs : Cur.sim a b) (hg : GlobN w) (hlen : ∀ f ∈ a.fields, f.text.length ≤ 1000000000) :
    Calls Tryz.prog 18 #[.pointer (some ⟨ga, 0, none⟩), .pointer (some ⟨gb, 0, none⟩), .agg #[.int .u8 k, .int .i64 lo, .int .i64 hi, .string wd]] W (CallsPost w F F' ga gb ((a.word false).1) ((b.word false).1)) := by
  have hlen2 : ∀ f ∈ b.fields, f.text.length ≤ 1000000000 := by rw [← hs.fields]; exact hlen
  have hbox := Box2.new h (callCells k lo hi wd)
  have hz : ((k : Int) % 8) = 0 := by omega
  have c0 : (W.alloc (.cells (callCells k lo hi wd) 45)).cell? ⟨W.heap.size, 0, none⟩ = some (.int .u8 k) := hbox.blk.cell 0
  obtain ⟨⟨a', t⟩, ha⟩ : ∃ r, r = a.word false := ⟨_, rfl⟩
  obtain ⟨⟨b', t'⟩, hb⟩ : ∃ r, r = b.word false := ⟨_, rfl⟩
  have hsm := hs.word false
  rw [← ha, ← hb] at hsm
  obtain ⟨_, rfl⟩ : Cur.sim a' b' ∧ t = t' := hsm
  rw [← ha, ← hb]
  have KA := Lib.hid (fun W0 (W0h : CurAt W0 F ga a) => cur_Word a F ga W0 W0h)
  have KB := Lib.hid (fun W0 (W0h : RCurAt W0 F' gb b) => rcur_Word b F' gb W0 W0h)
  rw [← ha] at KA
  rw [← hb] at KB
  have H := Lib.hid hbox
  clear h hs hg hlen hlen2 hbox ha hb hm
  go_enter Tryz.func18, Tryz.ntmps18
  go_wp2_with (first
    | (go_at_call 24; refine (KA.out _ H.out.two.ca).mono ?_; rintro e w2 ⟨rfl, hc2, ho2⟩; have H2 := Lib.hid (H.out.stepA hc2 ho2); clear hc2 ho2)
    | (go_at_call 55; refine (KB.out _ H2.out.two.rb).mono ?_; rintro e w3 ⟨rfl, hc3, ho3⟩; have H3 := Lib.hid (H2.out.stepB hc3 ho3); clear hc3 ho3))
  go_ret
  exact ⟨rfl, H3.out.two⟩

set_option maxRecDepth 100000 in
set_option maxHeartbeats 4000000 in
theorem called_3 (a b : Cur) (k : Nat) (hk : k < 256) (hm : k % 8 = 3) (lo hi : Int) (wd : ByteArray) (F F' : Nat → Prop) (ga gb : Nat) (w W : World) (h : Two w W F F' ga gb a b) (hs : Cur.sim a b) (hg : GlobN w) (hlen : ∀ f ∈ a.fields, f.text.length ≤ 1000000000) :
    Calls Tryz.prog 18 #[.pointer (some ⟨ga, 0, none⟩), .pointer (some ⟨gb, 0, none⟩), .agg #[.int .u8 k, .int .i64 lo, .int .i64 hi, .string wd]] W (CallsPost w F F' ga gb ((a.ident).1) ((b.ident).1)) := by
  have hlen2 : ∀ f ∈ b.fields, f.text.length ≤ 1000000000 := by rw [← hs.fields]; exact hlen
  have hbox := Box2.new h (callCells k lo hi wd)
  have hz : ((k : Int) % 8) = 3 := by omega
  have c0 : (W.alloc (.cells (callCells k lo hi wd) 45)).cell? ⟨W.heap.size, 0, none⟩ = some (.int .u8 k) := hbox.blk.cell 0
  obtain ⟨⟨a', t⟩, ha⟩ : ∃ r, r = a.ident := ⟨_, rfl⟩
  obtain ⟨⟨b', t'⟩, hb⟩ : ∃ r, r = b.ident := ⟨_, rfl⟩
  have hsm := hs.ident
  rw [← ha, ← hb] at hsm
  obtain ⟨_, rfl⟩ : Cur.sim a' b' ∧ t = t' := hsm
  rw [← ha, ← hb]
  have KA := Lib.hid (fun W0 (W0h : CurAt W0 F ga a) => cur_Ident a F ga W0 W0h hlen)
  have KB := Lib.hid (fun W0 (W0h : RCurAt W0 F' gb b) => rcur_Ident b F' gb W0 W0h hlen2)
  rw [← ha] at KA
  rw [← hb] at KB
  have H := Lib.hid hbox
  clear h hs hg hlen hlen2 hbox ha hb hm
  go_enter Tryz.func18, Tryz.ntmps18
  go_wp2_with (first
    | (go_at_call 27; refine (KA.out _ H.out.two.ca).mono ?_; rintro e w2 ⟨rfl, hc2, ho2⟩; have H2 := Lib.hid (H.out.stepA hc2 ho2); clear hc2 ho2)
    | (go_at_call 58; refine (KB.out _ H2.out.two.rb).mono ?_; rintro e w3 ⟨rfl, hc3, ho3⟩; have H3 := Lib.hid (H2.out.stepB hc3 ho3); clear hc3 ho3))
  go_ret
  exact ⟨rfl, H3.out.two⟩

set_option maxRecDepth 100000 in
set_option maxHeartbeats 4000000 in
theorem called_5 (a b : Cur) (k : Nat) (hk : k < 256) (hm : k % 8 = 5) (lo hi : Int) (wd : ByteArray) (F F' : Nat → Prop) (ga gb : Nat) (w W : World) (h : Two w W F F' ga gb a b) (hs : Cur.sim a b) (hg : GlobN w) (hlen : ∀ f ∈ a.fields, f.text.length ≤ 1000000000) :
    Calls Tryz.prog 18 #[.pointer (some ⟨ga, 0, none⟩), .pointer (some ⟨gb, 0, none⟩), .agg #[.int .u8 k, .int .i64 lo, .int .i64 hi, .string wd]] W (CallsPost w F F' ga gb ((a.word true).1) ((b.word true).1)) := by
  have hlen2 : ∀ f ∈ b.fields, f.text.length ≤ 1000000000 := by rw [← hs.fields]; exact hlen
  have hbox := Box2.new h (callCells k lo hi wd)
  have hz : ((k : Int) % 8) = 5 := by omega
  have c0 : (W.alloc (.cells (callCells k lo hi wd) 45)).cell? ⟨W.heap.size, 0, none⟩ = some (.int .u8 k) := hbox.blk.cell 0
  obtain ⟨⟨a', t⟩, ha⟩ : ∃ r, r = a.word true := ⟨_, rfl⟩
  obtain ⟨⟨b', t'⟩, hb⟩ : ∃ r, r = b.word true := ⟨_, rfl⟩
  have hsm := hs.word true
  rw [← ha, ← hb] at hsm
  obtain ⟨_, rfl⟩ : Cur.sim a' b' ∧ t = t' := hsm
  rw [← ha, ← hb]
  have KA := Lib.hid (fun W0 (W0h : CurAt W0 F ga a) => cur_String a F ga W0 W0h)
  have KB := Lib.hid (fun W0 (W0h : RCurAt W0 F' gb b) => rcur_String b F' gb W0 W0h)
  rw [← ha] at KA
  rw [← hb] at KB
  have H := Lib.hid hbox
  clear h hs hg hlen hlen2 hbox ha hb hm
  go_enter Tryz.func18, Tryz.ntmps18
  go_wp2_with (first
    | (go_at_call 29; refine (KA.out _ H.out.two.ca).mono ?_; rintro e w2 ⟨rfl, hc2, ho2⟩; have H2 := Lib.hid (H.out.stepA hc2 ho2); clear hc2 ho2)
    | (go_at_call 60; refine (KB.out _ H2.out.two.rb).mono ?_; rintro e w3 ⟨rfl, hc3, ho3⟩; have H3 := Lib.hid (H2.out.stepB hc3 ho3); clear hc3 ho3))
  go_ret
  exact ⟨rfl, H3.out.two⟩

set_option maxRecDepth 100000 in
set_option maxHeartbeats 4000000 in
theorem called_1 (a b : Cur) (k : Nat) (hk : k < 256) (hm : k % 8 = 1) (lo hi : Int) (wd : ByteArray) (F F' : Nat → Prop) (ga gb : Nat) (w W : World) (h : Two w W F F' ga gb a b) (hs : Cur.sim a b) (hg : GlobN w) (hlen : ∀ f ∈ a.fields, f.text.length ≤ 1000000000) :
    Calls Tryz.prog 18 #[.pointer (some ⟨ga, 0, none⟩), .pointer (some ⟨gb, 0, none⟩), .agg #[.int .u8 k, .int .i64 lo, .int .i64 hi, .string wd]] W (CallsPost w F F' ga gb ((a.keyword wd.data.toList).1) ((b.keyword wd.data.toList).1)) := by
  have hlen2 : ∀ f ∈ b.fields, f.text.length ≤ 1000000000 := by rw [← hs.fields]; exact hlen
  have hbox := Box2.new h (callCells k lo hi wd)
  have hz : ((k : Int) % 8) = 1 := by omega
  have c0 : (W.alloc (.cells (callCells k lo hi wd) 45)).cell? ⟨W.heap.size, 0, none⟩ = some (.int .u8 k) := hbox.blk.cell 0
  obtain ⟨⟨a', t⟩, ha⟩ : ∃ r, r = a.keyword wd.data.toList := ⟨_, rfl⟩
  obtain ⟨⟨b', t'⟩, hb⟩ : ∃ r, r = b.keyword wd.data.toList := ⟨_, rfl⟩
  have hsm := hs.keyword wd.data.toList
  rw [← ha, ← hb] at hsm
  obtain ⟨_, rfl⟩ : Cur.sim a' b' ∧ t = t' := hsm
  rw [← ha, ← hb]
  have KA := Lib.hid (fun W0 (W0h : CurAt W0 F ga a) => cur_Keyword a wd F ga W0 W0h)
  have KB := Lib.hid (fun W0 (W0h : RCurAt W0 F' gb b) => rcur_Keyword b wd F' gb W0 W0h)
  rw [← ha] at KA
  rw [← hb] at KB
  obtain ⟨W1, hW1⟩ : ∃ W1, W1 = W.alloc (.cells (callCells k lo hi wd) 45) := ⟨_, rfl⟩
  have HW1 := Lib.hid hW1
  have H := Lib.hid hbox
  have HGN := Lib.hid hg
  have HBA := Lib.hid h.ba
  clear h hs hg hlen hlen2 hbox ha hb hm hW1
  go_enter Tryz.func18, Tryz.ntmps18
  go_wp2
  rw [← HW1.out] at c0 H ⊢
  obtain ⟨g, hg⟩ : ∃ g, g = W.heap.size := ⟨_, rfl⟩
  rw [← hg] at c0 H ⊢
  clear hg c0
  have y3 : W1.cell? ⟨g, 3, none⟩ = some (.string wd) := H.out.blk.cell 3
  have tok0 : True := trivial
  go_region_held3 (fun w' => w'.cell? ⟨g, 3, none⟩ = some (.string wd)) (first | exact y3 | go_keep) (first
    | (go_at_call 25; refine (KA.out _ (H.out.drew).two.ca).mono ?_; rintro e w2 ⟨rfl, hc2, ho2⟩; have H2 := Lib.hid (H.out.drew.stepA hc2 ho2); have y3 : w2.cell? ⟨g, 3, none⟩ = some (.string wd) := H2.out.blk.cell 3; clear hc2 ho2)
    | (go_at_call 56; refine (KB.out _ H2.out.two.rb).mono ?_; rintro e w3 ⟨rfl, hc3, ho3⟩; have H3 := Lib.hid (H2.out.stepB hc3 ho3); have y3 : w3.cell? ⟨g, 3, none⟩ = some (.string wd) := H3.out.blk.cell 3; clear hc3 ho3))
  all_goals go_wp2
  all_goals go_ret
  all_goals exact ⟨rfl, H3.out.two⟩

set_option maxRecDepth 100000 in
set_option maxHeartbeats 4000000 in
theorem called_4 (a b : Cur) (k : Nat) (hk : k < 256) (hm : k % 8 = 4) (lo hi : Int) (wd : ByteArray) (F F' : Nat → Prop) (ga gb : Nat) (w W : World) (h : Two w W F F' ga gb a b) (hs : Cur.sim a b) (hg : GlobN w) (hlen : ∀ f ∈ a.fields, f.text.length ≤ 1000000000) :
    Calls Tryz.prog 18 #[.pointer (some ⟨ga, 0, none⟩), .pointer (some ⟨gb, 0, none⟩), .agg #[.int .u8 k, .int .i64 lo, .int .i64 hi, .string wd]] W (CallsPost w F F' ga gb ((a.intP lo hi).1) ((b.int lo hi).1)) := by
  have hlen2 : ∀ f ∈ b.fields, f.text.length ≤ 1000000000 := by rw [← hs.fields]; exact hlen
  have hbox := Box2.new h (callCells k lo hi wd)
  have hz : ((k : Int) % 8) = 4 := by omega
  have c0 : (W.alloc (.cells (callCells k lo hi wd) 45)).cell? ⟨W.heap.size, 0, none⟩ = some (.int .u8 k) := hbox.blk.cell 0
  obtain ⟨⟨a', t⟩, ha⟩ : ∃ r, r = a.intP lo hi := ⟨_, rfl⟩
  obtain ⟨⟨b', t'⟩, hb⟩ : ∃ r, r = b.int lo hi := ⟨_, rfl⟩
  have hsm := hs.int lo hi
  rw [← ha, ← hb] at hsm
  obtain ⟨_, rfl⟩ : Cur.sim a' b' ∧ t = t' := hsm
  rw [← ha, ← hb]
  have KA := Lib.hid (fun W0 (W0h : CurAt W0 F ga a) (W0g : ∀ W9, Only ga W0 W9 → GlobN W9) => cur_Int a lo hi F ga W0 W0h hlen W0g)
  have KB := Lib.hid (fun W0 (W0h : RCurAt W0 F' gb b) => rcur_Int b lo hi F' gb W0 W0h hlen2)
  rw [← ha] at KA
  rw [← hb] at KB
  obtain ⟨W1, hW1⟩ : ∃ W1, W1 = W.alloc (.cells (callCells k lo hi wd) 45) := ⟨_, rfl⟩
  have HW1 := Lib.hid hW1
  have H := Lib.hid hbox
  have HGN := Lib.hid hg
  have HBA := Lib.hid h.ba
  clear h hs hg hlen hlen2 hbox ha hb hm hW1
  go_enter Tryz.func18, Tryz.ntmps18
  go_wp2
  rw [← HW1.out] at c0 H ⊢
  obtain ⟨g, hg⟩ : ∃ g, g = W.heap.size := ⟨_, rfl⟩
  rw [← hg] at c0 H ⊢
  clear hg c0
  have y1 : W1.cell? ⟨g, 1, none⟩ = some (.int .i64 lo) := H.out.blk.cell 1; have y2 : W1.cell? ⟨g, 2, none⟩ = some (.int .i64 hi) := H.out.blk.cell 2
  have tok0 : True := trivial
  go_region_held3 (fun w' => w'.cell? ⟨g, 1, none⟩ = some (.int .i64 lo) ∧ w'.cell? ⟨g, 2, none⟩ = some (.int .i64 hi)) (first | exact ⟨y1, y2⟩ | go_keep) (first
    | (go_at_call 28; refine (KA.out _ (H.out.drew).two.ca (fun W9 h9 => HGN.out.below ((H.out.drew).two.bel.trans (h9.below HBA.out (H.out.drew).two.bel.size)))).mono ?_; rintro e w2 ⟨rfl, hc2, ho2⟩; have H2 := Lib.hid (H.out.drew.stepA hc2 ho2); have y1 : w2.cell? ⟨g, 1, none⟩ = some (.int .i64 lo) := H2.out.blk.cell 1; have y2 : w2.cell? ⟨g, 2, none⟩ = some (.int .i64 hi) := H2.out.blk.cell 2; clear hc2 ho2)
    | (go_at_call 59; refine (KB.out _ H2.out.two.rb).mono ?_; rintro e w3 ⟨rfl, hc3, ho3⟩; have H3 := Lib.hid (H2.out.stepB hc3 ho3); have y1 : w3.cell? ⟨g, 1, none⟩ = some (.int .i64 lo) := H3.out.blk.cell 1; have y2 : w3.cell? ⟨g, 2, none⟩ = some (.int .i64 hi) := H3.out.blk.cell 2; clear hc3 ho3))
  all_goals go_wp2
  all_goals go_ret
  all_goals exact ⟨rfl, H3.out.two⟩

end Go.Proofs.YtdgejeiiiholnaaGreatDoor
