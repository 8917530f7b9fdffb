/- Comparisons: cmp.Compare at int64 and string, cmp.Or, the register's order. -/
import Derived.Test.YtajcnjehjkpieaaE1
import Derived.Deep.RegionHeld3
set_option linter.unusedSimpArgs false
set_option linter.unusedVariables false
namespace Go.Proofs.Ytajcnjehjkpieaa
open Go.RowKit

set_option maxRecDepth 100000 in
theorem nan_64 (a : Int) (w : World) : Calls Try.prog 39 #[.int .i64 a] w fun e w' => e = .returned (.bool false) ∧ w = w' := by
  go_enter Try.func39, Try.ntmps39
  go_wp2
  go_ret
  exact ⟨ret_b (by simp), rfl⟩
set_option maxRecDepth 100000 in
theorem nan_str (a : ByteArray) (w : World) : Calls Try.prog 40 #[.string a] w fun e w' => e = .returned (.bool false) ∧ w = w' := by
  go_enter Try.func40, Try.ntmps40
  go_wp2
  go_ret
  exact ⟨ret_b (by simp), rfl⟩
set_option maxRecDepth 100000 in
theorem cmp_64 (a b : Int) (w : World) : Calls Try.prog 31 #[.int .i64 a, .int .i64 b] w fun e w' => e = .returned (.int .i64 (cmpN a b)) ∧ w = w' := by
  unfold cmpN
  by_cases h1 : a < b
  · rw [if_pos h1]
    go_enter Try.func31, Try.ntmps31
    go_wp2_with (go_at_call 39; refine (nan_64 _ _).mono ?_; rintro e w2 ⟨rfl, rfl⟩)
    go_ret
    exact ⟨rfl, rfl⟩
  · rw [if_neg h1]
    by_cases h2 : b < a
    · rw [if_pos h2]
      go_enter Try.func31, Try.ntmps31
      go_wp2_with (go_at_call 39; refine (nan_64 _ _).mono ?_; rintro e w2 ⟨rfl, rfl⟩)
      go_ret
      exact ⟨rfl, rfl⟩
    · rw [if_neg h2]
      go_enter Try.func31, Try.ntmps31
      go_wp2_with (go_at_call 39; refine (nan_64 _ _).mono ?_; rintro e w2 ⟨rfl, rfl⟩)
      go_ret
      exact ⟨rfl, rfl⟩
set_option maxRecDepth 100000 in
theorem cmp_str (a b : List UInt8) (w : World) : Calls Try.prog 32 #[.string (S a), .string (S b)] w fun e w' => e = .returned (.int .i64 (cmpB a b)) ∧ w = w' := by
  unfold cmpB
  cases h1 : Op.bytesLess a b
  · cases h2 : (a == b)
    · go_enter Try.func32, Try.ntmps32
      go_wp2_with (go_at_call 40; refine (nan_str _ _).mono ?_; rintro e w2 ⟨rfl, rfl⟩)
      go_ret
      exact ⟨rfl, rfl⟩
    · go_enter Try.func32, Try.ntmps32
      go_wp2_with (go_at_call 40; refine (nan_str _ _).mono ?_; rintro e w2 ⟨rfl, rfl⟩)
      go_ret
      exact ⟨rfl, rfl⟩
  · go_enter Try.func32, Try.ntmps32
    go_wp2_with (go_at_call 40; refine (nan_str _ _).mono ?_; rintro e w2 ⟨rfl, rfl⟩)
    go_ret
    exact ⟨rfl, rfl⟩
set_option maxRecDepth 100000 in
set_option maxHeartbeats 1000000 in
theorem cmp_Or2 (a b : Int) (n c : Nat) (w : World) (hn : n < w.heap.size) (y0 : w.cell? ⟨n, 0, none⟩ = some (.int .i64 a)) (y1 : w.cell? ⟨n, 1, none⟩ = some (.int .i64 b)) : Calls Try.prog 30 #[.slice (some ⟨n, 0, none⟩) 2 2] w fun e w' => e = .returned (.int .i64 (orI a b)) ∧ w = w' := by
  unfold orI
  by_cases h1 : a = 0
  · rw [if_neg (by simp [h1])]
    have e1 : (a != 0) = false := by simp [h1]
    clear h1
    by_cases h2 : b = 0
    · rw [h2]
      have e2 : (b != 0) = false := by simp [h2]
      clear h2
      go_enter Try.func30, Try.ntmps30
      go_wp2
      go_loop [8] (fun i => ∃ k : Nat, k ≤ 2 ∧ i = .int .i64 k) (fun i => 2 - (intOf i).toNat)
      case atStart => exact ⟨0, by omega, rfl⟩
      case round =>
        obtain ⟨k, hk, rfl⟩ := hrel
        have hk3 : k = 0 ∨ k = 1 ∨ k = 2 := by omega
        rcases hk3 with rfl | rfl | rfl
        · go_wp2
          go_round
          case rel => exact ⟨1, by omega, rfl⟩
          case measure => simp [intOf]
        · go_wp2
          go_round
          case rel => exact ⟨2, by omega, rfl⟩
          case measure => simp [intOf]
        · go_wp2
          go_ret
          exact ⟨rfl, rfl⟩
    · have e2 : (b != 0) = true := by simp [h2]
      clear h2
      go_enter Try.func30, Try.ntmps30
      go_wp2
      go_loop [8] (fun i => ∃ k : Nat, k ≤ 1 ∧ i = .int .i64 k) (fun i => 2 - (intOf i).toNat)
      case atStart => exact ⟨0, by omega, rfl⟩
      case round =>
        obtain ⟨k, hk, rfl⟩ := hrel
        have hk3 : k = 0 ∨ k = 1 := by omega
        rcases hk3 with rfl | rfl
        · go_wp2
          go_round
          case rel => exact ⟨1, by omega, rfl⟩
          case measure => simp [intOf]
        · go_wp2
          go_ret
          exact ⟨rfl, rfl⟩
  · rw [if_pos h1]
    have e1 : (a != 0) = true := by simp [h1]
    clear h1
    go_enter Try.func30, Try.ntmps30
    go_wp2
    go_loop [8] (fun i => i = .int .i64 0) (fun i => 2 - (intOf i).toNat)
    case atStart => exact rfl
    case round =>
      obtain rfl := hrel
      go_wp2
      go_ret
      exact ⟨rfl, rfl⟩
set_option maxRecDepth 100000 in
set_option maxHeartbeats 2000000 in
theorem reg_order (a b : Tra) (w : World) : Calls Try.prog 18 #[.agg #[.string (S a.player), .string (S a.team), .int .i64 a.day], .agg #[.string (S b.player), .string (S b.team), .int .i64 b.day]] w fun e w' => e = .returned (.int .i64 (ordT a b)) ∧ Below w.heap.size w w' := by
  have k1 := fun W => cmp_64 a.day b.day W
  have k2 := fun W => cmp_str a.player b.player W
  unfold ordT
  obtain ⟨c1, h1⟩ : ∃ c, c = cmpN a.day b.day := ⟨_, rfl⟩
  obtain ⟨c2, h2⟩ : ∃ c, c = cmpB a.player b.player := ⟨_, rfl⟩
  rw [← h1] at k1 ⊢
  rw [← h2] at k2 ⊢
  obtain ⟨ap, at', ad⟩ := a
  obtain ⟨bp, bt, bd⟩ := b
  dsimp only at k1 k2 ⊢
  obtain ⟨z, hz⟩ : ∃ z, z = orI c1 c2 := ⟨_, rfl⟩
  have k3 := fun n W hn y0 y1 => cmp_Or2 c1 c2 n 2 W hn y0 y1
  rw [← hz] at k3 ⊢
  have K1 := Lib.hid k1
  have K2 := Lib.hid k2
  have K3 := Lib.hid k3
  have HB := Lib.hid (Below.alloc (Below.alloc (Below.refl w.heap.size w) (Nat.le_refl _) (.cells #[.string (S ap), .string (S at'), .int .i64 ad] 40)) (by simp) (.cells #[.string (S bp), .string (S bt), .int .i64 bd] 40))
  have tok0 : True := trivial
  clear k1 k2 k3 hz h1 h2
  go_enter Try.func18, Try.ntmps18
  go_wp2
  have hk : Blk ((w.alloc (.cells #[.string (S ap), .string (S at'), .int .i64 ad] 40)).alloc (.cells #[.string (S bp), .string (S bt), .int .i64 bd] 40)) w.heap.size 40 #[.string (S ap), .string (S at'), .int .i64 ad] := (Blk.new w 40 #[.string (S ap), .string (S at'), .int .i64 ad]).alloc _
  have hk2 : Blk ((w.alloc (.cells #[.string (S ap), .string (S at'), .int .i64 ad] 40)).alloc (.cells #[.string (S bp), .string (S bt), .int .i64 bd] 40)) (w.heap.size + 1) 40 #[.string (S bp), .string (S bt), .int .i64 bd] := by
    have h := Blk.new (w.alloc (.cells #[.string (S ap), .string (S at'), .int .i64 ad] 40)) 40 #[.string (S bp), .string (S bt), .int .i64 bd]
    rwa [World.size_alloc] at h
  revert hk hk2 HB
  generalize World.alloc _ _ = W
  intro HB hk hk2
  obtain ⟨x0, x1, x2, _⟩ := hk.drew.three
  obtain ⟨y0, y1, y2, _⟩ := hk2.drew.three
  have h1 := hk.lt
  have h2 := hk2.lt
  have FA := Lib.hid (fun o => (⟨((hk.alloc o).drew).cell 0, ((hk.alloc o).drew).cell 2, ((hk2.alloc o).drew).cell 0, ((hk2.alloc o).drew).cell 2⟩ : (W.alloc o).drew.cell? ⟨w.heap.size, 0, none⟩ = some (.string (S ap)) ∧ (W.alloc o).drew.cell? ⟨w.heap.size, 2, none⟩ = some (.int .i64 ad) ∧ (W.alloc o).drew.cell? ⟨w.heap.size + 1, 0, none⟩ = some (.string (S bp)) ∧ (W.alloc o).drew.cell? ⟨w.heap.size + 1, 2, none⟩ = some (.int .i64 bd)))
  have hn := (Blk.new W 3 #[.int .i64 c1, .int .i64 c2]).drew
  have K4 := Lib.hid (K3.out W.heap.size (W.alloc (.cells #[.int .i64 c1, .int .i64 c2] 3)).drew hn.lt (hn.cell 0) (hn.cell 1))
  have HB2 := Lib.hid ((HB.out.alloc HB.out.size (.cells #[.int .i64 c1, .int .i64 c2] 3)).drew)
  clear hk hk2 hn
  go_region_held3 (fun w' => w'.cell? ⟨w.heap.size, 0, none⟩ = some (.string (S ap)) ∧ w'.cell? ⟨w.heap.size, 2, none⟩ = some (.int .i64 ad) ∧ w'.cell? ⟨w.heap.size + 1, 0, none⟩ = some (.string (S bp)) ∧ w'.cell? ⟨w.heap.size + 1, 2, none⟩ = some (.int .i64 bd)) (first | exact ⟨x0, x2, y0, y2⟩ | exact FA.out _ | go_keep) (first
    | (go_at_call 31; refine (K1.out _).mono ?_; rintro e w2 ⟨rfl, rfl⟩)
    | (go_at_call 32; refine (K2.out _).mono ?_; rintro e w2 ⟨rfl, rfl⟩)
    | (go_at_call 30; refine K4.out.mono ?_; rintro e w2 ⟨rfl, rfl⟩))
  go_wp2
  go_ret
  exact ⟨rfl, HB2.out⟩
end Go.Proofs.Ytajcnjehjkpieaa
