/- The reference's contracts: words, quoting, writing. -/
import Derived.Test.YtakgmdagjaenpaaDoorT7
import Derived.Test.YtakgmdagjaenpaaDoorT3
set_option linter.unusedSimpArgs false
set_option linter.unusedVariables false
namespace Go.Proofs.YtakgmdagjaenpaaDoor
open Go.RowKit

theorem S_app (a b : List UInt8) : S a ++ S b = S (a ++ b) := by
  have := data_app (S a) (S b)
  rw [← S_of (S a ++ S b), this]; rfl
theorem S_one (s : ByteArray) (k : Nat) (h : k < s.size) : s.extract k (k + 1) = S [s[k]] := by
  have : (s.extract k (k + 1)).data.toList = [s[k]] := by
    rw [Lib.extract_data, drop_cons s k h]
    simp
  rw [← S_of (s.extract k (k + 1)), this]
theorem subst1_snoc (l : List UInt8) (c : UInt8) : subst1 34 [34, 34] (l ++ [c]) = subst1 34 [34, 34] l ++ (if c = 34 then [34, 34] else [c]) := by
  simp [subst1]
set_option maxRecDepth 100000 in
set_option maxHeartbeats 1000000 in
theorem ref_Quote (s : ByteArray) (w : World) (hs : s.size ≤ 1000000000) :
    Calls Tryd.prog 10 #[.string s] w fun e w' => e = .returned (.string (S (quoteS s.data.toList))) ∧ w' = w := by
  have q1 : (⟨#[34]⟩ : ByteArray) = S [34] := rfl
  have hle : ∀ k, (34 :: subst1 34 [34, 34] (s.data.toList.take k)).length ≤ 2000000001 := fun k => by
    have h1 := subst1_le (s.data.toList.take k)
    have h2 : (s.data.toList.take k).length ≤ s.size := by simp; omega
    simp only [List.length_cons]; omega
  obtain ⟨res, hres⟩ : ∃ r, r = quoteS s.data.toList := ⟨_, rfl⟩
  rw [← hres]
  have HR := Lib.hid hres
  have HLE := Lib.hid hle
  clear hres hle
  go_enter Tryd.func10, Tryd.ntmps10
  go_wp2
  go_loop [3, 4] (fun o i => ∃ (k : Nat) (cur : List UInt8), k ≤ s.size ∧ i = .int .i64 k ∧ o = .string (S cur) ∧ Hid (cur = 34 :: subst1 34 [34, 34] (s.data.toList.take k))) (fun _ i => s.size - (intOf i).toNat)
  case atStart => exact ⟨0, [34], Nat.zero_le _, rfl, rfl, rfl⟩
  case round =>
    obtain ⟨k, cur, hk, rfl, rfl, hcur⟩ := hrel
    have hcl : cur.length ≤ 2000000001 := by rw [hcur.out]; exact HLE.out k
    by_cases hlt : k < s.size
    · have hsn := subst1_snoc (s.data.toList.take k) s[k]
      rw [← take_snoc s k hlt] at hsn
      have hone := S_one s k hlt
      have hi1 : (k : Int) + 1 ≤ (s.size : Int) := by omega
      by_cases hq : s[k] = 34
      · have e1 : ((s[k].toNat : Int) == 34) = true := by rw [hq]; rfl
        rw [if_pos hq] at hsn
        rw [hq] at hone
        have hfin : 34 :: subst1 34 [34, 34] (s.data.toList.take (k + 1)) = cur ++ [34] ++ [34] := by rw [hsn, hcur.out]; simp
        have s1 : (⟨#[34]⟩ : ByteArray).size = 1 := rfl
        have a1 := fun W => run_string_add_sum (P := Tryd.prog) W (S cur) ⟨#[34]⟩ (by rw [s1, S_size]; omega)
        have a2 := fun W => run_string_add_sum (P := Tryd.prog) W (S cur ++ ⟨#[34]⟩) (s.extract k (k + 1)) (by rw [ByteArray.size_append, s1, S_size, hone, S_size]; simp; omega)
        clear s1
        have HF := Lib.hid hfin
        have HO := Lib.hid hone
        clear hsn hfin hone hq
        go_wp2
        go_round
        case rel => exact ⟨k + 1, cur ++ [34] ++ [34], by omega, by go_num, by rw [HO.out, S_app, S_app], HF.out.symm⟩
        case measure => simp [intOf]; omega
      · have e1 : ((s[k].toNat : Int) == 34) = false := beq_eq_false_iff_ne.2 fun e => hq (byte_eq 34 e)
        rw [if_neg hq] at hsn
        have hfin : 34 :: subst1 34 [34, 34] (s.data.toList.take (k + 1)) = cur ++ [s[k]] := by rw [hsn, hcur.out]; simp
        have a2 := fun W => run_string_add_sum (P := Tryd.prog) W (S cur) (s.extract k (k + 1)) (by rw [S_size, hone, S_size]; simp; omega)
        have HF := Lib.hid hfin
        have HO := Lib.hid hone
        clear hsn hfin hone hq
        go_wp2
        go_round
        case rel => exact ⟨k + 1, cur ++ [s[k]], by omega, by go_num, by rw [HO.out, S_app], HF.out.symm⟩
        case measure => simp [intOf]; omega
    · obtain rfl : k = s.size := by omega
      have s1 : (⟨#[34]⟩ : ByteArray).size = 1 := rfl
      have a1 := fun W => run_string_add_sum (P := Tryd.prog) W (S cur) ⟨#[34]⟩ (by rw [s1, S_size]; omega)
      clear s1
      go_wp2
      go_ret
      refine ⟨?_, rfl⟩
      have hc := hcur.out
      rw [List.take_of_length_le (by simp)] at hc
      rw [S_app, HR.out, hc]
      rfl

theorem lineW_le : ∀ (fs : List Fld) (b : Bool) (m : Nat), (lineW (fs.take m) b).length ≤ (lineW fs b).length := by
  intro fs
  induction fs with
  | nil => intro b m; simp [lineW]
  | cons f fs ih =>
    intro b m
    cases m with
    | zero => simp [lineW]
    | succ m =>
      rw [List.take_succ_cons, lineW, lineW]
      have := ih false m
      simp only [List.length_append]
      omega
end Go.Proofs.YtakgmdagjaenpaaDoor
