/- The walk of TextColumns: each field that was split off stands at its column in the source, and only white space lies between the fields. No conditions. -/
import Derived.Test.YtakgmdagjaenpaaDoorM2
import Derived.Test.YtakgmdagjaenpaaDoorP33
import Derived.Test.YtakgmdagjaenpaaDoorT7
import Derived.IntWalk
set_option linter.unusedSimpArgs false
set_option linter.unusedVariables false
namespace Go.Proofs.YtakgmdagjaenpaaDoor
open Go.RowKit

def wrF (f : Fld) : List UInt8 := if f.quoted then quoteS f.text else f.text
theorem wrF_field {f : Fld} (h : okF f = true) : wrF f = fieldW f := by
  unfold wrF fieldW okF at *
  cases hq : f.quoted <;> simp [hq] at h ⊢
  simp [h]
/-- The fields fs lie in the source l from place e on; their line begins at s0. -/
def LayA (l : List UInt8) (s0 e : Nat) (fs : List Fld) : Prop :=
  ∃ (p : List UInt8) (first : Bool) (e0 : Nat), e = s0 + e0 ∧ LayF p e0 first fs ∧ p = (l.drop s0).take p.length ∧ s0 + p.length ≤ l.length ∧ e0 ≤ p.length
theorem LayA.step {l : List UInt8} {s0 e : Nat} {f : Fld} {fs : List Fld} (h : LayA l s0 e (f :: fs)) :
    ∃ c : Nat, f.col = (c : Int) + 1 ∧ e ≤ s0 + c ∧ (∀ k, e ≤ k → k < s0 + c → ∃ b, l[k]? = some b ∧ whiteB b = true) ∧ (l.drop (s0 + c)).take (wrF f).length = wrF f ∧
      s0 + c + (wrF f).length ≤ l.length ∧ LayA l s0 (s0 + c + (wrF f).length) fs := by
  obtain ⟨p, first, e0, rfl, ⟨c, h1, h2, _, h3, h4, h5, h6, h7⟩, hp, hpl, he⟩ := h
  rw [← wrF_field h6] at h4 h5 h7
  have hget : ∀ k, k < p.length → l[s0 + k]? = p[k]? := fun k hk => by
    rw [hp, List.getElem?_take, if_pos hk, List.getElem?_drop]
  refine ⟨c, h1, by omega, fun k hk1 hk2 => ?_, ?_, by omega, p, false, c + (wrF f).length, by omega, h7, hp, hpl, h5⟩
  · have hk3 : k - s0 < p.length := by omega
    have hg := hget (k - s0) hk3
    rw [show s0 + (k - s0) = k by omega, List.getElem?_eq_getElem hk3] at hg
    exact ⟨_, hg, h3 (k - s0) _ (by omega) (by omega) (List.getElem?_eq_getElem hk3)⟩
  · rw [← h4]
    rw [show (List.drop c p).take (wrF f).length = (List.drop c ((l.drop s0).take p.length)).take (wrF f).length by rw [← hp]]
    rw [List.drop_take, List.take_take, List.drop_drop, Nat.min_eq_left (by omega)]
    congr 1
    have : ((l.drop (s0 + c)).take (wrF f).length).length = (wrF f).length := by simp; omega
    omega
theorem line_lay {l : List UInt8} {x : Lin} (h : x ∈ (splitS l).1) : ∃ i s0 : Nat, x.num = (i : Int) + 1 ∧ (0 :: nlF l 0)[i]? = some s0 ∧ x.fields ≠ [] ∧ LayA l s0 s0 x.fields := by
  obtain ⟨i, p, h1, h2, h3, h4, h5⟩ := splitS_lines h
  obtain ⟨s0, k1, _, k3, k4⟩ := (pieces_start l 0).2 i p h1
  rw [Nat.sub_zero] at k3 k4
  exact ⟨i, s0, by omega, k1, h4, p, true, 0, rfl, fieldsS_lay h3, k3, k4, Nat.zero_le _⟩
theorem nlF_step (s : ByteArray) {k : Nat} (h : k < s.size) : nlF (s.data.toList.drop k) k = if s[k] = 10 then (k + 1) :: nlF (s.data.toList.drop (k + 1)) (k + 1) else nlF (s.data.toList.drop (k + 1)) (k + 1) := by
  rw [drop_cons s k h, nlF]
theorem nlF_len : ∀ (l : List UInt8) (i : Nat), (nlF l i).length ≤ l.length := by
  intro l
  induction l with
  | nil => intro i; simp [nlF]
  | cons c l ih => intro i; rw [nlF]; have := ih (i + 1); split <;> simp <;> omega
theorem nlF_le : ∀ (l : List UInt8) (i : Nat), ∀ x ∈ nlF l i, x ≤ i + l.length := by
  intro l
  induction l with
  | nil => intro i x hx; simp [nlF] at hx
  | cons c l ih =>
    intro i x hx
    rw [nlF] at hx
    split at hx
    · rcases List.mem_cons.1 hx with rfl | hx
      · simp
      · have := ih _ _ hx; simp; omega
    · have := ih _ _ hx; simp; omega
theorem E_ints : ElemOf Tryd.prog 23 3 1 8 := ElemOf.mk (z := .int .i64 0) Tryd.underlying23 (by kernel_rfl) rfl (by decide)
theorem ints_one (w : World) (base : Nat) (hb : base ≤ w.heap.size) (x : Int) : OwnSl 1 elInt 3 base (w.alloc (.cells #[.int .i64 x] 3)) (.slice (some ⟨w.heap.size, 0, none⟩) 1 1) [x] := by
  refine ⟨[[.int .i64 x]], rfl, ?_, by simp, fun i a cs h1 h2 => ?_⟩
  · exact World.ownsRow_lit (size := 1) w #[.int .i64 x] 1 hb (by decide) rfl
  · cases i with
    | zero => simp at h1 h2; subst h1; subst h2; rfl
    | succ i => simp at h1
theorem int_at {w : World} {F : Nat → Prop} {A : Option Addr} {n c : Nat} {l : List Int} (h : Sl 1 elInt w F (.slice A n c) l) {k : Nat} (hk : k < l.length) :
    ∃ b o, A = some ⟨b, o, none⟩ ∧ F b ∧ w.cell? ⟨b, o + k, none⟩ = some (.int .i64 l[k]) := by
  obtain ⟨b, o, cs, h1, h2, h3, h4, h5⟩ := h.at hk
  have h5' : cs = [.int .i64 l[k]] := h5
  subst h5'
  have y0 := h4 0 _ rfl
  rw [Nat.add_zero, Nat.mul_one] at y0
  exact ⟨b, o, h1, h2, y0⟩
theorem cut_at {s : ByteArray} {a n : Nat} {x : List UInt8} (h : (s.data.toList.drop a).take n = x) (hn : a + n ≤ s.size) : s.extract a (a + n) = S x := by
  apply ByteArray.ext
  apply Array.ext'
  rw [S_data, ← h]
  simp [ByteArray.data_extract, Array.toList_extract, List.extract_eq_take_drop]
set_option maxRecDepth 100000 in
set_option maxHeartbeats 4000000 in
theorem law_Columns (s : ByteArray) (w : World) (hg : GlobN w) (hs : s.size ≤ maxLen) :
    Calls Tryd.prog 3 #[.string s] w fun e w' => e = .returned (.bool true) ∧ Below w.heap.size w w' := by
  unfold maxLen at hs
  have HAW := Lib.hid (law03_awake w hg)
  by_cases h5 : (500 : Int) < (s.size : Int)
  · clear hg
    go_enter Tryd.func3, Tryd.ntmps3
    go_wp2_with (go_at_call 5; refine HAW.out.mono ?_; rintro e w1 ⟨rfl, hb1⟩; have HB1 := Lib.hid hb1; clear hb1)
    go_ret
    exact ⟨rfl, HB1.out⟩
  · obtain ⟨q, hq⟩ : ∃ q, q = splitS s.data.toList := ⟨_, rfl⟩
    obtain ⟨q0, hq0⟩ : ∃ q0 : List Int, q0 = (0 :: nlF s.data.toList 0).map (fun n : Nat => (n : Int)) := ⟨_, rfl⟩
    have HQ := Lib.hid hq
    have HQ0 := Lib.hid hq0
    have HG := Lib.hid hg
    have k1 : ∀ W, Below w.heap.size w W → Calls Tryd.prog 6 #[.string s] W fun e W' => ∃ v d, e = .returned (.tuple #[v, d]) ∧ Sl 2 elLin W' (· < W'.heap.size) v q.1 ∧ Below W.heap.size W W' := fun W hW => by
      refine (text_Split s W (hg.below hW).glob (by omega)).mono ?_
      rintro e W' ⟨v, d, rfl, h1, h2, hb⟩
      rw [← hq] at h1
      exact ⟨v, d, rfl, h1.keep elLin_good (Same.refl _ _) fun b h => h.2, hb⟩
    have K1 := Lib.hid k1
    clear k1 hq hq0 hg
    go_enter Tryd.func3, Tryd.ntmps3
    go_wp2_with (go_at_call 5; refine HAW.out.mono ?_; rintro e w1 ⟨rfl, hb1⟩; have HB1 := Lib.hid hb1; clear hb1)
    go_loopw [3, 23] (fun v i wr => ∃ (k : Nat) (st : List Int), k ≤ s.size ∧ i = .int .i64 k ∧ OwnSl 1 elInt 3 w1.heap.size wr v st ∧ st.length ≤ k + 1 ∧ Hid (st ++ (nlF (s.data.toList.drop k) k).map (fun n : Nat => (n : Int)) = q0) ∧ Below w1.heap.size w1 wr) (fun _ i _ => s.size - (intOf i).toNat)
    case atStart => exact ⟨0, [0], Nat.zero_le _, rfl, ints_one _ _ (Nat.le_refl _) 0, by simp, by unfold Hid; rw [HQ0.out]; rfl, (Below.refl _ _).alloc (Nat.le_refl _) _⟩
    case round =>
      obtain ⟨k, st, hk, rfl, hown, hst, hnl, hbel⟩ := hrel
      have hbs := hbel.size
      by_cases hlt : k < s.size
      · have HN := Lib.hid (nlF_step s hlt)
        by_cases hc : s[k] = 10
        · have c10 : ((s[k].toNat : Int) == 10) = true := by rw [hc]; rfl
          have HN' := Lib.hid (HN.out.trans (if_pos hc))
          clear hc
          go_wp2_with (at_builtin; refine wpList_append_sl _ rfl (.tmp 30) (.tmp 33) _ rfl E_ints elInt_good w1.heap.size _ st rfl (hown.alloc elInt_good _) ⟨wr.heap.size, 0, none⟩ 1 [.int .i64 _] rfl ((k : Int) + 1) rfl (cell_one_new _ _ _) (oneCells rfl) rfl (by simp only [maxLen]; omega) (by omega) (by simp; omega) ?_; intro v1 w2 hown1 hg1 hat1)
          have hb1 := below_own (hbel.alloc (by omega) _) (hown.alloc elInt_good _) hg1 (Nat.le_refl _) (by simp; omega)
          go_wp2
          go_roundw
          case rel => exact ⟨k + 1, _, by omega, by go_num, hown1, by simp; omega, by unfold Hid; rw [← hnl.out, HN'.out]; simp, hb1⟩
          case measure => simp [intOf]; omega
        · have c10 : ((s[k].toNat : Int) == 10) = false := beq_eq_false_iff_ne.2 fun e => hc (byte_eq 10 e)
          have HN' := Lib.hid (HN.out.trans (if_neg hc))
          clear hc
          go_wp2
          go_roundw
          case rel => exact ⟨k + 1, st, by omega, by go_num, hown, by omega, by unfold Hid; rw [← HN'.out]; exact hnl.out, hbel⟩
          case measure => simp [intOf]; omega
      · obtain rfl : k = s.size := by omega
        have hst' : st = q0 := by have := hnl.out; rw [List.drop_of_length_le (by simp)] at this; simpa [nlF] using this
        subst hst'
        clear hst
        have hB := HB1.out.trans (hbel.mono HB1.out.size)
        have hsl := hown.sl elInt_good
        obtain ⟨A0, c0, rfl, hc0, hc02⟩ := hsl.shape
        go_wp2_with (go_at_call 6; refine (K1.out _ hB).mono ?_; rintro e w2 ⟨v, d, rfl, hl2, hb2⟩; obtain ⟨Al, cl, rfl, hcl, hcl2⟩ := hl2.shape)
        have hst2 : Sl 1 elInt w2 (· < w2.heap.size) (.slice A0 st.length c0) st := hsl.keep elInt_good (Same.below hb2 fun b h => h.2) fun b h => Nat.lt_of_lt_of_le h.2 hb2.size
        have HL2 := Lib.hid hl2
        have HST := Lib.hid hst2
        have HB2 := Lib.hid (hB.trans (hb2.mono hB.size))
        have hlen : st.length ≤ 501 := by rw [HQ0.out, List.length_map, List.length_cons]; have := nlF_len s.data.toList 0; have h9 : s.data.toList.length = s.size := (by simp); omega
        clear hl2 hst2 hb2 hB hsl hown hnl hbel hbs hlt hk
        have HBR := Lib.hid (Below.refl w2.heap.size w2)
        go_loopw [43] (fun i wr => ∃ k : Nat, k ≤ q.1.length ∧ i = .int .i64 k ∧ Below w2.heap.size w2 wr) (fun i _ => q.1.length - (intOf i).toNat)
        case atStart => exact ⟨0, Nat.zero_le _, rfl, HBR.out⟩
        case round =>
          obtain ⟨k, hk, rfl, hbw⟩ := hrel
          obtain ⟨wo, hwo⟩ : ∃ wo : World, wo = wr := ⟨_, rfl⟩
          subst hwo
          have HBW := Lib.hid hbw
          by_cases hkl : k < q.1.length
          · obtain ⟨b, o, A2, c2, rfl, hbF, y0, y1, hs2, hc2, hc22⟩ := lin_at HL2.out hkl
            have hmem : q.1[k] ∈ (splitS s.data.toList).1 := by rw [← HQ.out]; exact List.getElem_mem _
            obtain ⟨i0, s0, hnum, hst0, hne, hlay⟩ := line_lay hmem
            obtain ⟨fs, hfs⟩ : ∃ fs, fs = q.1[k].fields := ⟨_, rfl⟩
            rw [hnum] at y0
            rw [← hfs] at y1 hs2 hne hlay hc2
            clear hmem hnum hfs
            have hgs : st[i0]? = some (s0 : Int) := by rw [HQ0.out, List.getElem?_map, hst0]; rfl
            obtain ⟨hi0, hsi⟩ := List.getElem?_eq_some_iff.1 hgs
            obtain ⟨b3, o3, rfl, hb3, z0⟩ := int_at HST.out hi0
            rw [hsi] at z0
            have hfl : 0 < fs.length := List.length_pos_iff.2 hne
            have y0' := cell_below hbw y0
            have y1' := cell_below hbw y1
            have z0' := cell_below hbw z0
            have HLAY := Lib.hid hlay
            have HS2 := Lib.hid hs2
            have hb3' : b3 < wo.heap.size := Nat.lt_of_lt_of_le hb3 hbw.size
            have hbb' : b < wo.heap.size := Nat.lt_of_lt_of_le hbF hbw.size
            have f0 : ((fs.length : Int) == 0) = false := beq_eq_false_iff_ne.2 (by omega)
            have e1 : IntKind.i64.wrap ((i0 : Int) + 1 - 1) = (i0 : Int) := by rw [IntWalk.i64_in _ (by omega)]; omega
            have Z0 := Lib.hid z0
            have HC := Lib.hid hc2
            clear hgs hsi hst0 hne hlay hs2 y0 y1 z0 hc2
            go_wp2
            case' _ => skip
            have hbA := hbw.alloc (B := w2.heap.size) hbw.size (.cells #[.int .i64 ((i0 : Int) + 1), .slice A2 fs.length c2] 30)
            have hblk := Blk.new wo 30 #[.int .i64 ((i0 : Int) + 1), .slice A2 fs.length c2]
            have hszA : wo.heap.size < (wo.alloc (.cells #[.int .i64 ((i0 : Int) + 1), .slice A2 fs.length c2] 30)).heap.size := by simp
            have HA1 := Lib.hid hbA
            have HA2 := Lib.hid hblk
            have HA3 := Lib.hid hszA
            clear hbA hblk hszA y0' y1' z0' hbw
            go_loopw [9, 72] (fun en j wr => ∃ (m e : Nat), m ≤ fs.length ∧ j = .int .i64 m ∧ en = .int .i64 e ∧ Below w2.heap.size w2 wr ∧ wo.heap.size < wr.heap.size ∧ Hid (Blk wr wo.heap.size 30 #[.int .i64 ((i0 : Int) + 1), .slice A2 fs.length c2]) ∧ Hid (LayA s.data.toList s0 e (fs.drop m))) (fun _ j _ => fs.length - (intOf j).toNat)
            case atStart => exact ⟨0, s0, Nat.zero_le _, rfl, rfl, HA1.out, HA3.out, HA2.out, HLAY.out⟩
            case round =>
              obtain ⟨m, e, hm, rfl, rfl, hbx, hsx, hblx, hlx⟩ := hrel
              have HBX := Lib.hid hbx
              by_cases hmt : m < fs.length
              · obtain ⟨b2, o2, rfl, hF2, u0, u1, u2⟩ := fld_at HS2.out hmt
                have hlay := hlx.out
                rw [List.drop_eq_getElem_cons hmt] at hlay
                obtain ⟨c, hcol, hec, hwh, htk, hend, hnx⟩ := hlay.step
                obtain ⟨⟨ft, fc, fq⟩, hf⟩ : ∃ f, f = fs[m] := ⟨_, rfl⟩
                rw [← hf] at u0 u1 u2 hcol htk hend hnx
                dsimp only at u0 u1 u2 hcol
                subst hcol
                have hsl : s.data.toList.length = s.size := (by simp)
                rw [hsl] at hend
                have y0 := cell_below hbx u0
                have y1 := cell_below hbx u1
                have y2 := cell_below hbx u2
                have z0 := cell_below hbx Z0.out
                have x0 := hblx.out.cell 0
                have x1 := hblx.out.cell 1
                simp only [List.getElem?_toArray, List.getElem?_cons_zero, List.getElem?_cons_succ] at x0 x1
                have hb2' : b2 < wr.heap.size := Nat.lt_of_lt_of_le hF2 hbx.size
                have hb3x : b3 < wr.heap.size := Nat.lt_of_lt_of_le hb3 hbx.size
                have e2 : IntKind.i64.wrap ((s0 : Int) + ((c : Int) + 1)) = (s0 : Int) + ((c : Int) + 1) := IntWalk.i64_in _ (by omega)
                have e3 : IntKind.i64.wrap ((s0 : Int) + ((c : Int) + 1) - 1) = ((s0 + c : Nat) : Int) := by rw [IntWalk.i64_in _ (by omega)]; omega
                have HWH := Lib.hid hwh
                have HTK := Lib.hid htk
                have HNX := Lib.hid hnx
                have HEND := Lib.hid hend
                have HEC := Lib.hid hec
                have HF := Lib.hid hf
                clear hwh htk hnx hlay hlx hf u0 u1 u2 hbx hsl
                go_wp2
                go_quiet (fail)
                go_wp2
                obtain ⟨wz, hwz⟩ : ∃ wz : World, wz = (wr.alloc (.cells #[.string (S ft), .int .i64 ((c : Int) + 1), .bool fq] 32)).drewN nq := ⟨_, rfl⟩
                have HZ1 := Lib.hid (show Below w2.heap.size w2 wz by rw [hwz]; exact Below.drewN_ (HBX.out.alloc HBX.out.size _) nq)
                have HZ2 := Lib.hid (show Blk wz wo.heap.size 30 #[.int .i64 ((i0 : Int) + 1), .slice (some ⟨b2, o2, none⟩) fs.length c2] by rw [hwz]; exact hblx.out.alloc _)
                have hbf : Blk wz wr.heap.size 32 #[.string (S ft), .int .i64 ((c : Int) + 1), .bool fq] := by rw [hwz]; exact Blk.new wr _ _
                have v0 := hbf.cell 0
                have v2 := hbf.cell 2
                simp only [List.getElem?_toArray, List.getElem?_cons_zero, List.getElem?_cons_succ] at v0 v2
                have hzs : wo.heap.size < wz.heap.size := HZ2.out.lt
                have hzr : wr.heap.size < wz.heap.size := hbf.lt
                have HZS := Lib.hid hzs
                rw [← hwz]
                clear hwz hbf hblx y0 y1 y2 z0 x0 x1 e1 e2 e3 hsx
                go_loopw [13] (fun kv W => ∃ kk : Nat, kv = .int .i64 kk ∧ e ≤ kk ∧ kk ≤ s0 + c ∧ W = wz) (fun kv _ => (s0 + c) - (intOf kv).toNat)
                case atStart => exact ⟨e, rfl, Nat.le_refl _, HEC.out, rfl⟩
                case round =>
                  obtain ⟨kk, rfl, hk1, hk2, rfl⟩ := hrel
                  by_cases hkc : kk < s0 + c
                  · obtain ⟨bb, hb, hwb⟩ := HWH.out kk hk1 hkc
                    have hks : kk < s.size := by have := HEND.out; omega
                    have hbb2 : s[kk] = bb := by
                      rw [List.getElem?_eq_getElem (by simpa using hks)] at hb
                      exact Option.some.inj hb
                    subst hbb2
                    clear hb
                    by_cases h32 : s[kk] = 32
                    · have t1 : ((s[kk].toNat : Int) != 32) = false := by rw [h32]; rfl
                      clear h32 hwb
                      go_wp2
                      go_roundw
                      case rel => exact ⟨kk + 1, by go_num, by omega, by omega, trivial⟩
                      case measure => simp [intOf]; omega
                    · have h9 : s[kk] = 9 := by
                        unfold whiteB at hwb
                        simp only [Bool.or_eq_true, beq_iff_eq] at hwb
                        exact hwb.resolve_right h32
                      have t1 : ((s[kk].toNat : Int) != 32) = true := by rw [h9]; rfl
                      have t2 : ((s[kk].toNat : Int) != 9) = false := by rw [h9]; rfl
                      clear h32 hwb h9
                      go_wp2
                      go_roundw
                      case rel => exact ⟨kk + 1, by go_num, by omega, by omega, trivial⟩
                      case measure => simp [intOf]; omega
                  · obtain rfl : kk = s0 + c := by omega
                    cases fq with
                    | false =>
                      have htk : (s.data.toList.drop (s0 + c)).take ft.length = ft := HTK.out
                      have hen : s0 + c + ft.length ≤ s.size := HEND.out
                      have hnx : LayA s.data.toList s0 (s0 + c + ft.length) (fs.drop (m + 1)) := HNX.out
                      have HNX' := Lib.hid hnx
                      have c1 := cut_at htk hen
                      have c2' : (S ft).size = ft.length := S_size ft
                      have e4 : IntKind.i64.wrap ((m : Int) + 1) = (m : Int) + 1 := IntWalk.i64_in _ (by have := HC.out; omega)
                      clear htk hnx
                      go_wp2
                      go_roundw
                      case rel => exact ⟨m + 1, s0 + c + ft.length, by omega, by go_num, by go_num, HZ1.out, HZS.out, HZ2.out, HNX'.out⟩
                      case measure => simp [intOf]; omega
                    | true =>
                      have htk : (s.data.toList.drop (s0 + c)).take (quoteS ft).length = quoteS ft := HTK.out
                      have hen : s0 + c + (quoteS ft).length ≤ s.size := HEND.out
                      have hnx : LayA s.data.toList s0 (s0 + c + (quoteS ft).length) (fs.drop (m + 1)) := HNX.out
                      have HNX' := Lib.hid hnx
                      have c1 := cut_at htk hen
                      have c2' : (S (quoteS ft)).size = (quoteS ft).length := S_size _
                      have hql := quoteS_len ft
                      have e4 : IntKind.i64.wrap ((m : Int) + 1) = (m : Int) + 1 := IntWalk.i64_in _ (by have := HC.out; omega)
                      have hk3 := text_Quote (S ft) wr (HG.out.below (HB2.out.trans (HZ1.out.mono HB2.out.size))).glob (by rw [S_size]; omega)
                      rw [S_data] at hk3
                      have K3 := Lib.hid hk3
                      clear htk hnx hk3
                      go_wp2_with (go_at_call 7; refine K3.out.mono ?_; rintro e7 w7 ⟨rfl, hb7⟩; have HB7 := Lib.hid hb7; clear hb7)
                      go_roundw
                      case rel => exact ⟨m + 1, s0 + c + (quoteS ft).length, by omega, by go_num, by go_num, HZ1.out.trans (HB7.out.mono HZ1.out.size), Nat.lt_of_lt_of_le HZS.out HB7.out.size, HZ2.out.below HB7.out HZ2.out.lt, HNX'.out⟩
                      case measure => simp [intOf]; omega
              · obtain rfl : m = fs.length := by omega
                go_wp2
                go_roundw
                case rel => exact ⟨k + 1, by omega, by go_num, HBX.out⟩
                case measure => simp [intOf]; omega
          · obtain rfl : k = q.1.length := by omega
            go_wp2
            go_ret
            exact ⟨rfl, HB2.out.trans (HBW.out.mono HB2.out.size)⟩
end Go.Proofs.YtakgmdagjaenpaaDoor
