/- The walks of the reference for otp: on, Life, Counter. -/
import Derived.Test.YtoefaghakjcfcaaCnt
namespace Go.Proofs.Ytoefaghakjcfcaa
open Go.RowKit

theorem bit_rem (x : BitVec 32) (t : Nat) : (U32 (x >>> t)).tmod 2 = (((if x.getLsbD t then 1 else 0) : Nat) : Int) := by
  rw [U32_eq, Int.tmod_eq_emod_of_nonneg (by omega), BitVec.toNat_ushiftRight]
  have e : x.getLsbD t = x.toNat.testBit t := rfl
  rw [e, Nat.testBit_eq_decide_div_mod_eq, Nat.shiftRight_eq_div_pow]
  have e2 : ((x.toNat / 2 ^ t : Nat) : Int) % 2 = ((x.toNat / 2 ^ t % 2 : Nat) : Int) := by omega
  rw [e2]
  rcases Nat.mod_two_eq_zero_or_one (x.toNat / 2 ^ t) with h | h
  · rw [h]; rfl
  · rw [h]; rfl
theorem onB_cnt (x : BitVec 32) (i : Nat) : onB x.toNat i = decide (5 ≤ cnt (fun t => x.getLsbD (8 * i + t)) 8) := by
  have h := pc_cnt 8 (x >>> (8 * i))
  rw [BitVec.toNat_ushiftRight, Nat.shiftRight_eq_div_pow] at h
  rw [onB, h]
  simp only [BitVec.getLsbD_ushiftRight]

set_option maxRecDepth 100000 in
set_option maxHeartbeats 1000000 in
theorem ref_on (x : BitVec 32) (i : Nat) (w : World) (hi : i ≤ 3) :
    Calls Try.prog 44 #[.int .u32 (U32 x), .int .i64 i] w fun e w' => e = .returned (.bool (onB x.toNat i)) ∧ w = w' := by
  rw [onB_cnt]
  obtain ⟨f, hf⟩ : ∃ f : Nat → Bool, (fun t => x.getLsbD (8 * i + t)) = f := ⟨_, rfl⟩
  rw [hf]
  have hf2 : ∀ t, f t = x.getLsbD (8 * i + t) := fun t => by rw [← hf]
  have HF := Lib.hid hf2
  clear hf hf2
  go_enter Try.func44, Try.ntmps44
  go_wp2_with fail
  go_loop [5, 6] (fun n k => ∃ j : Nat, j ≤ 8 ∧ k = .int .i64 (8 * i + j : Nat) ∧ n = .int .i64 (cnt f j)) (fun _ k => 32 - (intOf k).toNat)
  case atStart => exact ⟨0, by omega, by go_num, rfl⟩
  case round =>
    obtain ⟨j, hj, rfl, rfl⟩ := hrel
    have hcl := cnt_le f j
    by_cases hlt : j < 8
    · have hsh := u32_shr_bv x (8 * i + j) (by omega)
      have hbt := bit_rem x (8 * i + j)
      rw [← HF.out] at hbt
      obtain ⟨bv, hbv⟩ : ∃ bv : Nat, (if f j then 1 else 0) = bv := ⟨_, rfl⟩
      have hbv1 : bv ≤ 1 := by rw [← hbv]; split <;> omega
      rw [hbv] at hbt
      have hcn : cnt f (j + 1) = cnt f j + bv := by rw [cnt, hbv]
      have HCN := Lib.hid hcn
      clear hbv hcn
      generalize cnt f j = cv at *
      generalize hm : 8 * i + j = m at *
      have hlt2 : (m : Int) < 8 * i + 8 := by omega
      go_wp2
      go_round
      case rel => exact ⟨j + 1, by omega, by go_num, by rw [HCN.out]; go_num⟩
      case measure => simp [intOf]; omega
    · have h8 : j = 8 := by omega
      subst h8
      obtain ⟨cv, hcv⟩ : ∃ cv, cnt f 8 = cv := ⟨_, rfl⟩
      rw [hcv] at hcl ⊢
      have HCV := Lib.hid hcv; clear hcv
      go_wp2
      go_ret
      rw [HCV.out]
      refine ⟨?_, rfl⟩
      have : decide ((5 : Int) ≤ cv) = decide (5 ≤ cv) := decide_eq_decide.2 (by omega)
      first | rfl | simp [this]

set_option maxRecDepth 100000 in
set_option maxHeartbeats 1000000 in
theorem ref_life (b o n cap : Nat) (V : List (BitVec 32)) (w : World) (hn : 1 ≤ n) (hV : V.length = n) (hu : U32At w b o V) :
    Calls Try.prog 21 #[.slice (some ⟨b, o, none⟩) n cap] w fun e w' => e = .returned (.int .i64 (lifeTo (V.getD 0 0).toNat 4)) ∧ w = w' := by
  obtain ⟨x, hx⟩ : ∃ x, V.getD 0 0 = x := ⟨_, rfl⟩
  have hx2 := getD_some hx (by omega)
  have hux := hu.at hx2
  rw [Nat.add_zero] at hux
  rw [hx]
  clear hx hx2 hu hV
  go_enter Try.func21, Try.ntmps21
  go_wp2_with fail
  go_loopw [3, 4] (fun out k wr => ∃ j : Nat, j ≤ 4 ∧ k = .int .i64 j ∧ out = .int .i64 (lifeTo x.toNat j) ∧ wr = w) (fun _ k _ => 4 - (intOf k).toNat)
  case atStart => exact ⟨0, by omega, rfl, rfl, rfl⟩
  case round =>
    obtain ⟨j, hj, rfl, rfl, rfl⟩ := hrel
    by_cases hlt : j < 4
    · have hL : lifeTo x.toNat (j + 1) = if onB x.toNat j then j + 1 else lifeTo x.toNat j := rfl
      have HL := Lib.hid hL; clear hL
      have hle := lifeTo_le x.toNat j
      generalize lifeTo x.toNat j = lf at *
      go_wp2_with fail
      refine (ref_on x j _ (by omega)).mono ?_
      rintro e w1 ⟨rfl, rfl⟩
      cases hb : onB x.toNat j with
      | true =>
        rw [hb, if_pos rfl] at HL
        clear hb
        go_wp2
        go_roundw
        case rel => exact ⟨j + 1, by omega, by go_num, by rw [HL.out]; go_num, by first | rfl | trivial⟩
        case measure => simp [intOf]; omega
      | false =>
        rw [hb, if_neg (by decide)] at HL
        clear hb
        go_wp2
        go_roundw
        case rel => exact ⟨j + 1, by omega, by go_num, by rw [HL.out], by first | rfl | trivial⟩
        case measure => simp [intOf]; omega
    · have h4 : j = 4 := by omega
      subst h4
      obtain ⟨lf, hlf⟩ : ∃ lf, lifeTo x.toNat 4 = lf := ⟨_, rfl⟩
      rw [hlf]
      have HLF := Lib.hid hlf; clear hlf
      go_wp2
      go_ret
      rw [HLF.out]
      exact ⟨rfl, rfl⟩

set_option maxRecDepth 100000 in
set_option maxHeartbeats 1000000 in
theorem ref_counter (b o n cap : Nat) (V : List (BitVec 32)) (w : World) (hn : 64 ≤ n) (hV : V.length = n) (hu : U32At w b o V) :
    Calls Try.prog 22 #[.slice (some ⟨b, o, none⟩) n cap] w fun e w' => e = .returned (.int .i64 (cntTo V 8)) ∧ w = w' := by
  rw [count_cnt]
  obtain ⟨f, hf⟩ : ∃ f : Nat → Bool, bitAt (ctr V) = f := ⟨_, rfl⟩
  rw [hf]
  have HF := Lib.hid hf; have HV := Lib.hid hV; have HU := Lib.hid hu
  clear hf hV hu
  go_enter Try.func22, Try.ntmps22
  go_wp2_with fail
  go_loopw [3, 4] (fun c k wr => ∃ j : Nat, j ≤ 255 ∧ k = .int .i64 j ∧ c = .int .i64 (cnt f j) ∧ wr = w) (fun _ k _ => 255 - (intOf k).toNat)
  case atStart => exact ⟨0, by omega, rfl, rfl, rfl⟩
  case round =>
    obtain ⟨j, hj, rfl, rfl, rfl⟩ := hrel
    have hcl := cnt_le f j
    by_cases hlt : j < 255
    · obtain ⟨x, hx⟩ : ∃ x, V.getD (1 + j / 32) 0 = x := ⟨_, rfl⟩
      have hx2 := getD_some hx (by rw [HV.out]; omega)
      have hux := HU.out.at hx2
      have hsh := u32_shr_bv x (j % 32) (by omega)
      have hbt := bit_rem x (j % 32)
      have hfb : f j = x.getLsbD (j % 32) := by rw [← HF.out, bitAt_ctr _ _ (by omega), ← hx, Nat.add_comm]
      rw [← hfb] at hbt
      obtain ⟨bv, hbv⟩ : ∃ bv : Nat, (if f j then 1 else 0) = bv := ⟨_, rfl⟩
      have hbv1 : bv ≤ 1 := by rw [← hbv]; split <;> omega
      rw [hbv] at hbt
      have hcn : cnt f (j + 1) = cnt f j + bv := by rw [cnt, hbv]
      have HCN := Lib.hid hcn
      clear hbv hcn hx hx2 hfb
      generalize cnt f j = cv at *
      have hq : (j : Int).tdiv 32 = ((j / 32 : Nat) : Int) := by rw [Int.tdiv_eq_ediv_of_nonneg (by omega)]; omega
      have hq2 : (j : Int).tmod 32 = ((j % 32 : Nat) : Int) := by rw [Int.tmod_eq_emod_of_nonneg (by omega)]; omega
      have hj7 : j / 32 ≤ 7 := by omega
      have hm31 : j % 32 ≤ 31 := by omega
      generalize j / 32 = jd at *
      generalize j % 32 = jm at *
      go_wp2
      go_roundw
      case rel => exact ⟨j + 1, by omega, by go_num, by rw [HCN.out]; go_num, by first | rfl | trivial⟩
      case measure => simp [intOf]; omega
    · have h8 : j = 255 := by omega
      subst h8
      obtain ⟨cv, hcv⟩ : ∃ cv, cnt f 255 = cv := ⟨_, rfl⟩
      rw [hcv]
      have HCV := Lib.hid hcv; clear hcv
      go_wp2
      go_ret
      rw [HCV.out]
      exact ⟨rfl, rfl⟩
end Go.Proofs.Ytoefaghakjcfcaa
