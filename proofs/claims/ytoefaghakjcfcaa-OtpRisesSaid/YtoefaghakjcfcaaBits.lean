/- The walks of math/bits. -/
import Derived.Test.YtoefaghakjcfcaaRows
import Derived.Test.YtoefaghakjcfcaaLib
import Derived.Test.YtoefaghakjcfcaaPop
import Derived.Lib.Strings
import Derived.Lib.Slices
import Derived.Lib.Small
import Derived.Lib.Walk
import Derived.Lib.BitFns
import Derived.Deep.QuietTactic
import Derived.BigQuiet
namespace Go.Proofs.Ytoefaghakjcfcaa
open Go.RowKit

theorem ret_int {k : IntKind} {a b : Int} (h : a = b) : Ending.returned (.int k a) = .returned (.int k b) := by rw [h]

set_option maxRecDepth 100000 in
theorem ones8 (x : Int) (w : World) (h0 : 0 ≤ x) (h1 : x ≤ 255) :
    Calls Try.prog 55 #[.int .u8 x] w fun e w' => e = .returned (.int .i64 (pc 8 x.toNat)) ∧ w = w' := by
  go_enter Try.func55, Try.ntmps55
  go_wp2
  go_ret
  rw [pc_eq]
  refine ⟨ret_int ?_, rfl⟩
  obtain ⟨n, rfl⟩ := Int.eq_ofNat_of_zero_le h0
  have g := pop_le 8 n
  rw [pop8_nat _ (by omega)]
  simp only [Int.toNat_natCast, wrap64]
  omega

theorem and255 (y : Int) (h0 : 0 ≤ y) (h1 : y ≤ 4294967295) : bits .and .u32 y 255 = y % 256 := by
  rw [u32_and y 255 h0 (by omega) (by omega) (by omega)]
  have : y.toNat &&& (255 : Int).toNat = y.toNat % 256 := Nat.and_two_pow_sub_one_eq_mod y.toNat 8
  rw [this]; omega

set_option maxRecDepth 100000 in
set_option maxHeartbeats 1000000 in
theorem ones32 (x : Int) (w : World) (h0 : 0 ≤ x) (h1 : x ≤ 4294967295) :
    Calls Try.prog 40 #[.int .u32 x] w fun e w' => e = .returned (.int .i64 (pc 32 x.toNat)) ∧ ∃ n, w' = w.drewN n := by
  go_enter Try.func40, Try.ntmps40
  have a1 : 0 ≤ x / 16777216 := by omega
  have a2 : x / 16777216 ≤ 255 := by omega
  have eb : bits .and .u32 (x / 65536) 255 = x / 65536 % 256 := and255 _ (by omega) (by omega)
  have ec : bits .and .u32 (x / 256) 255 = x / 256 % 256 := and255 _ (by omega) (by omega)
  have ed : bits .and .u32 x 255 = x % 256 := and255 _ (by omega) (by omega)
  have b1 : 0 ≤ x / 65536 % 256 := by omega
  have b2 : x / 65536 % 256 ≤ 255 := by omega
  have c1 : 0 ≤ x / 256 % 256 := by omega
  have c2 : x / 256 % 256 ≤ 255 := by omega
  have d1 : 0 ≤ x % 256 := by omega
  have d2 : x % 256 ≤ 255 := by omega
  go_wp2_with fail
  go_quiet (fail)
  go_wp2
  go_ret
  rw [pc_eq]
  refine ⟨?_, _, rfl⟩
  obtain ⟨n, rfl⟩ := Int.eq_ofNat_of_zero_le h0
  have e1 : ((n : Int) / 16777216) = ((n / 16777216 : Nat) : Int) := by omega
  have e2 : ((n : Int) / 65536 % 256) = ((n / 65536 % 256 : Nat) : Int) := by omega
  have e3 : ((n : Int) / 256 % 256) = ((n / 256 % 256 : Nat) : Int) := by omega
  have e4 : ((n : Int) % 256) = ((n % 256 : Nat) : Int) := by omega
  have f := pop_four n (by omega)
  have g := pop_le 32 n
  refine ret_int ?_
  rw [e1, e2, e3, e4, pop8_nat _ (by omega), pop8_nat _ (by omega), pop8_nat _ (by omega), pop8_nat _ (by omega)]
  simp only [Int.toNat_natCast]
  omega

theorem ones8_bv (x : BitVec 8) (w : World) :
    Calls Try.prog 55 #[.int .u8 (U8 x)] w fun e w' => e = .returned (.int .i64 (pc 8 x.toNat)) ∧ w = w' := by
  have h := U8_bd x
  refine (ones8 (U8 x) w h.1 (by omega)).mono ?_
  rintro e w' ⟨rfl, rfl⟩
  exact ⟨by rw [U8_toNat], rfl⟩
theorem ones32_bv (x : BitVec 32) (w : World) :
    Calls Try.prog 40 #[.int .u32 (U32 x)] w fun e w' => e = .returned (.int .i64 (pc 32 x.toNat)) ∧ ∃ n, w' = w.drewN n := by
  have h := U32_bd x
  refine (ones32 (U32 x) w h.1 (by omega)).mono ?_
  rintro e w' ⟨rfl, n, rfl⟩
  exact ⟨by rw [U32_toNat], n, rfl⟩

end Go.Proofs.Ytoefaghakjcfcaa
