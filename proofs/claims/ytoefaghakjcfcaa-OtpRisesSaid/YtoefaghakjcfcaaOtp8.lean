/- The walk of (*otp.Chip).Row. -/
import Derived.Test.YtoefaghakjcfcaaOtp7
namespace Go.Proofs.Ytoefaghakjcfcaa
open Go.RowKit

def zero32 : List (BitVec 8) := List.replicate 32 0
/-- What a row tells: a key, or the error. -/
def rowOf (ws : List (BitVec 32 × Bool)) (sl : Bool) (i : Int) : List (BitVec 8) × Nat :=
  if i < 0 ∨ i ≥ 4 then (zero32, 1)
  else if sl then (zero32, 12)
  else if onB ((vals ws).getD (35 + 9 * i.toNat) 0).toNat 1 then (zero32, 17)
  else if !onB ((vals ws).getD (35 + 9 * i.toNat) 0).toNat 0 then (zero32, 3)
  else ((((vals ws).drop (27 + 9 * i.toNat)).take 8).flatMap be4, 0)

set_option maxRecDepth 100000 in
set_option maxHeartbeats 2000000 in
theorem otp_row_arg (r : Ref) (i : Int) (w : World) (hi : i < 0 ∨ i ≥ 4) :
    Calls Try.prog 27 #[.pointer (some ⟨r.bc, 0, none⟩), .int .i64 i] w fun e w' => e = .returned (.tuple #[.agg (u8s zero32).toArray, .int .i64 1]) ∧ Below w.heap.size w w' := by
  have ha : atOf i = (0, 1) := if_pos hi
  have HA := Lib.hid ha; clear ha hi
  obtain ⟨W1, hW1, b1, b2, hs⟩ := allocs1 w z32 41
  have HW1 := Lib.hid hW1; clear hW1
  have hz : (u8s zero32).length = 32 := by rw [u8s_length]; rfl
  have HZ := Lib.hid hz; clear hz
  go_enter Try.func27, Try.ntmps27
  go_wp2_with fail
  change Calls _ _ _ (w.alloc (.cells z32.toArray 41)) _
  rw [HW1.out]
  refine (otp_at _ _).mono ?_
  rintro e w1 ⟨rfl, rfl⟩
  rw [HA.out]
  go_wp2_with ((with_reducible refine at_store 41 ?_); refine wpList_store_blk _ 0 rfl z32 rfl _ _ b1 (by kernel_rfl) (by decide) z32_one ?_; intro w5 h5 k5)
  rw [splice_z32] at h5
  refine bodyPost_ret (v := .tuple #[.agg (u8s zero32).toArray, .int .i64 1]) (results_blk_tmp rfl _ _ _ _ _ _ _ rfl rfl h5 Try.underlying41 rfl (by rw [HZ.out]; kernel_rfl)) rfl ⟨rfl, ?_⟩
  exact b2.trans ⟨k5.os, k5.tape, k5.output, k5.size, fun j hj => k5.block j (by omega) (by omega)⟩

set_option maxRecDepth 100000 in
set_option maxHeartbeats 2000000 in
theorem otp_row_sealed (r : Ref) (ws : List (BitVec 32 × Bool)) (i : Int) (w : World) (hi : ¬ (i < 0 ∨ i ≥ 4)) (h : ChipAt w r ws true) :
    Calls Try.prog 27 #[.pointer (some ⟨r.bc, 0, none⟩), .int .i64 i] w fun e w' => e = .returned (.tuple #[.agg (u8s zero32).toArray, .int .i64 12]) ∧ Below w.heap.size w w' := by
  have ha : atOf i = (27 + 9 * i, 0) := if_neg hi
  have HA := Lib.hid ha; clear ha hi
  obtain ⟨W1, hW1, b1, b2, hs⟩ := allocs1 w z32 41
  have HW1 := Lib.hid hW1; clear hW1
  have hz : (u8s zero32).length = 32 := by rw [u8s_length]; rfl
  have HZ := Lib.hid hz; clear hz
  have hcl := (h.chip.below b2 h.chip.lt).cell 1
  simp only [List.getElem?_cons_succ, List.getElem?_cons_zero] at hcl
  go_enter Try.func27, Try.ntmps27
  go_wp2_with fail
  change Calls _ _ _ (w.alloc (.cells z32.toArray 41)) _
  rw [HW1.out]
  refine (otp_at _ _).mono ?_
  rintro e w1 ⟨rfl, rfl⟩
  rw [HA.out]
  go_wp2_with ((with_reducible refine at_store 41 ?_); refine wpList_store_blk _ 0 rfl z32 rfl _ _ b1 (by kernel_rfl) (by decide) z32_one ?_; intro w5 h5 k5)
  rw [splice_z32] at h5
  refine bodyPost_ret (v := .tuple #[.agg (u8s zero32).toArray, .int .i64 12]) (results_blk_tmp rfl _ _ _ _ _ _ _ rfl rfl h5 Try.underlying41 rfl (by rw [HZ.out]; kernel_rfl)) rfl ⟨rfl, ?_⟩
  exact b2.trans ⟨k5.os, k5.tape, k5.output, k5.size, fun j hj => k5.block j (by omega) (by omega)⟩

set_option maxRecDepth 100000 in
set_option maxHeartbeats 2000000 in
theorem otp_row_dead (r : Ref) (ws : List (BitVec 32 × Bool)) (i : Int) (w : World) (hi : ¬ (i < 0 ∨ i ≥ 4)) (h : ChipAt w r ws false) (hm1 : onB ((vals ws).getD (35 + 9 * i.toNat) 0).toNat 1 = true) :
    Calls Try.prog 27 #[.pointer (some ⟨r.bc, 0, none⟩), .int .i64 i] w fun e w' => e = .returned (.tuple #[.agg (u8s zero32).toArray, .int .i64 17]) ∧ Below w.heap.size w w' := by
  have ha : atOf i = (27 + 9 * i, 0) := if_neg hi
  have HA := Lib.hid ha; clear ha
  obtain ⟨k, rfl⟩ := Int.eq_ofNat_of_zero_le (show 0 ≤ i by omega)
  have hk : k < 4 := by omega
  simp only [Int.toNat_natCast] at hm1
  clear hi
  have hl := h.len
  obtain ⟨L, hL⟩ : ∃ L, L = vals ws := ⟨_, rfl⟩
  have hLl : L.length = 64 := by rw [hL, vals_length]; exact hl
  rw [← hL] at hm1
  obtain ⟨m, hm⟩ : ∃ m, L.getD (35 + 9 * k) 0 = m := ⟨_, rfl⟩
  have hm2 := getD_some hm (by omega)
  rw [hm] at hm1
  have HL := Lib.hid hL; have HLL := Lib.hid hLl; have HM2 := Lib.hid hm2; clear hL hLl hl hm hm2
  have HM1 := Lib.hid hm1; clear hm1
  obtain ⟨W1, hW1, b1, b2, hs⟩ := allocs1 w z32 41
  have HW1 := Lib.hid hW1; clear hW1
  have hz : (u8s zero32).length = 32 := by rw [u8s_length]; rfl
  have HZ := Lib.hid hz; clear hz
  have hcl := (h.chip.below b2 h.chip.lt).cell 1
  simp only [List.getElem?_cons_succ, List.getElem?_cons_zero] at hcl
  go_enter Try.func27, Try.ntmps27
  go_wp2_with fail
  change Calls _ _ _ (w.alloc (.cells z32.toArray 41)) _
  rw [HW1.out]
  refine (otp_at _ _).mono ?_
  rintro e w1 ⟨rfl, rfl⟩
  rw [HA.out]
  go_wp2_with fail
  refine (otp_all r ws false _ (h.below b2 (Nat.le_refl _))).mono ?_
  rintro e w2 ⟨g, cap, rfl, hcap, hg, hg1, hu, hb1⟩
  rw [← HL.out] at hu
  have hum := hu.at HM2.out
  rw [Nat.zero_add] at hum
  have HU := Lib.hid hu; clear hu
  have hs1 := hb1.size
  have b1' := b1.below hb1 (by omega)
  have hsl := fun wx => run_piece (P := Try.prog) Try.underlying31 (by kernel_rfl : (Try.prog.info? 36).map (·.size) = some 1) g 0 64 cap .i64 .i64 (27 + 9 * (k : Int)) (27 + 9 * (k : Int) + 9) (27 + 9 * k) (27 + 9 * k + 9) (by omega) (by omega) (by omega) (by omega) (by omega) wx
  simp only [Nat.mul_one, Nat.zero_add, show 27 + 9 * k + 9 - (27 + 9 * k) = 9 by omega] at hsl
  have hum2 : w2.cell? ⟨g, 27 + 9 * k + 8, none⟩ = some (.int .u32 (U32 m)) := by rw [show 27 + 9 * k + 8 = 35 + 9 * k by omega]; exact hum
  clear hum
  go_wp2_with fail
  refine (otp_on m 1 _ (by omega)).mono ?_
  rintro e w3 ⟨rfl, rfl⟩
  rw [HM1.out]
  go_wp2_with ((with_reducible refine at_store 41 ?_); refine wpList_store_blk _ 0 rfl z32 rfl _ _ b1' (by kernel_rfl) (by decide) z32_one ?_; intro w5 h5 k5)
  rw [splice_z32] at h5
  refine bodyPost_ret (v := .tuple #[.agg (u8s zero32).toArray, .int .i64 17]) (results_blk_tmp rfl _ _ _ _ _ _ _ rfl rfl h5 Try.underlying41 rfl (by rw [HZ.out]; kernel_rfl)) rfl ⟨rfl, ?_⟩
  exact (b2.trans (hb1.mono (by omega))).trans ⟨k5.os, k5.tape, k5.output, k5.size, fun j hj => k5.block j (by omega) (by omega)⟩

set_option maxRecDepth 100000 in
set_option maxHeartbeats 2000000 in
theorem otp_row_none (r : Ref) (ws : List (BitVec 32 × Bool)) (i : Int) (w : World) (hi : ¬ (i < 0 ∨ i ≥ 4)) (h : ChipAt w r ws false) (hm1 : onB ((vals ws).getD (35 + 9 * i.toNat) 0).toNat 1 = false) (hm0 : onB ((vals ws).getD (35 + 9 * i.toNat) 0).toNat 0 = false) :
    Calls Try.prog 27 #[.pointer (some ⟨r.bc, 0, none⟩), .int .i64 i] w fun e w' => e = .returned (.tuple #[.agg (u8s zero32).toArray, .int .i64 3]) ∧ Below w.heap.size w w' := by
  have ha : atOf i = (27 + 9 * i, 0) := if_neg hi
  have HA := Lib.hid ha; clear ha
  obtain ⟨k, rfl⟩ := Int.eq_ofNat_of_zero_le (show 0 ≤ i by omega)
  have hk : k < 4 := by omega
  simp only [Int.toNat_natCast] at hm1 hm0
  clear hi
  have hl := h.len
  obtain ⟨L, hL⟩ : ∃ L, L = vals ws := ⟨_, rfl⟩
  have hLl : L.length = 64 := by rw [hL, vals_length]; exact hl
  rw [← hL] at hm1 hm0
  obtain ⟨m, hm⟩ : ∃ m, L.getD (35 + 9 * k) 0 = m := ⟨_, rfl⟩
  have hm2 := getD_some hm (by omega)
  rw [hm] at hm1 hm0
  have HL := Lib.hid hL; have HLL := Lib.hid hLl; have HM2 := Lib.hid hm2; clear hL hLl hl hm hm2
  have HM1 := Lib.hid hm1; clear hm1
  have HM0 := Lib.hid hm0; clear hm0
  obtain ⟨W1, hW1, b1, b2, hs⟩ := allocs1 w z32 41
  have HW1 := Lib.hid hW1; clear hW1
  have hz : (u8s zero32).length = 32 := by rw [u8s_length]; rfl
  have HZ := Lib.hid hz; clear hz
  have hcl := (h.chip.below b2 h.chip.lt).cell 1
  simp only [List.getElem?_cons_succ, List.getElem?_cons_zero] at hcl
  go_enter Try.func27, Try.ntmps27
  go_wp2_with fail
  change Calls _ _ _ (w.alloc (.cells z32.toArray 41)) _
  rw [HW1.out]
  refine (otp_at _ _).mono ?_
  rintro e w1 ⟨rfl, rfl⟩
  rw [HA.out]
  go_wp2_with fail
  refine (otp_all r ws false _ (h.below b2 (Nat.le_refl _))).mono ?_
  rintro e w2 ⟨g, cap, rfl, hcap, hg, hg1, hu, hb1⟩
  rw [← HL.out] at hu
  have hum := hu.at HM2.out
  rw [Nat.zero_add] at hum
  have HU := Lib.hid hu; clear hu
  have hs1 := hb1.size
  have b1' := b1.below hb1 (by omega)
  have hsl := fun wx => run_piece (P := Try.prog) Try.underlying31 (by kernel_rfl : (Try.prog.info? 36).map (·.size) = some 1) g 0 64 cap .i64 .i64 (27 + 9 * (k : Int)) (27 + 9 * (k : Int) + 9) (27 + 9 * k) (27 + 9 * k + 9) (by omega) (by omega) (by omega) (by omega) (by omega) wx
  simp only [Nat.mul_one, Nat.zero_add, show 27 + 9 * k + 9 - (27 + 9 * k) = 9 by omega] at hsl
  have hum2 : w2.cell? ⟨g, 27 + 9 * k + 8, none⟩ = some (.int .u32 (U32 m)) := by rw [show 27 + 9 * k + 8 = 35 + 9 * k by omega]; exact hum
  clear hum
  go_wp2_with fail
  refine (otp_on m 1 _ (by omega)).mono ?_
  rintro e w3 ⟨rfl, rfl⟩
  rw [HM1.out]
  go_wp2_with fail
  refine (otp_on m 0 _ (by omega)).mono ?_
  rintro e w3 ⟨rfl, rfl⟩
  rw [HM0.out]
  go_wp2_with ((with_reducible refine at_store 41 ?_); refine wpList_store_blk _ 0 rfl z32 rfl _ _ b1' (by kernel_rfl) (by decide) z32_one ?_; intro w5 h5 k5)
  rw [splice_z32] at h5
  refine bodyPost_ret (v := .tuple #[.agg (u8s zero32).toArray, .int .i64 3]) (results_blk_tmp rfl _ _ _ _ _ _ _ rfl rfl h5 Try.underlying41 rfl (by rw [HZ.out]; kernel_rfl)) rfl ⟨rfl, ?_⟩
  exact (b2.trans (hb1.mono (by omega))).trans ⟨k5.os, k5.tape, k5.output, k5.size, fun j hj => k5.block j (by omega) (by omega)⟩

set_option maxRecDepth 100000 in
set_option maxHeartbeats 2000000 in
theorem otp_row_ok (r : Ref) (ws : List (BitVec 32 × Bool)) (i : Int) (w : World) (hi : ¬ (i < 0 ∨ i ≥ 4)) (h : ChipAt w r ws false) (hm1 : onB ((vals ws).getD (35 + 9 * i.toNat) 0).toNat 1 = false) (hm0 : onB ((vals ws).getD (35 + 9 * i.toNat) 0).toNat 0 = true) :
    Calls Try.prog 27 #[.pointer (some ⟨r.bc, 0, none⟩), .int .i64 i] w fun e w' => e = .returned (.tuple #[.agg (u8s ((((vals ws).drop (27 + 9 * i.toNat)).take 8).flatMap be4)).toArray, .int .i64 0]) ∧ Below w.heap.size w w' := by
  have ha : atOf i = (27 + 9 * i, 0) := if_neg hi
  have HA := Lib.hid ha; clear ha
  obtain ⟨k, rfl⟩ := Int.eq_ofNat_of_zero_le (show 0 ≤ i by omega)
  have hk : k < 4 := by omega
  simp only [Int.toNat_natCast] at hm1 hm0 ⊢
  clear hi
  have hl := h.len
  obtain ⟨L, hL⟩ : ∃ L, L = vals ws := ⟨_, rfl⟩
  have hLl : L.length = 64 := by rw [hL, vals_length]; exact hl
  rw [← hL] at hm1 hm0
  rw [← hL]
  obtain ⟨m, hm⟩ : ∃ m, L.getD (35 + 9 * k) 0 = m := ⟨_, rfl⟩
  have hm2 := getD_some hm (by omega)
  rw [hm] at hm1 hm0
  have HL := Lib.hid hL; have HLL := Lib.hid hLl; have HM2 := Lib.hid hm2; clear hL hLl hl hm hm2
  have HM1 := Lib.hid hm1; clear hm1
  have HM0 := Lib.hid hm0; clear hm0
  obtain ⟨K, hK⟩ : ∃ K, (L.drop (27 + 9 * k)).take 8 = K := ⟨_, rfl⟩
  have hKl : K.length = 8 := by rw [← hK, List.length_take, List.length_drop, HLL.out]; omega
  have hDl : (u8s (K.flatMap be4)).length = 32 := by rw [u8s_length, flat_be4_length, hKl]
  have hUl : (u32s K).length = 8 := by rw [u32s_length, hKl]
  rw [hK]
  have HK := Lib.hid hK; have HKL := Lib.hid hKl; have HDL := Lib.hid hDl; have HUL := Lib.hid hUl; clear hK hKl hDl hUl
  obtain ⟨W1, hW1, b1, b2, hs⟩ := allocs1 w z32 41
  have HW1 := Lib.hid hW1; clear hW1
  have hz : (u8s zero32).length = 32 := by rw [u8s_length]; rfl
  have HZ := Lib.hid hz; clear hz
  have hcl := (h.chip.below b2 h.chip.lt).cell 1
  simp only [List.getElem?_cons_succ, List.getElem?_cons_zero] at hcl
  go_enter Try.func27, Try.ntmps27
  go_wp2_with fail
  change Calls _ _ _ (w.alloc (.cells z32.toArray 41)) _
  rw [HW1.out]
  refine (otp_at _ _).mono ?_
  rintro e w1 ⟨rfl, rfl⟩
  rw [HA.out]
  go_wp2_with fail
  refine (otp_all r ws false _ (h.below b2 (Nat.le_refl _))).mono ?_
  rintro e w2 ⟨g, cap, rfl, hcap, hg, hg1, hu, hb1⟩
  rw [← HL.out] at hu
  have hum := hu.at HM2.out
  rw [Nat.zero_add] at hum
  have HU := Lib.hid hu; clear hu
  have hs1 := hb1.size
  have b1' := b1.below hb1 (by omega)
  have hsl := fun wx => run_piece (P := Try.prog) Try.underlying31 (by kernel_rfl : (Try.prog.info? 36).map (·.size) = some 1) g 0 64 cap .i64 .i64 (27 + 9 * (k : Int)) (27 + 9 * (k : Int) + 9) (27 + 9 * k) (27 + 9 * k + 9) (by omega) (by omega) (by omega) (by omega) (by omega) wx
  simp only [Nat.mul_one, Nat.zero_add, show 27 + 9 * k + 9 - (27 + 9 * k) = 9 by omega] at hsl
  have hum2 : w2.cell? ⟨g, 27 + 9 * k + 8, none⟩ = some (.int .u32 (U32 m)) := by rw [show 27 + 9 * k + 8 = 35 + 9 * k by omega]; exact hum
  clear hum
  go_wp2_with fail
  refine (otp_on m 1 _ (by omega)).mono ?_
  rintro e w3 ⟨rfl, rfl⟩
  rw [HM1.out]
  go_wp2_with fail
  refine (otp_on m 0 _ (by omega)).mono ?_
  rintro e w3 ⟨rfl, rfl⟩
  rw [HM0.out]
  have huK := (HU.out.sub (27 + 9 * k) 8).get
  rw [HK.out, Nat.zero_add] at huK
  have HUK := Lib.hid huK; clear huK
  have har := fun (ad : Addr) (c : Nat) wx => run_arrayAt (P := Try.prog) ad 8 c Try.underlying75 (Nat.le_refl _) wx
  go_wp2_with ((with_reducible refine at_load 75 ?_); refine wpList_load_cells _ _ (u32s K) rfl _ HUK.out Try.underlying75 rfl (by rw [HUL.out]; kernel_rfl) ?_)
  refine (sha_digest K HKL.out _).mono ?_
  rintro e w4 ⟨rfl, hb4⟩
  have hs4 := hb4.size
  have b1'' := b1'.below hb4 (by omega)
  go_wp2_with ((with_reducible refine at_store 41 ?_); refine wpList_store_blk _ 0 rfl (u8s (K.flatMap be4)) rfl _ _ b1'' (by rw [HDL.out]; kernel_rfl) (by rw [HDL.out]; decide) (u8s_one _) ?_; intro w5 h5 k5)
  rw [splice_all _ _ (by rw [HDL.out]; rfl)] at h5
  refine bodyPost_ret (v := .tuple #[.agg (u8s (K.flatMap be4)).toArray, .int .i64 0]) (results_blk_tmp rfl _ _ _ _ _ _ _ rfl rfl h5 Try.underlying41 rfl (by rw [HDL.out]; kernel_rfl)) rfl ⟨rfl, ?_⟩
  exact ((b2.trans (hb1.mono (by omega))).trans (hb4.mono (by omega))).trans ⟨k5.os, k5.tape, k5.output, k5.size, fun j hj => k5.block j (by omega) (by omega)⟩

theorem otp_row (r : Ref) (ws : List (BitVec 32 × Bool)) (sl : Bool) (i : Int) (w : World) (h : ChipAt w r ws sl) :
    Calls Try.prog 27 #[.pointer (some ⟨r.bc, 0, none⟩), .int .i64 i] w fun e w' => e = .returned (.tuple #[.agg (u8s (rowOf ws sl i).1).toArray, .int .i64 (rowOf ws sl i).2]) ∧ Below w.heap.size w w' := by
  by_cases h0 : i < 0 ∨ i ≥ 4
  · rw [rowOf, if_pos h0]; exact otp_row_arg r i w h0
  cases sl
  · cases hm1 : onB ((vals ws).getD (35 + 9 * i.toNat) 0).toNat 1
    · cases hm0 : onB ((vals ws).getD (35 + 9 * i.toNat) 0).toNat 0
      · rw [rowOf, if_neg h0, hm1, hm0]; exact otp_row_none r ws i w h0 h hm1 hm0
      · rw [rowOf, if_neg h0, hm1, hm0]; exact otp_row_ok r ws i w h0 h hm1 hm0
    · rw [rowOf, if_neg h0, hm1]; exact otp_row_dead r ws i w h0 h hm1
  · rw [rowOf, if_neg h0]; exact otp_row_sealed r ws i w h0 h

end Go.Proofs.Ytoefaghakjcfcaa
