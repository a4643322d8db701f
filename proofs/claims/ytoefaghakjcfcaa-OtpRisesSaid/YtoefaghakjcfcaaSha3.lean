/- The walks of package sha: words as a digest. -/
import Derived.Test.YtoefaghakjcfcaaSha2
namespace Go.Proofs.Ytoefaghakjcfcaa
open Go.RowKit

theorem be4_length (x : BitVec 32) : (be4 x).length = 4 := rfl
theorem flat_be4_length (l : List (BitVec 32)) : (l.flatMap be4).length = 4 * l.length := by
  induction l with
  | nil => rfl
  | cons x r ih => simp only [List.flatMap_cons, List.length_append, be4_length, ih, List.length_cons]; omega
/-- The first k words of W as bytes, then noughts. -/
def digTo (W : List (BitVec 32)) (k : Nat) : List (BitVec 8) := (W.take k).flatMap be4 ++ List.replicate (32 - 4 * k) 0
theorem digTo_length (W : List (BitVec 32)) (k : Nat) (hW : W.length = 8) (hk : k ≤ 8) : (digTo W k).length = 32 := by
  rw [digTo, List.length_append, flat_be4_length, List.length_take, List.length_replicate]; omega
theorem digTo_step (W : List (BitVec 32)) (k : Nat) (hW : W.length = 8) (hk : k < 8) (x : BitVec 32) (hx : W[k]? = some x) : splice (digTo W k) (4 * k) (be4 x) = digTo W (k + 1) := by
  have h1 : ((W.take k).flatMap be4).length = 4 * k := by rw [flat_be4_length, List.length_take]; omega
  rw [splice, digTo, digTo, be4_length, List.take_left' h1, List.drop_append, h1]
  rw [List.drop_eq_nil_of_le (by rw [h1]; omega), List.nil_append, show 4 * k + 4 - 4 * k = 4 by omega, List.drop_replicate, List.take_add_one, hx]
  simp only [Option.toList_some, List.flatMap_append, List.flatMap_cons, List.flatMap_nil, List.append_nil, List.append_assoc]
  rw [show 32 - 4 * k - 4 = 32 - 4 * (k + 1) by omega]

set_option maxRecDepth 100000 in
set_option maxHeartbeats 2000000 in

theorem sha_digest (W : List (BitVec 32)) (hd : W.length = 8) (w : World) :
    Calls Try.prog 48 #[.agg (u32s W).toArray] w fun e w' => e = .returned (.agg (u8s (W.flatMap be4)).toArray) ∧ Below w.heap.size w w' := by
  have HW := Lib.hid hd; clear hd
  have hl8 : (u32s W).length = 8 := by rw [u32s_length, HW.out]
  have HL8 := Lib.hid hl8; clear hl8
  go_enter Try.func48, Try.ntmps48
  go_wp2_with ((with_reducible refine at_load 75 ?_); refine wpList_load_blk _ 0 8 (u32s W) rfl _ _ _ (((Blk.new w _ (u32s W)).alloc _).alloc _) Try.underlying75 rfl (by kernel_rfl) (by rw [HL8.out]; omega) (by rw [List.drop_zero, List.take_of_length_le (by rw [HL8.out]; omega)]) ?_)
  obtain ⟨W3, hW3, b0, b1, b2, b3, hs⟩ := allocs3 w (u32s W) z32 z32 75 41 41
  change Code.wp _ _ _ _ (((w.alloc (.cells (u32s W).toArray 75)).alloc (.cells z32.toArray 41)).alloc (.cells z32.toArray 41))
  rw [hW3]
  clear hW3
  have hz : z32 = u8s (digTo W 0) := by rw [z32_eq, digTo, List.take_zero]; rfl
  rw [hz] at b2
  clear hz
  go_loopw [7] (fun i wr => ∃ k : Nat, k ≤ 8 ∧ i = .int .i64 k ∧ Blk wr (w.heap.size + 1) 41 z32 ∧ Blk wr (w.heap.size + 2) 41 (u8s (digTo W k)) ∧ Below w.heap.size w wr) (fun i _ => 8 - (intOf i).toNat)
  case atStart => exact ⟨0, by omega, rfl, b1, b2, b3⟩
  case round =>
    obtain ⟨k, hk, rfl, c1, c2, c3⟩ := hrel
    by_cases hlt : k < 8
    · obtain ⟨x, hx⟩ : ∃ x, W[k]'(by rw [HW.out]; exact hlt) = x := ⟨_, rfl⟩
      have hx2 : W[k]? = some x := by rw [List.getElem?_eq_getElem (by rw [HW.out]; exact hlt), hx]
      have hst := digTo_step W k HW.out hlt x hx2
      have hdl := digTo_length W k HW.out hk
      have hix := fun wx kk => run_index_cell (P := Try.prog) wx 75 36 8 _ (u32s W) kk (k : Int) k (.int .u32 (U32 x)) Try.underlying75 Try.underlying36 rfl (by kernel_rfl) rfl hlt (by rw [u32s_get, hx2]; rfl)
      have hsl := fun wx => run_piece_arr_from (P := Try.prog) Try.underlying41 (by kernel_rfl : (Try.prog.info? 5).map (·.size) = some 1) (w.heap.size + 2) 0 .i64 (4 * (k : Int)) (4 * k) (by omega) (by omega) wx
      simp only [Nat.mul_one, Nat.zero_add] at hsl
      have ST := Lib.hid hst; have DL := Lib.hid hdl
      clear hst hdl hx hx2
      have C1 := Lib.hid c1; have C2 := Lib.hid c2; clear c1 c2
      have hs3 := c3.size
      go_wp2_with ((with_reducible refine at_copy ?_); refine wpList_copy_blk 5 Try.underlying22 (by kernel_rfl) _ _ _ _ _ _ rfl rfl (w.heap.size + 2) (4 * k) (u8s (digTo W k)) 41 (C2.out.alloc _) (u8s (be4 x)) (by rw [u8s_length, be4_length]; exact (Nat.min_eq_left (by omega)).symm) (fun _ => ⟨rfl, _, rfl, fun j v hv => by rw [addr_add, World.cell?_alloc_at _ _ _ _ rfl, Nat.zero_add, List.getElem?_toArray]; exact hv⟩) (by rw [u8s_length, u8s_length, DL.out, be4_length]; omega) (u8s_one _) ?_; intro w5 h5 k5)
      · rw [u8s_splice, ST.out] at h5
        have H5 := Lib.hid h5
        have C15 := Lib.hid ((C1.out.alloc (.cells #[.int .u8 (U8 ((x >>> 24).setWidth 8)), .int .u8 (U8 ((x >>> 16).setWidth 8)), .int .u8 (U8 ((x >>> 8).setWidth 8)), .int .u8 (U8 (x.setWidth 8))] 5)).kept k5 (by omega))
        have hb5 : Below w.heap.size w w5 := (c3.alloc hs3 _).trans ⟨k5.os, k5.tape, k5.output, k5.size, fun j hj => k5.block j (by rw [World.size_alloc]; omega) (by omega)⟩
        clear h5 k5
        go_roundw
        case rel => exact ⟨k + 1, by omega, by go_num, C15.out, H5.out, hb5⟩
        case measure => simp [intOf]; omega
    · have hk8 : k = 8 := by omega
      subst hk8
      have hfl : digTo W 8 = W.flatMap be4 := by
        rw [digTo, List.take_of_length_le (by rw [HW.out]; exact Nat.le_refl _)]; simp
      rw [hfl] at c2
      have hl32 : (u8s (W.flatMap be4)).length = 32 := by rw [u8s_length, flat_be4_length, HW.out]
      have HL32 := Lib.hid hl32
      clear hl32 hfl
      go_wp2_with (first
        | ((with_reducible refine at_load 41 ?_); refine wpList_load_blk _ 0 32 (u8s (W.flatMap be4)) rfl _ _ _ c2 Try.underlying41 rfl (by kernel_rfl) (by rw [HL32.out]; omega) (by rw [List.drop_zero, List.take_of_length_le (by rw [HL32.out]; omega)]) ?_)
        | ((with_reducible refine at_store 41 ?_); refine wpList_store_blk _ 0 rfl (u8s (W.flatMap be4)) rfl _ _ c1 (by rw [HL32.out]; kernel_rfl) (by rw [HL32.out]; decide) (u8s_one _) ?_; intro w5 h5 k5))
      rw [splice_all _ _ (by rw [HL32.out]; rfl)] at h5
      refine bodyPost_ret (v := .agg (u8s (W.flatMap be4)).toArray) (results_blk rfl _ _ _ _ _ _ rfl h5 Try.underlying41 rfl ?_) rfl ⟨rfl, ?_⟩
      · rw [HL32.out]; kernel_rfl
      · exact c3.trans ⟨k5.os, k5.tape, k5.output, k5.size, fun j hj => k5.block j (by have := c3.size; omega) (by omega)⟩

end Go.Proofs.Ytoefaghakjcfcaa
