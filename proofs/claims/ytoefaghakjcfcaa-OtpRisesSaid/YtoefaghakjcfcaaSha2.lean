/- The walks of package sha: a digest as words. -/
import Derived.Test.YtoefaghakjcfcaaSha1
namespace Go.Proofs.Ytoefaghakjcfcaa
open Go.RowKit

/-- Words of bytes. -/
def wordsOf : List (BitVec 8) → List (BitVec 32)
  | a :: b :: c :: d :: r => word4 a b c d :: wordsOf r
  | _ => []
theorem wordsOf_length (l : List (BitVec 8)) : (wordsOf l).length = l.length / 4 := by
  induction l using wordsOf.induct with
  | case1 a b c d r ih => simp only [wordsOf, List.length_cons, ih]; omega
  | case2 l h =>
    rcases l with _ | ⟨a, _ | ⟨b, _ | ⟨c, _ | ⟨d, r⟩⟩⟩⟩
    · simp [wordsOf]
    · simp [wordsOf]
    · simp [wordsOf]
    · simp [wordsOf]
    · exact absurd rfl (h a b c d r)
theorem wordsOf_get (l : List (BitVec 8)) (i : Nat) (h : 4 * i + 4 ≤ l.length) : (wordsOf l)[i]'(by rw [wordsOf_length]; omega) = word4 (l[4 * i]'(by omega)) (l[4 * i + 1]'(by omega)) (l[4 * i + 2]'(by omega)) (l[4 * i + 3]'(by omega)) := by
  induction l using wordsOf.induct generalizing i with
  | case1 a b c d r ih =>
    cases i with
    | zero => simp [wordsOf]
    | succ i =>
      have := ih i (by simp at h; omega)
      simp only [wordsOf, List.getElem_cons_succ, this]
      simp only [show 4 * (i + 1) = 4 * i + 1 + 1 + 1 + 1 by omega, List.getElem_cons_succ]
  | case2 l hl =>
    rcases l with _ | ⟨a, _ | ⟨b, _ | ⟨c, _ | ⟨d, r⟩⟩⟩⟩
    · simp at h
    · simp at h
    · simp at h
    · simp at h
    · exact absurd rfl (hl a b c d r)
theorem wordsOf_be4 (l : List (BitVec 32)) : wordsOf (l.flatMap be4) = l := by
  induction l with
  | nil => rfl
  | cons x r ih => simp only [List.flatMap_cons, be4, List.cons_append, List.nil_append, wordsOf, ih, word4_be4]

theorem Try.infoU8 : (Try.prog.info? 5).map (fun i => (i.zero, i.size, i.bytes)) = some (some (.int .u8 0), 1, 1) := by kernel_rfl

set_option maxRecDepth 100000 in
set_option maxHeartbeats 2000000 in
theorem sha_words (d : List (BitVec 8)) (hd : d.length = 32) (w : World) :
    Calls Try.prog 43 #[.agg (u8s d).toArray] w fun e w' => e = .returned (.agg (u32s (wordsOf d)).toArray) ∧ Below w.heap.size w w' := by
  have hwl : (wordsOf d).length = 8 := by rw [wordsOf_length, hd]
  have HD := Lib.hid hd; have HW := Lib.hid hwl; clear hd hwl
  obtain ⟨W, hW⟩ : ∃ W, wordsOf d = W := ⟨_, rfl⟩
  rw [hW] at HW ⊢
  have HWE := Lib.hid hW; clear hW
  go_enter Try.func43, Try.ntmps43
  go_wp2_with fail
  obtain ⟨W3, hW3, b0, b1, b2, b3, hs⟩ := allocs3 w (u8s d) [.int .u32 0, .int .u32 0, .int .u32 0, .int .u32 0, .int .u32 0, .int .u32 0, .int .u32 0, .int .u32 0] [.int .u32 0, .int .u32 0, .int .u32 0, .int .u32 0, .int .u32 0, .int .u32 0, .int .u32 0, .int .u32 0] 41 75 75
  rw [hW3]
  clear hW3
  rw [show ([.int .u32 0, .int .u32 0, .int .u32 0, .int .u32 0, .int .u32 0, .int .u32 0, .int .u32 0, .int .u32 0] : List Value) = u32s (W.take 0 ++ List.replicate (8 - 0) 0) from by rw [List.take_zero, List.nil_append, u32s_zero]; rfl] at b1 b2
  obtain ⟨z8, hz⟩ : ∃ z8, u32s (W.take 0 ++ List.replicate (8 - 0) 0) = z8 := ⟨_, rfl⟩
  have hzl : z8.length = 8 := by rw [← hz, u32s_length]; rfl
  rw [hz] at b1
  have HZL := Lib.hid hzl
  clear hz hzl
  go_loopw [5] (fun i wr => ∃ k : Nat, k ≤ 8 ∧ i = .int .i64 k ∧ Blk wr w.heap.size 41 (u8s d) ∧ Blk wr (w.heap.size + 1) 75 z8 ∧ Blk wr (w.heap.size + 2) 75 (u32s (W.take k ++ List.replicate (8 - k) 0)) ∧ Below w.heap.size w wr) (fun i _ => 8 - (intOf i).toNat)
  case atStart => exact ⟨0, by omega, rfl, b0, b1, b2, b3⟩
  case round =>
    obtain ⟨k, hk, rfl, c0, c1, c2, c3⟩ := hrel
    by_cases hlt : k < 8
    · have hu := (U8At.blk c0)
      have u0 := hu (4 * k) (by rw [HD.out]; omega)
      have u1 := hu (4 * k + 1) (by rw [HD.out]; omega)
      have u2 := hu (4 * k + 2) (by rw [HD.out]; omega)
      have u3 := hu (4 * k + 3) (by rw [HD.out]; omega)
      simp only [Nat.zero_add, ← Nat.add_assoc] at u0 u1 u2 u3
      have hx := wordsOf_get d k (by rw [HD.out]; omega)
      have hx2 : W[k]'(by rw [HW.out]; omega) = word4 (d[4 * k]'(by rw [HD.out]; omega)) (d[4 * k + 1]'(by rw [HD.out]; omega)) (d[4 * k + 2]'(by rw [HD.out]; omega)) (d[4 * k + 3]'(by rw [HD.out]; omega)) := by
        rw [← hx]; congr 1; exact HWE.out.symm
      generalize d[4 * k]'(by rw [HD.out]; omega) = x0 at *
      generalize d[4 * k + 1]'(by rw [HD.out]; omega) = x1 at *
      generalize d[4 * k + 2]'(by rw [HD.out]; omega) = x2 at *
      generalize d[4 * k + 3]'(by rw [HD.out]; omega) = x3 at *
      have hcl := c2.cell k
      rw [u32s_get, fill_get W 8 k 0 HW.out hlt, Option.map_some] at hcl
      have hfr := c2.free k
      have hst := c2.set k (.int .u32 (U32 (word4 x0 x1 x2 x3)))
      have he : (u32s (W.take k ++ List.replicate (8 - k) 0)).set k (.int .u32 (U32 (word4 x0 x1 x2 x3))) = u32s (W.take (k + 1) ++ List.replicate (8 - (k + 1)) 0) := by
        have hf := fill_set W 8 k 0 (word4 x0 x1 x2 x3) HW.out hlt (by rw [List.getElem?_eq_getElem (by rw [HW.out]; exact hlt), hx2])
        rw [← hf, u32s, u32s, List.map_set]
      rw [he] at hst
      have HST := Lib.hid hst
      clear hu hx hx2 he hst c2
      have C0 := Lib.hid c0; have C1 := Lib.hid c1; clear c0 c1
      have hsl := fun wx => run_piece_arr (P := Try.prog) Try.underlying41 (by kernel_rfl : (Try.prog.info? 5).map (·.size) = some 1) w.heap.size 0 .i64 .i64 (4 * (k : Int)) (4 * (k : Int) + 4) (4 * k) (4 * k + 4) (by omega) (by omega) (by omega) (by omega) (by omega) wx
      simp only [Nat.mul_one, Nat.zero_add, show 4 * k + 4 - 4 * k = 4 by omega] at hsl
      go_wp2_with fail
      refine (sha_word _ _ 4 _ x0 x1 x2 x3 _ (by omega) u0 u1 u2 u3).mono ?_
      rintro e w4 ⟨rfl, m, rfl⟩
      go_wp2
      go_roundw
      case rel => exact ⟨k + 1, by omega, by go_num, C0.out.other (by show w.heap.size + 2 ≠ w.heap.size; omega) _, C1.out.other (by show w.heap.size + 2 ≠ w.heap.size + 1; omega) _, HST.out, below_drewN (c3.setCell (p := ⟨w.heap.size + 2, k, none⟩) (by show w.heap.size ≤ w.heap.size + 2; omega) _) m⟩
      case measure => simp [intOf]; omega
    · have hk8 : k = 8 := by omega
      subst hk8
      rw [List.take_of_length_le (by rw [HW.out]; exact Nat.le_refl _), Nat.sub_self, List.replicate_zero, List.append_nil] at c2
      have hl8 : (u32s W).length = 8 := by rw [u32s_length, HW.out]
      have HL8 := Lib.hid hl8; clear hl8
      go_wp2_with (first
        | ((with_reducible refine at_load 75 ?_); refine wpList_load_blk _ 0 8 (u32s W) rfl _ _ _ c2 Try.underlying75 rfl (by kernel_rfl) (by rw [HL8.out]; omega) (by rw [List.drop_zero, List.take_of_length_le (by rw [HL8.out]; omega)]) ?_)
        | ((with_reducible refine at_store 75 ?_); refine wpList_store_blk _ 0 rfl (u32s W) rfl _ _ c1 (by rw [HL8.out]; kernel_rfl) (by rw [HL8.out, HZL.out]; omega) (u32s_one W) ?_; intro w5 h5 k5))
      rw [splice_all _ _ (by rw [HL8.out, HZL.out])] at h5
      refine bodyPost_ret (v := .agg (u32s W).toArray) (results_blk rfl _ _ _ _ _ _ rfl h5 Try.underlying75 rfl ?_) rfl ⟨rfl, ?_⟩
      · rw [HL8.out]; kernel_rfl
      · exact c3.trans ⟨k5.os, k5.tape, k5.output, k5.size, fun j hj => k5.block j (by have := c3.size; omega) (by omega)⟩

end Go.Proofs.Ytoefaghakjcfcaa
