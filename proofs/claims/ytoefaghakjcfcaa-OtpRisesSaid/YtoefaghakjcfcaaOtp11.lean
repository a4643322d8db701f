/- The walk of otp's ToRow. -/
import Derived.Test.YtoefaghakjcfcaaOtp10
import Derived.Test.YtoefaghakjcfcaaOtp9
namespace Go.Proofs.Ytoefaghakjcfcaa
open Go.RowKit

/-- Are words noughts, from one on? -/
def rowFree (V : List (BitVec 32)) (fr : Nat) : Nat → Bool
  | 0 => true
  | k + 1 => rowFree V fr k && (V.getD (fr + k) 0 == 0)
theorem rowFree_iff (V : List (BitVec 32)) (fr k : Nat) : rowFree V fr k = true ↔ ∀ j, j < k → V.getD (fr + j) 0 = 0 := by
  induction k with
  | zero => simp [rowFree]
  | succ k ih =>
    rw [rowFree, Bool.and_eq_true, ih, beq_iff_eq]
    constructor
    · rintro ⟨h1, h2⟩ j hj
      by_cases h : j = k
      · subst h; exact h2
      · exact h1 j (by omega)
    · intro h
      exact ⟨fun j hj => h j (by omega), h k (by omega)⟩
attribute [irreducible] rowFree
/-- A row's mark is begun, its words. -/
def rowTo (fr : Nat) (W : List (BitVec 32)) : Nat → List (Nat × BitVec 32)
  | 0 => [(fr + 8, 0xff0000)]
  | k + 1 => rowTo fr W k ++ [(fr + k, W.getD k 0)]
theorem rowTo_length (fr : Nat) (W : List (BitVec 32)) (k : Nat) : (rowTo fr W k).length = k + 1 := by
  induction k with
  | zero => rfl
  | succ k ih => simp [rowTo, ih]
attribute [irreducible] rowTo
def toRow (ws : List (BitVec 32 × Bool)) (i : Int) (K : List (BitVec 8)) : List (Nat × BitVec 32) × Nat :=
  if i < 0 ∨ i ≥ 4 then ([], 1) else if rowFree (vals ws) (27 + 9 * i.toNat) 9 then (rowTo (27 + 9 * i.toNat) (wordsOf K) 8 ++ [(27 + 9 * i.toNat + 8, 0xff00ff)], 0) else ([], 14)
attribute [irreducible] toRow

theorem own_one (w : World) (t : TypeId) (base : Nat) (cs : List Value) (h : base ≤ w.heap.size) (m : Nat) (hm : cs.length = m) (hm2 : 0 < m) : (w.alloc (.cells cs.toArray t)).ownsRow base t m (.slice (some ⟨w.heap.size, 0, none⟩) 1 1) 1 cs := by
  refine ⟨by omega, .inr ⟨w.heap.size, 1, cs.toArray, rfl, h, heap_alloc_new w _, by omega, by unfold maxLen; omega, by simpa using hm, ?_⟩⟩
  rw [List.toList_toArray, List.take_of_length_le (by omega)]

set_option maxRecDepth 100000 in
set_option maxHeartbeats 1000000 in
theorem otp_toRow_arg (r : Ref) (ws : List (BitVec 32 × Bool)) (i : Int) (K : List (BitVec 8)) (hK : K.length = 32) (w : World) (h0 : i < 0 ∨ i ≥ 4) :
    Calls Try.prog 19 #[.pointer (some ⟨r.bc, 0, none⟩), .int .i64 i, .agg (u8s K).toArray] w fun e w' => Plans w w' e (toRow ws i K) := by
  have hr : toRow ws i K = ([], 1) := by unfold toRow; exact if_pos h0
  rw [hr]; clear hr
  have ha : atOf i = (0, 1) := if_pos h0
  have HA := Lib.hid ha; clear ha h0
  obtain ⟨kv, hkv⟩ : ∃ kv, u8s K = kv := ⟨_, rfl⟩
  rw [hkv]
  obtain ⟨W1, hW1, b1, b2, hs⟩ := allocs1 w kv 41
  have HW1 := Lib.hid hW1; clear hW1 hkv hK
  go_enter Try.func19, Try.ntmps19
  go_wp2_with fail
  change Calls _ _ _ (w.alloc (.cells kv.toArray 41)) _
  rw [HW1.out]
  refine (otp_at _ _).mono ?_
  rintro e w1 ⟨rfl, rfl⟩
  rw [HA.out]
  go_wp2_with fail
  go_ret2
  exact .err 1 b2

set_option maxRecDepth 100000 in
set_option maxHeartbeats 4000000 in
theorem otp_toRow (r : Ref) (ws : List (BitVec 32 × Bool)) (sl : Bool) (i : Int) (K : List (BitVec 8)) (hK : K.length = 32) (w : World) (h : ChipAt w r ws sl) :
    Calls Try.prog 19 #[.pointer (some ⟨r.bc, 0, none⟩), .int .i64 i, .agg (u8s K).toArray] w fun e w' => Plans w w' e (toRow ws i K) := by
  by_cases h0 : i < 0 ∨ i ≥ 4
  · exact otp_toRow_arg r ws i K hK w h0
  have ha : atOf i = (27 + 9 * i, 0) := if_neg h0
  obtain ⟨k, rfl⟩ := Int.eq_ofNat_of_zero_le (show 0 ≤ i by omega)
  have hk : k < 4 := by omega
  have hr : toRow ws k K = if rowFree (vals ws) (27 + 9 * k) 9 then (rowTo (27 + 9 * k) (wordsOf K) 8 ++ [(27 + 9 * k + 8, 0xff00ff)], 0) else ([], 14) := by
    unfold toRow; exact if_neg h0
  rw [hr]; clear hr
  have ha2 : atOf k = (((27 + 9 * k : Nat) : Int), 0) := by rw [ha]; rfl
  obtain ⟨fr, hfr⟩ : ∃ fr, 27 + 9 * k = fr := ⟨_, rfl⟩
  rw [hfr] at ha2
  rw [hfr]
  have hfr2 : fr ≤ 54 := by omega
  obtain ⟨V, hV⟩ : ∃ V, vals ws = V := ⟨_, rfl⟩
  rw [hV]
  have hVl : V.length = 64 := by rw [← hV, vals_length]; exact h.len
  have hWl : (wordsOf K).length = 8 := by rw [wordsOf_length, hK]
  obtain ⟨W, hW⟩ : ∃ W, wordsOf K = W := ⟨_, rfl⟩
  rw [hW] at hWl; rw [hW]
  obtain ⟨R, hR⟩ : ∃ R : List (Nat × BitVec 32) × Nat, (if rowFree V fr 9 then (rowTo fr W 8 ++ [(fr + 8, 0xff00ff)], 0) else ([], 14)) = R := ⟨_, rfl⟩
  rw [hR]
  have HR := Lib.hid hR; clear hR
  obtain ⟨kv, hkv⟩ : ∃ kv, u8s K = kv := ⟨_, rfl⟩
  rw [hkv]
  have hkl : kv.length = 32 := by rw [← hkv, u8s_length]; exact hK
  obtain ⟨W1, hW1, b1, b2, hs⟩ := allocs1 w kv 41
  obtain ⟨i0, hi, hz0, hz1, hz2⟩ := info_parts Try.infoWr
  have HI := Lib.hid hi; have HZ0 := Lib.hid hz0; have HZ1 := Lib.hid hz1; have HZ2 := Lib.hid hz2
  have HW1 := Lib.hid hW1; have HA := Lib.hid ha2; have HFR := Lib.hid hfr; have HV := Lib.hid hV; have HVL := Lib.hid hVl; have HWL := Lib.hid hWl; have HW := Lib.hid hW; have HKV := Lib.hid hkv; have HKL := Lib.hid hkl
  have HK := Lib.hid hK; have H := Lib.hid h
  clear hW1 ha ha2 hfr hV hVl hWl hW hkv hkl hi hz0 hz1 hz2 hK h h0
  go_enter Try.func19, Try.ntmps19
  go_wp2_with fail
  change Calls _ _ _ (w.alloc (.cells kv.toArray 41)) _
  rw [HW1.out]
  refine (otp_at _ _).mono ?_
  rintro e w1 ⟨rfl, rfl⟩
  rw [HA.out]
  go_wp2_with fail
  refine (otp_all r ws sl _ (H.out.below b2 (Nat.le_refl _))).mono ?_
  rintro e w2 ⟨g, cap2, rfl, hcap, hg, hg2, hua, hb2⟩
  rw [HV.out] at hua
  have HUA := Lib.hid hua
  have b3 : Blk w2 w.heap.size 41 kv := b1.below hb2 (by omega)
  have hbb : Below w.heap.size w w2 := b2.trans (hb2.mono (by omega))
  have hs2 := hbb.size
  have hpc := run_piece (P := Try.prog) Try.underlying31 (by kernel_rfl : (Try.prog.info? 36).map (·.size) = some 1) g 0 64 cap2 .i64 .i64 (fr : Int) ((fr : Int) + 9) fr (fr + 9) rfl (by omega) (by omega) (by omega) (by omega)
  rw [Nat.zero_add, Nat.mul_one, Nat.add_sub_cancel_left] at hpc
  clear hua
  go_wp2_with fail
  go_loopw [34] (fun i wr => ∃ j : Nat, j ≤ 9 ∧ i = .int .i64 j ∧ rowFree V fr j = true ∧ wr = w2) (fun i _ => 9 - (intOf i).toNat)
  case atStart => exact ⟨0, by omega, rfl, by unfold rowFree; rfl, rfl⟩
  case round =>
    obtain ⟨j, hj, rfl, hfree, rfl⟩ := hrel
    by_cases hlt : j < 9
    · obtain ⟨y, hy⟩ : ∃ y, V.getD (fr + j) 0 = y := ⟨_, rfl⟩
      have hy2 := getD_some hy (by rw [HVL.out]; omega)
      have hua0 := HUA.out.at hy2
      rw [Nat.zero_add] at hua0
      have hF : rowFree V fr (j + 1) = (rowFree V fr j && (y == 0)) := by rw [rowFree, hy]
      rw [hfree, Bool.true_and] at hF
      by_cases hy0 : y = 0
      · subst hy0
        have HF := Lib.hid hF; clear hF hy hy2
        rw [U32_zero] at hua0
        go_wp2
        go_roundw
        case rel => exact ⟨j + 1, by omega, by go_num, by rw [HF.out]; rfl, by first | rfl | trivial⟩
        case measure => simp [intOf]; omega
      · have hne : (y != 0#32) = true := by rw [bne_iff_ne]; exact hy0
        have hnf : rowFree V fr 9 = false := by
          cases hc : rowFree V fr 9 with
          | false => rfl
          | true => exact absurd (hy.symm.trans ((rowFree_iff _ _ _).1 hc j hlt)) hy0
        have HNF := Lib.hid hnf
        have hu0 : (U32 y == 0) = false := by
          rw [← U32_zero]
          rw [beq_eq_false_iff_ne]; intro hc; exact hy0 (by have := congrArg Int.toNat hc; rw [U32_eq, U32_eq] at this; exact BitVec.eq_of_toNat_eq (by simpa using this))
        clear hF hy hy2 hy0 hnf hfree
        go_wp2
        go_ret2
        rw [← HR.out, if_neg (by rw [HNF.out]; decide)]
        exact .err 14 hbb
    · have h9 : j = 9 := by omega
      subst h9
      have HF := Lib.hid hfree
      clear hfree
      go_wp2_with ((with_reducible refine at_load 41 ?_); refine wpList_load_blk _ 0 32 kv rfl _ _ _ (Blk.alloc b3 (.cells #[.int .i64 (fr + 8), .int .u32 16711680] 57)) Try.underlying41 rfl (by kernel_rfl) (by rw [HKL.out]; omega) (by rw [List.drop_zero, List.take_of_length_le (by rw [HKL.out]; omega)]) ?_)
      rw [← HKV.out]
      refine (sha_words K HK.out _).mono ?_
      rintro e w3 ⟨rfl, hb3⟩
      rw [HW.out, HKV.out]
      have hown0 : w3.ownsRow w.heap.size 57 2 (.slice (some ⟨wr.heap.size, 0, none⟩) 1 1) 1 (writeCells (rowTo fr W 0)) := by
        have h := own_one wr 57 w.heap.size [.int .i64 ((fr + 8 : Nat) : Int), .int .u32 16711680] hs2 2 rfl (by omega)
        have h2 : writeCells (rowTo fr W 0) = [.int .i64 ((fr + 8 : Nat) : Int), .int .u32 16711680] := by
          unfold rowTo; simp only [writeCells]; rw [show U32 16711680 = 16711680 from u32_lit 16711680 (by decide)]
        rw [h2]
        exact ownsRow_below h hb3 (Nat.le_refl _)
      have hb4 : Below w.heap.size w w3 := (hbb.trans ((below_alloc _ _).mono hs2)).trans (hb3.mono (by simp; omega))
      have HO := Lib.hid hown0; clear hown0 hb3 b3
      obtain ⟨uw, huw⟩ : ∃ uw, u32s W = uw := ⟨_, rfl⟩
      rw [huw]
      have HUW := Lib.hid huw; clear huw
      go_wp2_with fail
      go_loopw [12, 47] (fun v i wr => ∃ j : Nat, j ≤ 8 ∧ i = .int .i64 j ∧ wr.ownsRow w.heap.size 57 2 v (j + 1) (writeCells (rowTo fr W j)) ∧ Below w.heap.size w wr) (fun _ i _ => 8 - (intOf i).toNat)
      case atStart => exact ⟨0, by omega, rfl, HO.out, hb4⟩
      case round =>
        obtain ⟨j, hj, rfl, hown, hB⟩ := hrel
        have hsB := hB.size
        by_cases hlt : j < 8
        · obtain ⟨y, hy⟩ : ∃ y, W.getD j 0 = y := ⟨_, rfl⟩
          have hy2 := getD_some hy (by rw [HWL.out]; omega)
          have hix := fun wx kk => run_index_cell (P := Try.prog) wx 75 36 8 _ uw kk (j : Int) j (.int .u32 (U32 y)) Try.underlying75 Try.underlying36 rfl (by kernel_rfl) rfl hlt (by rw [← HUW.out, u32s_get, hy2]; rfl)
          have hR : rowTo fr W (j + 1) = rowTo fr W j ++ [(fr + j, y)] := by rw [rowTo, hy]
          have HR2 := Lib.hid hR; clear hR hy hy2
          go_wp2_with (at_builtin; refine wpList_append_own _ rfl _ _ 26 rfl w.heap.size 57 i0 (.agg #[.int .i64 0, .int .u32 0]) 2 16 Try.underlying26 HI.out HZ0.out HZ1.out HZ2.out rfl (by decide) _ (j + 1) _ rfl (hown.alloc _) ⟨wr.heap.size, 0, none⟩ 1 1 [.int .i64 (fr + j), .int .u32 (U32 y)] rfl rfl ?c1 ?c2 ?c3 ?c4 ?c5 ?_)
          case c1 => exact cell_two_new' _ _ _ _ _ rfl
          case c2 => simp [Value.oneCell']
          case c3 => unfold maxLen; omega
          case c4 => omega
          case c5 => simp; omega
          intro v' w5 hown5 hgrow _
          have hb5 : Below w.heap.size w w5 := ((hB.alloc hsB _)).grown hgrow (by simp; omega) (fun j hj => (hown.lt j hj).1)
          have HO5 := Lib.hid hown5
          clear hgrow hown hown5
          go_wp2
          go_roundw
          case rel => exact ⟨j + 1, by omega, by go_num, by rw [HR2.out, writeCells_append]; exact HO5.out, hb5⟩
          case measure => simp [intOf]; omega
        · have h8 : j = 8 := by omega
          subst h8
          go_wp2_with (at_builtin; refine wpList_append_own _ rfl _ _ 26 rfl w.heap.size 57 i0 (.agg #[.int .i64 0, .int .u32 0]) 2 16 Try.underlying26 HI.out HZ0.out HZ1.out HZ2.out rfl (by decide) _ 9 _ rfl (hown.alloc _) ⟨wr.heap.size, 0, none⟩ 1 1 [.int .i64 (fr + 8), .int .u32 16711935] rfl rfl ?c1 ?c2 ?c3 ?c4 ?c5 ?_)
          case c1 => exact cell_two_new' _ _ _ _ _ rfl
          case c2 => simp [Value.oneCell']
          case c3 => unfold maxLen; omega
          case c4 => omega
          case c5 => simp; omega
          intro v' w5 hown5 hgrow _
          have hb5 : Below w.heap.size w w5 := ((hB.alloc hsB _)).grown hgrow (by simp; omega) (fun j hj => (hown.lt j hj).1)
          have HO5 := Lib.hid hown5
          clear hgrow hown hown5
          go_wp2
          go_ret2
          rw [← HR.out, if_pos HF.out]
          refine ⟨v', rfl, ?_, hb5⟩
          rw [List.length_append, rowTo_length, writeCells_append]
          have h2 : writeCells [(fr + 8, (0xff00ff : BitVec 32))] = [.int .i64 (fr + 8), .int .u32 16711935] := by
            simp only [writeCells]; rw [show U32 16711935 = 16711935 from u32_lit 16711935 (by decide)]; rfl
          rw [h2]
          exact HO5.out
end Go.Proofs.Ytoefaghakjcfcaa
