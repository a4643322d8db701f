/- The walk of the reference's Num. -/
import Derived.Test.YtoefaghakjcfcaaHeld
namespace Go.Proofs.Ytoefaghakjcfcaa
open Go.RowKit

/-- A number as so many bytes, the highest first. -/
def numBytes (N size : Nat) : List (BitVec 8) := (List.range size).map fun i => BitVec.ofNat 8 (N / 256 ^ (size - 1 - i))
theorem numBytes_length (N size : Nat) : (numBytes N size).length = size := by simp [numBytes]
theorem numBytes_get (N size i : Nat) (h : i < size) : (numBytes N size)[i]? = some (BitVec.ofNat 8 (N / 256 ^ (size - 1 - i))) := by
  simp [numBytes, h]
/-- The cells behind k rounds. -/
def numCells (N size k : Nat) : List Value := List.replicate (size - k) (.int .u8 0) ++ (u8s (numBytes N size)).drop (size - k)
theorem numCells_length (N size k : Nat) (h : k ≤ size) : (numCells N size k).length = size := by
  simp [numCells, u8s_length, numBytes_length]
theorem numCells_zero (N size : Nat) : numCells N size 0 = List.replicate size (.int .u8 0) := by
  rw [numCells, Nat.sub_zero, List.drop_eq_nil_of_le (by rw [u8s_length, numBytes_length]; omega), List.append_nil]
theorem numCells_all (N size : Nat) : numCells N size size = u8s (numBytes N size) := by
  rw [numCells, Nat.sub_self, List.drop_zero, List.replicate_zero, List.nil_append]
theorem numCells_set (N size k : Nat) (h : k < size) : (numCells N size k).set (size - k - 1) (.int .u8 (U8 (BitVec.ofNat 8 (N / 256 ^ k)))) = numCells N size (k + 1) := by
  apply List.ext_getElem?
  intro j
  have hb := numBytes_length N size
  have hu := u8s_length (numBytes N size)
  by_cases hj : j = size - k - 1
  · subst hj
    rw [List.getElem?_set, if_pos rfl, if_pos (by rw [numCells_length _ _ _ (by omega)]; omega), numCells, List.getElem?_append_right (by simp; omega), List.getElem?_drop]
    rw [List.length_replicate, show size - (k + 1) + (size - k - 1 - (size - (k + 1))) = size - k - 1 from by omega, u8s_get, numBytes_get _ _ _ (by omega)]
    rw [show size - 1 - (size - k - 1) = k from by omega]; rfl
  · rw [List.getElem?_set_ne (Ne.symm hj), numCells, numCells]
    by_cases h1 : j < size - k - 1
    · rw [List.getElem?_append_left (by simp; omega), List.getElem?_append_left (by simp; omega), List.getElem?_replicate, List.getElem?_replicate, if_pos (by omega), if_pos (by omega)]
    · rw [List.getElem?_append_right (by simp; omega), List.getElem?_append_right (by simp; omega), List.length_replicate, List.length_replicate, List.getElem?_drop, List.getElem?_drop]
      congr 1; omega

theorem num_quo (x : Nat) (h : x < 18446744073709551616) : U64 (BitVec.ofInt 64 ((x : Int) / 256)) = ((x / 256 : Nat) : Int) := by
  rw [U64_eq, BitVec.toNat_ofInt]; omega
theorem num_rem (x : Nat) : U8 (BitVec.ofInt 8 ((x : Int) % 256)) = U8 (BitVec.ofNat 8 x) := by
  rw [U8_eq, U8_eq, BitVec.toNat_ofInt, BitVec.toNat_ofNat]; omega

set_option maxRecDepth 100000 in
set_option maxHeartbeats 1000000 in
theorem r1_num (N size : Nat) (w : World) (hN : N < 18446744073709551616) (hs : size ≤ 4096) :
    Calls Try.prog 54 #[.int .u64 N, .int .i64 size] w fun e w' => e = .returned (.slice (some ⟨w.heap.size, 0, none⟩) size size) ∧ Blk w' w.heap.size 5 (u8s (numBytes N size)) ∧ Below w.heap.size w w' := by
  obtain ⟨i0, hi, hz0, hz1, hz2⟩ := info_parts Try.infoU8'
  go_enter Try.func54, Try.ntmps54
  go_wp2_with (at_make; refine wpList_make_full _ rfl _ _ 22 rfl w.heap.size 5 i0 (.int .u8 0) 1 Try.underlying22 hi hz0 hz1 .i64 .i64 size size size rfl rfl rfl rfl ?_ ?_ ?_ ?_)
  · rw [hz2]; omega
  · unfold maxLen; omega
  · simp
  · intro w1 hown hg
    have hb : Below w.heap.size w w1 := (Below.refl _ _).grown hg (Nat.le_refl _) (fun k hk => by cases hk)
    have hblk : Blk w1 w.heap.size 5 (numCells N size 0) := by
      rw [numCells_zero]
      rcases hown.2 with ⟨h, _⟩ | ⟨g', cap', cur, h, hbg, hgg, _, _, hcs, htake⟩
      · simp at h
      · simp only [Value.slice.injEq, Option.some.injEq, Addr.mk.injEq, and_true, true_and] at h
        obtain ⟨rfl, rfl⟩ := h
        have hcur : cur.toList = List.replicate size (.int .u8 0) := by
          rw [List.take_of_length_le (by rw [Array.length_toList, hcs]; simp)] at htake
          rw [htake, toList_madeCells_one]
        unfold Blk; rw [hgg, ← hcur]
    have HB := Lib.hid hblk; have HN := Lib.hid hN
    clear hown hg hblk hi hz0 hz1 hz2 hN
    go_wp2_with fail
    go_loopw [0, 6] (fun v i wr => ∃ k j : Nat, k + j = size ∧ v = .int .u64 ((N / 256 ^ k : Nat) : Int) ∧ i = .int .i64 ((j : Int) - 1) ∧ Blk wr w.heap.size 5 (numCells N size k) ∧ Below w.heap.size w wr) (fun _ i _ => (intOf i + 1).toNat)
    case atStart => exact ⟨0, size, by omega, by simp, rfl, HB.out, hb⟩
    case round =>
      obtain ⟨k, j, hkj, rfl, rfl, hB, hbe⟩ := hrel
      obtain ⟨x, hx⟩ : ∃ x, N / 256 ^ k = x := ⟨_, rfl⟩
      have hx' : N / 256 ^ (k + 1) = x / 256 := by rw [← hx, Nat.pow_succ, Nat.div_div_eq_div_mul]
      have hxlt : x < 18446744073709551616 := by rw [← hx]; exact Nat.lt_of_le_of_lt (Nat.div_le_self _ _) HN.out
      rw [hx]
      cases j with
      | succ j =>
        have e1 : ((j + 1 : Nat) : Int) - 1 = (j : Int) := by omega
        rw [e1]
        have hcl := hB.cell j
        rw [numCells, List.getElem?_append_left (by simp; omega), List.getElem?_replicate, if_pos (by omega)] at hcl
        have hfr := hB.free j
        have hst := hB.set j (.int .u8 (U8 (BitVec.ofNat 8 x)))
        have hset := numCells_set N size k (by omega)
        rw [hx, show size - k - 1 = j from by omega] at hset
        rw [hset] at hst
        have HST := Lib.hid hst; have HKJ := Lib.hid hkj; have HX := Lib.hid hx'
        have hjs : j < size := by omega
        clear hst hset hB hkj hx' hx
        go_wp2_with fail
        rw [num_quo x hxlt, num_rem x]
        go_roundw
        case rel => exact ⟨k + 1, j, by have := HKJ.out; omega, by rw [HX.out], rfl, HST.out, hbe.setCell (Nat.le_refl _) _⟩
        case measure => simp [intOf]
      | zero =>
        obtain rfl : k = size := by omega
        rw [numCells_all] at hB
        go_wp2_with fail
        go_ret
        exact ⟨rfl, hB, hbe⟩
/-- Of a word of 32 bits. -/
theorem numBytes_word (x : BitVec 32) : numBytes x.toNat 4 = be4 x := by
  simp only [numBytes, be4, List.range, List.range.loop, List.map_cons, List.map_nil]
  congr 1
  · apply BitVec.eq_of_toNat_eq; simp [BitVec.toNat_ushiftRight, Nat.shiftRight_eq_div_pow]
  · congr 1
    · apply BitVec.eq_of_toNat_eq; simp [BitVec.toNat_ushiftRight, Nat.shiftRight_eq_div_pow]
    · congr 1
      · apply BitVec.eq_of_toNat_eq; simp [BitVec.toNat_ushiftRight, Nat.shiftRight_eq_div_pow]
      · congr 1
        apply BitVec.eq_of_toNat_eq; simp
end Go.Proofs.Ytoefaghakjcfcaa
