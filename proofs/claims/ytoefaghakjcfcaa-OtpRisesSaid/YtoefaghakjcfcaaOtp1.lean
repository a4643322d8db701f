/- The walks of package otp: what is told of the words. -/
import Derived.Test.YtoefaghakjcfcaaFuse
import Derived.Test.YtoefaghakjcfcaaBits
namespace Go.Proofs.Ytoefaghakjcfcaa
open Go.RowKit

/-- Where a chip lies: its own block, its array's, its words'. -/
structure Ref where
  bc : Nat
  ba : Nat
  bw : Nat
  cap : Nat
abbrev Ref.ptr (r : Ref) : Value := .pointer (some ⟨r.bc, 0, none⟩)

structure ChipAt (w : World) (r : Ref) (ws : List (BitVec 32 × Bool)) (sl : Bool) : Prop where
  chip : Blk w r.bc 35 [.pointer (some ⟨r.ba, 0, none⟩), .bool sl]
  arr : ArrAt w r.ba r.bw r.cap ws
  n1 : r.bc ≠ r.ba
  n2 : r.bc ≠ r.bw
  len : ws.length = 64

theorem ArrAt.below {B : Nat} {w w' : World} {ba bw cap : Nat} {ws : List (BitVec 32 × Bool)} (h : ArrAt w ba bw cap ws) (k : Below B w w') (h1 : ba < B) (h2 : bw < B) : ArrAt w' ba bw cap ws :=
  ⟨h.arr.below k h1, h.wrd.below k h2, h.ne, h.len⟩
theorem ChipAt.below {B : Nat} {w w' : World} {r : Ref} {ws : List (BitVec 32 × Bool)} {sl : Bool} (h : ChipAt w r ws sl) (k : Below B w w') (hB : w.heap.size ≤ B) : ChipAt w' r ws sl :=
  ⟨h.chip.below k (by have := h.chip.lt; omega), h.arr.below k (by have := h.arr.arr.lt; omega) (by have := h.arr.wrd.lt; omega), h.n1, h.n2, h.len⟩

set_option maxRecDepth 100000 in
set_option maxHeartbeats 1000000 in
theorem otp_all (r : Ref) (ws : List (BitVec 32 × Bool)) (sl : Bool) (w : World) (h : ChipAt w r ws sl) :
    Calls Try.prog 37 #[.pointer (some ⟨r.bc, 0, none⟩)] w fun e w' => ∃ g cap, e = .returned (.slice (some ⟨g, 0, none⟩) 64 cap) ∧ 64 ≤ cap ∧ w.heap.size ≤ g ∧ g < w'.heap.size ∧ U32At w' g 0 (vals ws) ∧ Below w.heap.size w w' := by
  have hc := h.chip.cell 0
  simp only [List.getElem?_cons_zero] at hc
  go_enter Try.func37, Try.ntmps37
  go_wp2_with (go_at_call 13; refine (fuse_words _ _ _ _ _ h.arr).mono ?_; rintro e w1 ⟨v, rfl, hown, hb⟩)
  go_ret
  have hl := h.len
  rcases hown.2 with ⟨_, h0⟩ | ⟨g, cap, cur, rfl, hg, hh, hn, hcm, hcs, ht⟩
  · omega
  · refine ⟨g, cap, by rw [hl]; rfl, by omega, hg, (Array.getElem?_eq_some_iff.1 hh).1, ?_, hb⟩
    intro i hi
    rw [hown.cellAt (0 + i) (by simpa [vals_length] using hi)]
    simp only [u32s, Nat.zero_add, List.getElem?_map, List.getElem?_eq_getElem hi, Option.map_some]

set_option maxRecDepth 100000 in
set_option maxHeartbeats 1000000 in
theorem otp_all_nil (w : World) :
    Calls Try.prog 37 #[.pointer none] w fun e w' => ∃ g, e = .returned (.slice (some ⟨g, 0, none⟩) 64 64) ∧ w.heap.size ≤ g ∧ g < w'.heap.size ∧ U32At w' g 0 (List.replicate 64 0) ∧ Below w.heap.size w w' := by
  obtain ⟨i0, hi, hz0, hz1, hz2⟩ := info_parts Try.infoU32
  go_enter Try.func37, Try.ntmps37
  go_wp2_with (at_make; refine wpList_make_full _ rfl _ _ 31 rfl w.heap.size 36 i0 (.int .u32 0) 1 Try.underlying31 hi hz0 hz1 .i64 .i64 64 64 64 rfl rfl rfl rfl ?_ ?_ ?_ ?_)
  · rw [hz2]; omega
  · unfold maxLen; omega
  · simp
  · intro w1 hown hg
    go_wp2
    go_ret
    have hb : Below w.heap.size w w1 := (Below.refl _ _).grown hg (Nat.le_refl _) (fun k hk => by cases hk)
    refine ⟨_, rfl, Nat.le_refl _, ?_, ?_, hb⟩
    · exact (hown.lt _ rfl).2
    · intro i hi
      rw [hown.cellAt (0 + i) (by simpa using hi)]
      have hi' : i < 64 := by simpa only [List.length_replicate] using hi
      rw [toList_madeCells_one, Nat.zero_add, List.getElem?_replicate, if_pos hi', List.getElem_replicate, U32_zero]

def onB (x : Nat) (i : Nat) : Bool := decide (5 ≤ pc 8 (x / 2 ^ (8 * i)))

set_option maxRecDepth 100000 in
set_option maxHeartbeats 1000000 in
theorem otp_on (x : BitVec 32) (i : Nat) (w : World) (hi : i ≤ 3) :
    Calls Try.prog 47 #[.int .u32 (U32 x), .int .i64 i] w fun e w' => e = .returned (.bool (onB x.toNat i)) ∧ w = w' := by
  have e : onB x.toNat i = decide (5 ≤ pc 8 ((x >>> (8 * i)).setWidth 8).toNat) := by
    rw [onB, BitVec.toNat_setWidth, BitVec.toNat_ushiftRight, Nat.shiftRight_eq_div_pow, pc_mod]
  rw [e]; clear e
  have hsh := u32_shr_bv x (8 * i) (by omega)
  go_enter Try.func47, Try.ntmps47
  go_wp2_with (go_at_call 55; refine (ones8_bv _ _).mono ?_; rintro e w1 ⟨rfl, rfl⟩)
  go_ret
  exact ⟨by simp; omega, rfl⟩

/-- The life that a word tells. -/
def lifeTo (x : Nat) : Nat → Nat
  | 0 => 0
  | k + 1 => if onB x k then k + 1 else lifeTo x k
def lifeOf (ws : List (BitVec 32 × Bool)) : Nat := lifeTo ((vals ws).getD 0 0).toNat 4
theorem lifeTo_le (x k : Nat) : lifeTo x k ≤ k := by
  induction k with
  | zero => simp [lifeTo]
  | succ k ih => simp only [lifeTo]; split <;> omega

set_option maxRecDepth 100000 in
set_option maxHeartbeats 1000000 in
theorem otp_life (r : Ref) (ws : List (BitVec 32 × Bool)) (sl : Bool) (w : World) (h : ChipAt w r ws sl) :
    Calls Try.prog 30 #[.pointer (some ⟨r.bc, 0, none⟩)] w fun e w' => e = .returned (.int .i64 (lifeOf ws)) ∧ Below w.heap.size w w' := by
  have hl := h.len
  unfold lifeOf
  obtain ⟨x, hx⟩ : ∃ x, (vals ws).getD 0 0 = x := ⟨_, rfl⟩
  rw [hx]
  have HX := Lib.hid hx; clear hx
  go_enter Try.func30, Try.ntmps30
  go_wp2_with fail
  go_loopw [3, 5] (fun v i wr => ∃ k : Nat, k ≤ 4 ∧ i = .int .i64 k ∧ v = .int .i64 (lifeTo x.toNat k) ∧ Below w.heap.size w wr) (fun _ i _ => 4 - (intOf i).toNat)
  case atStart => exact ⟨0, by omega, rfl, rfl, Below.refl _ _⟩
  case round =>
    obtain ⟨k, hk, rfl, rfl, hb⟩ := hrel
    by_cases hlt : k < 4
    · have hle := lifeTo_le x.toNat k
      have HC := Lib.hid (h.below hb (Nat.le_refl _))
      cases hon : onB x.toNat k
      all_goals
        have HL0 : lifeTo x.toNat (k + 1) = if onB x.toNat k then k + 1 else lifeTo x.toNat k := rfl
        rw [hon] at HL0
        simp only [if_true, if_false, Bool.false_eq_true] at HL0
        have HL := Lib.hid HL0; clear HL0
        have HO := Lib.hid hon; clear hon
        go_wp2_with fail
        refine (otp_all r ws sl _ HC.out).mono ?_
        rintro e w1 ⟨g, cap, rfl, hcap, hg, hg1, hu, hb1⟩
        have hu0 := hu 0 (by rw [vals_length]; omega)
        have ex : (vals ws)[0]'(by rw [vals_length]; omega) = x := by rw [← HX.out, List.getD_eq_getElem?_getD, List.getElem?_eq_getElem (by rw [vals_length]; omega)]; rfl
        rw [ex] at hu0
        clear ex hu
        simp only [Nat.add_zero] at hu0
        go_wp2_with fail
        refine (otp_on x k _ (by omega)).mono ?_
        rintro e w2 ⟨rfl, rfl⟩
        rw [HO.out]
        go_wp2
        go_roundw
        case rel => exact ⟨k + 1, by omega, by go_num, by first | (rw [HL.out]; done) | (rw [HL.out]; go_num), hb.trans (hb1.mono hb.size)⟩
        case measure => simp [intOf]; omega
    · go_wp2
      go_ret
      have : k = 4 := by omega
      subst this
      exact ⟨rfl, hb⟩

/-- What the counter's words tell. -/
def cntTo (ws : List (BitVec 32)) : Nat → Nat
  | 0 => 0
  | k + 1 => cntTo ws k + pc (if k = 7 then 31 else 32) (ws.getD (k + 1) 0).toNat
def countOf (ws : List (BitVec 32 × Bool)) : Nat := cntTo (vals ws) 8
theorem cntTo_le (ws : List (BitVec 32)) (k : Nat) : cntTo ws k ≤ 32 * k := by
  induction k with
  | zero => simp [cntTo]
  | succ k ih => simp only [cntTo]; have := pc_le (if k = 7 then 31 else 32) (ws.getD (k + 1) 0).toNat; have : (if k = 7 then 31 else 32) ≤ 32 := (by split <;> omega); omega

theorem clr31 (x : BitVec 32) : pc 32 (x &&& 2147483647#32).toNat = pc 31 x.toNat := by
  have e : (x &&& 2147483647#32).toNat = x.toNat % 2147483648 := by
    rw [BitVec.toNat_and]; exact Nat.and_two_pow_sub_one_eq_mod x.toNat 31
  rw [e, pc_small 31 1 _ (Nat.mod_lt _ (by decide))]; exact pc_mod 31 _

set_option maxRecDepth 100000 in
set_option maxHeartbeats 1000000 in
theorem otp_counter (r : Ref) (ws : List (BitVec 32 × Bool)) (sl : Bool) (w : World) (h : ChipAt w r ws sl) :
    Calls Try.prog 14 #[.pointer (some ⟨r.bc, 0, none⟩)] w fun e w' => e = .returned (.int .i64 (countOf ws)) ∧ Below w.heap.size w w' := by
  have hl := h.len
  unfold countOf
  obtain ⟨l, hl2⟩ : ∃ l, vals ws = l := ⟨_, rfl⟩
  have hll : l.length = 64 := by rw [← hl2, vals_length]; exact hl
  rw [hl2]
  have HL2 := Lib.hid hl2; clear hl2
  go_enter Try.func14, Try.ntmps14
  go_wp2_with fail
  refine (otp_all r ws sl _ h).mono ?_
  rintro e w1 ⟨g, cap, rfl, hcap, hg, hg1, hu, hb1⟩
  go_wp2_with fail
  rw [HL2.out] at hu
  clear hl h HL2
  have HU := Lib.hid hu; clear hu
  have HLL := Lib.hid hll; clear hll
  go_loopw [3, 10] (fun v i wr => ∃ k : Nat, k ≤ 8 ∧ i = .int .i64 k ∧ v = .int .i64 (cntTo l k) ∧ ∃ n, wr = w1.drewN n) (fun _ i _ => 8 - (intOf i).toNat)
  case atStart => exact ⟨0, by omega, rfl, rfl, 0, rfl⟩
  case round =>
    obtain ⟨k, hk, rfl, rfl, n, rfl⟩ := hrel
    by_cases hlt : k < 8
    · have hle := cntTo_le l k
      have hu0 := HU.out (1 + k) (by rw [HLL.out]; omega)
      obtain ⟨x, hx⟩ : ∃ x, l[1 + k]'(by rw [HLL.out]; omega) = x := ⟨_, rfl⟩
      have hx2 : l.getD (k + 1) 0 = x := by rw [← hx, List.getD_eq_getElem?_getD, List.getElem?_eq_getElem (by rw [HLL.out]; omega)]; simp only [Nat.add_comm 1 k]; rfl
      rw [hx] at hu0
      simp only [Nat.zero_add] at hu0
      have hc0 : cntTo l (k + 1) = cntTo l k + pc (if k = 7 then 31 else 32) x.toNat := by rw [cntTo, hx2]
      have HC := Lib.hid hc0; clear hc0
      clear hx hx2
      by_cases h7 : k = 7
      · subst h7
        have hp := pc_le 31 x.toNat
        have HP := Lib.hid (clr31 x)
        go_wp2_with fail
        refine (ones32_bv _ _).mono ?_
        rintro e w2 ⟨rfl, n2, rfl⟩
        rw [HP.out]
        go_wp2
        go_roundw
        case rel => exact ⟨8, by omega, by go_num, by rw [HC.out]; simp only [if_true]; go_num, n + n2, by simp⟩
        case measure => simp [intOf]
      · have hp := pc_le 32 x.toNat
        go_wp2_with fail
        refine (ones32_bv _ _).mono ?_
        rintro e w2 ⟨rfl, n2, rfl⟩
        go_wp2
        go_roundw
        case rel => exact ⟨k + 1, by omega, by go_num, by rw [HC.out, if_neg h7]; go_num, n + n2, by simp⟩
        case measure => simp [intOf]; omega
    · go_wp2
      go_ret
      have : k = 8 := by omega
      subst this
      exact ⟨rfl, below_drewN hb1 _⟩

end Go.Proofs.Ytoefaghakjcfcaa
