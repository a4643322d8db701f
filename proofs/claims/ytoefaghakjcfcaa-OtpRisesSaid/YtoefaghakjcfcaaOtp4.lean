/- The walk of (*otp.Chip).ToCounter. -/
import Derived.Test.YtoefaghakjcfcaaOtp3
namespace Go.Proofs.Ytoefaghakjcfcaa
open Go.RowKit

/-- Bit i of words. -/
def bitAt (l : List (BitVec 32)) (i : Nat) : Bool := (l.getD (i / 32) 0).getLsbD (i % 32)
/-- How many of the first bits aren't set. -/
def zerosTo (old : List (BitVec 32)) : Nat → Nat
  | 0 => 0
  | i + 1 => zerosTo old i + if bitAt old i then 0 else 1
/-- Those bits. -/
def fillTo (old : List (BitVec 32)) : Nat → List (BitVec 32)
  | 0 => List.replicate 8 0
  | i + 1 => if bitAt old i then fillTo old i else (fillTo old i).set (i / 32) ((fillTo old i).getD (i / 32) 0 ||| BitVec.twoPow 32 (i % 32))
theorem fillTo_length (old : List (BitVec 32)) (i : Nat) : (fillTo old i).length = 8 := by
  induction i with
  | zero => rfl
  | succ i ih => simp only [fillTo]; split <;> simp [ih]
attribute [irreducible] bitAt zerosTo fillTo

theorem ofInt_twoPow (k : Nat) (P : BitVec 32) (hk : k < 32) (h : BitVec.twoPow 32 k = P) : BitVec.ofInt 32 ((2 : Int) ^ k) = P := by
  have := u32_shl_le 1 k (by omega)
  rw [Int.one_mul] at this
  rw [this, ← h]; rfl
theorem and_twoPow_zero (x : BitVec 32) (k : Nat) (hk : k < 32) : (x &&& BitVec.twoPow 32 k == 0#32) = !x.getLsbD k := by
  rw [BitVec.and_twoPow]
  cases x.getLsbD k
  · rfl
  · have h : BitVec.twoPow 32 k ≠ 0#32 := by
      intro h
      have := congrArg (fun v => v.getLsbD k) h
      simp [hk] at this
    simpa using h

set_option maxRecDepth 100000 in
set_option maxHeartbeats 2000000 in
theorem otp_toCounter (r : Ref) (ws : List (BitVec 32 × Bool)) (sl : Bool) (n : Nat) (w : World) (h : ChipAt w r ws sl) (h0 : countOf ws ≤ n) (h1 : n ≤ 255)
    (hz : n - countOf ws ≤ zerosTo (((vals ws).drop 1).take 8) 255) :
    Calls Try.prog 11 #[.pointer (some ⟨r.bc, 0, none⟩), .int .i64 n] w fun e w' =>
      ∃ I, I ≤ 255 ∧ zerosTo (((vals ws).drop 1).take 8) I = n - countOf ws ∧ Plans w w' e (planTo (vals ws) 1 (fillTo (((vals ws).drop 1).take 8) I) 8, 0) := by
  have hl := h.len
  obtain ⟨C, hC⟩ : ∃ C, countOf ws = C := ⟨_, rfl⟩
  obtain ⟨V, hV⟩ : ∃ V, vals ws = V := ⟨_, rfl⟩
  have hVl : V.length = 64 := by rw [← hV, vals_length]; exact hl
  obtain ⟨O, hO⟩ : ∃ O, (V.drop 1).take 8 = O := ⟨_, rfl⟩
  have hOl : O.length = 8 := by rw [← hO]; simp [hVl]
  rw [hC] at h0 hz ⊢
  rw [hV] at hz ⊢
  rw [hO] at hz ⊢
  have HC := Lib.hid hC; have HV := Lib.hid hV; have HVL := Lib.hid hVl; have HO := Lib.hid hO; have HOL := Lib.hid hOl
  clear hC hV hVl hO hOl hl
  go_enter Try.func11, Try.ntmps11
  go_wp2_with fail
  refine (otp_counter r ws sl _ h).mono ?_
  rintro e w1 ⟨rfl, hb1⟩
  rw [HC.out]
  have hs1 := hb1.size
  go_wp2_with fail
  refine (otp_all r ws sl _ (h.below hb1 (Nat.le_refl _))).mono ?_
  rintro e w2 ⟨g, cap, rfl, hcap, hg, hg1, hu, hb2⟩
  rw [HV.out] at hu
  have HU := Lib.hid hu; clear hu
  have hs2 := hb2.size
  go_wp2_with fail
  refine (otp_counter r ws sl _ (((h.below hb1 (Nat.le_refl _)).below hb2 (by omega)).below (below_alloc _ _) (by omega))).mono ?_
  rintro e w3 ⟨rfl, hb3⟩
  rw [HC.out]
  go_wp2_with fail
  have hs3 := hb3.size
  simp only [World.size_alloc] at hs3
  have hbl : Blk w3 w2.heap.size 75 (u32s (fillTo O 0)) := by
    have e0 : u32s (fillTo O 0) = [.int .u32 0, .int .u32 0, .int .u32 0, .int .u32 0, .int .u32 0, .int .u32 0, .int .u32 0, .int .u32 0] := by rw [fillTo, u32s_zero]; rfl
    rw [e0]
    refine Blk.below (Blk.new w2 _ _) hb3 (by simp)
  have hb23 : Below w2.heap.size w2 w3 := (below_alloc _ _).trans (hb3.mono (by simp))
  clear hb3
  go_loopw [8, 9] (fun i m wr => ∃ I M : Nat, I ≤ 255 ∧ i = .int .i64 I ∧ m = .int .i64 M ∧ zerosTo O I + M = n - C ∧ Blk wr w2.heap.size 75 (u32s (fillTo O I)) ∧ Below w2.heap.size w2 wr) (fun i _ _ => 256 - (intOf i).toNat)
  case atStart => exact ⟨0, n - C, by omega, rfl, by rw [Int.natCast_sub h0], by unfold zerosTo; omega, hbl, hb23⟩
  case round =>
    obtain ⟨I, M, hI, rfl, rfl, hzI, hblk, hbr⟩ := hrel
    by_cases hM : 0 < M
    · have hI2 : I < 255 := by
        rcases Nat.lt_or_ge I 255 with h | h
        · exact h
        · obtain rfl : I = 255 := by omega
          omega
      have hO1 : O[I / 32]'(by rw [HOL.out]; omega) = V[1 + I / 32]'(by rw [HVL.out]; omega) := by
        simp only [← HO.out, List.getElem_take, List.getElem_drop]
      have hu0 := (HU.out.below hbr hg1) (1 + I / 32) (by rw [HVL.out]; omega)
      rw [← hO1] at hu0
      obtain ⟨x, hx⟩ : ∃ x, O[I / 32]'(by rw [HOL.out]; omega) = x := ⟨_, rfl⟩
      rw [hx] at hu0
      simp only [Nat.zero_add] at hu0
      clear hO1
      have hbit : bitAt O I = x.getLsbD (I % 32) := by rw [bitAt, ← hx, List.getD_eq_getElem?_getD, List.getElem?_eq_getElem (by rw [HOL.out]; omega)]; rfl
      have HB := Lib.hid hbit; clear hbit hx
      obtain ⟨P, hP⟩ : ∃ P, BitVec.twoPow 32 (I % 32) = P := ⟨_, rfl⟩
      have hPv := ofInt_twoPow _ _ (by omega) hP
      have HP := Lib.hid hP; clear hP
      have ht := and_twoPow_zero x (I % 32) (by omega)
      rw [HP.out] at ht
      cases hb : x.getLsbD (I % 32)
      · rw [hb] at ht HB
        simp only [Bool.not_false] at ht
        clear hb
        have hfl := fillTo_length O I
        obtain ⟨y, hy⟩ : ∃ y, (fillTo O I)[I / 32]'(by omega) = y := ⟨_, rfl⟩
        have hc := hblk.cell (I / 32)
        rw [u32s, List.getElem?_map, List.getElem?_eq_getElem (by omega), hy, Option.map_some] at hc
        have hfr := hblk.free (I / 32)
        have hF : fillTo O (I + 1) = (fillTo O I).set (I / 32) (y ||| P) := by
          rw [fillTo, HB.out, HP.out]
          simp only [Bool.false_eq_true, if_false]
          rw [List.getD_eq_getElem?_getD, List.getElem?_eq_getElem (by omega), hy]; rfl
        have hZ : zerosTo O (I + 1) = zerosTo O I + 1 := by rw [zerosTo, HB.out]; rfl
        have hblk2 := hblk.set (I / 32) (.int .u32 (U32 (y ||| P)))
        have he : (u32s (fillTo O I)).set (I / 32) (.int .u32 (U32 (y ||| P))) = u32s (fillTo O (I + 1)) := by rw [hF, u32s, u32s, List.map_set]
        rw [he] at hblk2
        have HZ := Lib.hid hZ
        clear hZ hF he hy hfl
        have HBLK2 := Lib.hid hblk2; clear hblk2 hblk
        go_wp2
        go_roundw
        case rel => exact ⟨I + 1, M - 1, by omega, by go_num, by rw [Int.natCast_sub hM]; rfl, by have := HZ.out; omega, HBLK2.out, hbr.setCell (Nat.le_refl _) _⟩
        case measure => simp [intOf]; omega
      · rw [hb] at ht HB
        simp only [Bool.not_true] at ht
        clear hb
        have hF : fillTo O (I + 1) = fillTo O I := by rw [fillTo, HB.out]; rfl
        have hZ : zerosTo O (I + 1) = zerosTo O I := by rw [zerosTo, HB.out]; rfl
        have HF := Lib.hid hF; have HZ := Lib.hid hZ; clear hF hZ
        go_wp2
        go_roundw
        case rel => exact ⟨I + 1, M, by omega, by go_num, rfl, by rw [HZ.out]; exact hzI, by rw [HF.out]; exact hblk, hbr⟩
        case measure => simp [intOf]; omega
    · have hM0 : M = 0 := by omega
      subst hM0
      clear hM
      have hsr := hbr.size
      have hlt := hblk.lt
      go_wp2_with fail
      refine (otp_plan r ws sl _ 1 _ 0 _ (fillTo O I) 8 _ (((h.below hb1 (Nat.le_refl _)).below hb2 (by omega)).below hbr (by omega)) rfl (fillTo_length O I) (by omega) hlt ?_).mono ?_
      · intro i hi
        rw [hblk.cell (0 + i), u32s, List.getElem?_map, Nat.zero_add, List.getElem?_eq_getElem hi]
        rfl
      rintro e w4 ⟨v, rfl, hown, hb4⟩
      rw [HV.out] at hown
      go_wp2_with fail
      go_ret2
      refine ⟨I, hI, by omega, v, rfl, ownsRow_mono hown (by omega), ?_⟩
      exact ((hb1.trans (hb2.mono hs1)).trans (hbr.mono (by omega))).trans (hb4.mono (by omega))

end Go.Proofs.Ytoefaghakjcfcaa
