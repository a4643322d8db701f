/- The walks of package otp: Tear, Seal, New, Of. -/
import Derived.Test.YtoefaghakjcfcaaOtp5
namespace Go.Proofs.Ytoefaghakjcfcaa
open Go.RowKit

set_option maxRecDepth 100000 in
set_option maxHeartbeats 1000000 in
theorem otp_tear (r : Ref) (ws : List (BitVec 32 × Bool)) (sl : Bool) (i : Int) (v g : BitVec 32) (w : World) (h : ChipAt w r ws sl) :
    Calls Try.prog 25 #[.pointer (some ⟨r.bc, 0, none⟩), .agg #[.int .i64 i, .int .u32 (U32 v)], .int .u32 (U32 g)] w fun e w' =>
      e = .returned (.int .i64 (cut1 ws i v g).2) ∧ ChipAt w' r (cut1 ws i v g).1 sl ∧ Kept (· = r.bw) w w' := by
  have hcp := h.chip.cell 0
  simp only [List.getElem?_cons_zero] at hcp
  have H := Lib.hid h
  have hl := h.chip.lt
  clear h
  go_enter Try.func25, Try.ntmps25
  go_wp2_with fail
  refine wp_region_still_tail 9 (by kernel_rfl) (by kernel_rfl) ?_
  simp only [List.take_succ_cons, List.take_zero, List.drop_succ_cons, List.drop_zero]
  obtain ⟨W0, hW0⟩ : ∃ W0, (w.alloc (.cells #[.int .i64 i, .int .u32 (U32 v)] 57)).drew = W0 := ⟨_, rfl⟩
  have g1 : W0.cell? ⟨w.heap.size, 0, none⟩ = some (.int .i64 i) := by rw [← hW0]; exact World.cell?_alloc_at _ _ _ _ rfl
  have g2 : W0.cell? ⟨w.heap.size, 1, none⟩ = some (.int .u32 (U32 v)) := by rw [← hW0]; exact World.cell?_alloc_at _ _ _ _ rfl
  have g3 : W0.cell? ⟨r.bc, 0, none⟩ = some (.pointer (some ⟨r.ba, 0, none⟩)) := by rw [← hW0]; exact (World.cell?_alloc_past _ _ _ hl).trans hcp
  have hbW : Below w.heap.size w W0 := by rw [← hW0]; exact (below_alloc _ _).drew
  have hchW := H.out.below hbW (Nat.le_refl _)
  change wpStill _ _ ((w.alloc (.cells #[.int .i64 i, .int .u32 (U32 v)] 57)).drew) (fun a' => wpList _ _ _ _ a' ((w.alloc (.cells #[.int .i64 i, .int .u32 (U32 v)] 57)).drew)) _ _
  rw [hW0]
  clear hW0 hcp hl
  have HCH := Lib.hid hchW; clear hchW
  repeat still_step
  refine wpStill_nil ?_
  go_wp2_with fail
  refine (fuse_cut _ _ _ _ _ _ g _ _ HCH.out.arr rfl).mono ?_
  rintro e w2 ⟨rfl, ha2, hk2⟩
  go_wp2_with fail
  go_ret
  exact ⟨rfl, KeptChip HCH.out ha2 hk2 (by rw [cut1_length]; exact HCH.out.len), (Kept.of_below hbW).trans hk2⟩

/-- The words of the rows are locked. -/
def sealTo (ws : List (BitVec 32 × Bool)) : Nat → List (BitVec 32 × Bool)
  | 0 => ws
  | k + 1 => (sealTo ws k).set (27 + k) (((sealTo ws k).getD (27 + k) (0, false)).1, true)
theorem sealTo_length (ws : List (BitVec 32 × Bool)) (k : Nat) : (sealTo ws k).length = ws.length := by
  induction k with
  | zero => rfl
  | succ k ih => simp only [sealTo, List.length_set, ih]
theorem sealTo_vals (ws : List (BitVec 32 × Bool)) (k : Nat) (h : 27 + k ≤ ws.length) : vals (sealTo ws k) = vals ws := by
  induction k with
  | zero => rfl
  | succ k ih =>
    rw [sealTo, vals_set, ih (by omega)]
    have hl := sealTo_length ws k
    have e : ((sealTo ws k).getD (27 + k) (0, false)).1 = (vals ws)[27 + k]'(by rw [vals_length]; omega) := by
      rw [List.getD_eq_getElem?_getD, List.getElem?_eq_getElem (by omega)]
      have e2 : ((sealTo ws k)[27 + k]'(by omega)).1 = (vals (sealTo ws k))[27 + k]'(by rw [vals_length]; omega) := by simp [vals]
      rw [Option.getD_some, e2]
      congr 1
      exact ih (by omega)
    rw [e, List.set_getElem_self]
attribute [irreducible] sealTo

set_option maxRecDepth 100000 in
set_option maxHeartbeats 1000000 in
theorem otp_seal (r : Ref) (ws : List (BitVec 32 × Bool)) (sl : Bool) (w : World) (h : ChipAt w r ws sl) :
    Calls Try.prog 29 #[.pointer (some ⟨r.bc, 0, none⟩)] w fun e w' =>
      e = .returned (.tuple #[]) ∧ ChipAt w' r (sealTo ws 36) true ∧ Kept (fun b => b = r.bc ∨ b = r.bw) w w' := by
  have hc1 := h.chip.cell 1
  simp only [List.getElem?_cons_succ, List.getElem?_cons_zero] at hc1
  have hf1 := h.chip.free 1
  have hch : ChipAt (w.setCell ⟨r.bc, 1, none⟩ (.bool true)) r (sealTo ws 0) true := by
    unfold sealTo
    exact ⟨h.chip.set 1 (.bool true), ⟨h.arr.arr.other h.n1 _, h.arr.wrd.other h.n2 _, h.arr.ne, h.arr.len⟩, h.n1, h.n2, h.len⟩
  have hkp : Kept (fun b => b = r.bc ∨ b = r.bw) w (w.setCell ⟨r.bc, 1, none⟩ (.bool true)) := (Kept.set1 _ _ _ _).mono (fun _ h => .inl h)
  have hlen := h.len
  have HCH := Lib.hid hch; have HL := Lib.hid hlen
  clear hch h hlen
  go_enter Try.func29, Try.ntmps29
  go_wp2_with fail
  go_loopw [2] (fun i wr => ∃ (k : Nat), k ≤ 36 ∧ i = .int .i64 (27 + k : Nat) ∧ ChipAt wr r (sealTo ws k) true ∧ Kept (fun b => b = r.bc ∨ b = r.bw) w wr) (fun i _ => 63 - (intOf i).toNat)
  case atStart => exact ⟨0, by omega, rfl, HCH.out, hkp⟩
  case round =>
    obtain ⟨k, hk, rfl, hch, hk1⟩ := hrel
    by_cases hlt : k < 36
    · have hcp := hch.chip.cell 0
      simp only [List.getElem?_cons_zero] at hcp
      have H2 := Lib.hid hch; clear hch
      go_wp2_with fail
      refine (fuse_lock _ _ _ _ (27 + k) _ H2.out.arr (by rw [sealTo_length, HL.out]; omega)).mono ?_
      rintro e w2 ⟨rfl, ha2, hk2⟩
      have hh := KeptChip H2.out ha2 hk2 (by rw [List.length_set, sealTo_length]; exact HL.out)
      have e : (sealTo ws k).set (27 + k) (((sealTo ws k)[27 + k]'(by rw [sealTo_length, HL.out]; omega)).1, true) = sealTo ws (k + 1) := by
        rw [sealTo.eq_2, List.getD_eq_getElem?_getD, List.getElem?_eq_getElem (by rw [sealTo_length, HL.out]; omega)]; rfl
      rw [e] at hh
      have HH := Lib.hid hh
      clear e hh ha2 H2
      go_wp2
      go_roundw
      case rel => exact ⟨k + 1, by omega, by go_num, HH.out, hk1.trans (hk2.mono (fun _ h => .inr h))⟩
      case measure => simp [intOf]; omega
    · have : k = 36 := by omega
      subst this
      have H2 := Lib.hid hch; clear hch
      go_wp2
      go_end0
      exact ⟨rfl, H2.out, hk1⟩

set_option maxRecDepth 100000 in
set_option maxHeartbeats 1000000 in
theorem otp_new (w : World) :
    Calls Try.prog 10 #[] w fun e w' => ∃ r : Ref, e = .returned (.pointer (some ⟨r.bc, 0, none⟩)) ∧ ChipAt w' r (List.replicate 64 (0, false)) false ∧ w.heap.size ≤ r.bc ∧ w.heap.size ≤ r.ba ∧ w.heap.size ≤ r.bw ∧ Below w.heap.size w w' := by
  obtain ⟨Z, hZ⟩ : ∃ Z : List (BitVec 32 × Bool), List.replicate 64 (0, false) = Z := ⟨_, rfl⟩
  rw [hZ]
  have HZ := Lib.hid hZ; clear hZ
  go_enter Try.func10, Try.ntmps10
  go_wp2_with fail
  refine (fuse_new 64 w (by omega)).mono ?_
  rintro e w1 ⟨ba, bw, rfl, ha, h1, h2, hb⟩
  rw [HZ.out] at ha
  have HA := Lib.hid ha; clear ha
  go_wp2_with fail
  go_ret
  have hl1 := HA.out.arr.lt
  have hl2 := HA.out.wrd.lt
  have hs := hb.size
  refine ⟨⟨w1.heap.size, ba, bw, _⟩, rfl, ⟨Blk.new w1 _ [.pointer (some ⟨ba, 0, none⟩), .bool false], HA.out.below (below_alloc _ _) hl1 hl2, by simp; omega, by simp; omega, by rw [← HZ.out, List.length_replicate]⟩, by simp; omega, h1, h2, hb.alloc (by omega) _⟩

end Go.Proofs.Ytoefaghakjcfcaa
