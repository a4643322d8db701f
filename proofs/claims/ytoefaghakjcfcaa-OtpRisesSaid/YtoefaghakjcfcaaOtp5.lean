/- The walks of package otp: refusals, Kill, Do, Tear, Seal, New. -/
import Derived.Test.YtoefaghakjcfcaaOtp4
import Derived.StillTailTactics
namespace Go.Proofs.Ytoefaghakjcfcaa
open Go.RowKit

theorem KeptChip {w w' : World} {r : Ref} {ws ws' : List (BitVec 32 × Bool)} {sl : Bool} (h : ChipAt w r ws sl) (ha : ArrAt w' r.ba r.bw r.cap ws') (hk : Kept (· = r.bw) w w') (hl : ws'.length = 64) : ChipAt w' r ws' sl :=
  ⟨h.chip.kept hk h.n2, ha, h.n1, h.n2, hl⟩

set_option maxRecDepth 100000 in
set_option maxHeartbeats 1000000 in
theorem otp_toCounter_arg (r : Ref) (n : Int) (w : World) (hn : n < 0 ∨ n > 255) :
    Calls Try.prog 11 #[.pointer (some ⟨r.bc, 0, none⟩), .int .i64 n] w fun e w' => Plans w w' e ([], 1) := by
  rcases hn with hn | hn
  all_goals
    go_enter Try.func11, Try.ntmps11
    go_wp2_with fail
    go_ret2
    exact .err 1 (Below.refl _ _)

set_option maxRecDepth 100000 in
set_option maxHeartbeats 1000000 in
theorem otp_toCounter_old (r : Ref) (ws : List (BitVec 32 × Bool)) (sl : Bool) (n : Int) (w : World) (h : ChipAt w r ws sl) (h0 : 0 ≤ n) (h1 : n ≤ 255) (h2 : n < countOf ws) :
    Calls Try.prog 11 #[.pointer (some ⟨r.bc, 0, none⟩), .int .i64 n] w fun e w' => Plans w w' e ([], 15) := by
  obtain ⟨C, hC⟩ : ∃ C, countOf ws = C := ⟨_, rfl⟩
  rw [hC] at h2
  have HC := Lib.hid hC; clear hC
  go_enter Try.func11, Try.ntmps11
  go_wp2_with fail
  refine (otp_counter r ws sl _ h).mono ?_
  rintro e w1 ⟨rfl, hb⟩
  rw [HC.out]
  go_wp2_with fail
  go_ret2
  exact .err 15 hb

/-- Where a row begins. -/
def atOf (i : Int) : Int × Nat := if i < 0 ∨ i ≥ 4 then (0, 1) else (27 + 9 * i, 0)
set_option maxRecDepth 100000 in
set_option maxHeartbeats 1000000 in
theorem otp_at (i : Int) (w : World) :
    Calls Try.prog 42 #[.int .i64 i] w fun e w' => e = .returned (.tuple #[.int .i64 (atOf i).1, .int .i64 (atOf i).2]) ∧ w = w' := by
  by_cases h0 : i < 0
  · have hr : atOf i = (0, 1) := if_pos (.inl h0)
    rw [hr]; clear hr
    go_enter Try.func42, Try.ntmps42
    go_wp2_with fail
    go_ret2
    exact ⟨rfl, rfl⟩
  by_cases h1 : i ≥ 4
  · have hr : atOf i = (0, 1) := if_pos (.inr h1)
    rw [hr]; clear hr
    go_enter Try.func42, Try.ntmps42
    go_wp2_with fail
    go_ret2
    exact ⟨rfl, rfl⟩
  · have hr : atOf i = (27 + 9 * i, 0) := if_neg (by omega)
    rw [hr]; clear hr
    go_enter Try.func42, Try.ntmps42
    go_wp2_with fail
    go_ret2
    exact ⟨rfl, rfl⟩

def killOf (ws : List (BitVec 32 × Bool)) (i : Int) : List (Nat × BitVec 32) × Nat :=
  if i < 0 ∨ i ≥ 4 then ([], 1) else (planTo (vals ws) (35 + 9 * i.toNat) [0xff00] 1, 0)
set_option maxRecDepth 100000 in
set_option maxHeartbeats 1000000 in
theorem otp_kill (r : Ref) (ws : List (BitVec 32 × Bool)) (sl : Bool) (i : Int) (w : World) (h : ChipAt w r ws sl) :
    Calls Try.prog 20 #[.pointer (some ⟨r.bc, 0, none⟩), .int .i64 i] w fun e w' => Plans w w' e (killOf ws i) := by
  by_cases h0 : i < 0 ∨ i ≥ 4
  · have hr : killOf ws i = ([], 1) := if_pos h0
    rw [hr]; clear hr
    have ha : atOf i = (0, 1) := if_pos h0
    have HA := Lib.hid ha; clear ha h0
    go_enter Try.func20, Try.ntmps20
    go_wp2_with fail
    refine (otp_at i _).mono ?_
    rintro e w1 ⟨rfl, rfl⟩
    rw [HA.out]
    go_wp2_with fail
    go_ret2
    exact .err 1 (Below.refl _ _)
  · have hr : killOf ws i = (planTo (vals ws) (35 + 9 * i.toNat) [0xff00] 1, 0) := if_neg h0
    rw [hr]; clear hr
    have ha : atOf i = (27 + 9 * i, 0) := if_neg h0
    have HA := Lib.hid ha; clear ha
    obtain ⟨k, rfl⟩ := Int.eq_ofNat_of_zero_le (show 0 ≤ i by omega)
    have hk : k < 4 := by omega
    clear h0
    rw [Int.toNat_natCast]
    go_enter Try.func20, Try.ntmps20
    go_wp2_with fail
    refine (otp_at k _).mono ?_
    rintro e w1 ⟨rfl, rfl⟩
    rw [HA.out]
    go_wp2_with fail
    refine (otp_plan r ws sl _ (35 + 9 * k) _ 0 _ [0xff00] 1 _ (h.below (below_alloc _ _) (Nat.le_refl _)) (by omega) rfl (by omega) (by simp) (by exact U32At.lit _ 0xff00 _ _ _ rfl (by first | rfl | (rw [U32_eq]; rfl)))).mono ?_
    rintro e w2 ⟨v, rfl, hown, hb2⟩
    go_wp2_with fail
    go_ret2
    exact ⟨v, rfl, ownsRow_mono hown (by simp), (below_alloc _ _).trans (hb2.mono (by simp))⟩

/-- What is programmed wholly, one behind the other. -/
def doAll (ws : List (BitVec 32 × Bool)) : List (Nat × BitVec 32) → List (BitVec 32 × Bool) × Nat
  | [] => (ws, 0)
  | (n, v) :: r => if (cut1 ws n v (BitVec.allOnes 32)).2 = 0 then doAll (cut1 ws n v (BitVec.allOnes 32)).1 r else cut1 ws n v (BitVec.allOnes 32)
theorem doAll_length (l : List (Nat × BitVec 32)) : ∀ ws : List (BitVec 32 × Bool), (doAll ws l).1.length = ws.length := by
  induction l with
  | nil => intro ws; rfl
  | cons a l ih =>
    intro ws
    obtain ⟨n, v⟩ := a
    simp only [doAll]
    split
    · rw [ih, cut1_length]
    · rw [cut1_length]

set_option maxRecDepth 100000 in
set_option maxHeartbeats 1000000 in
theorem otp_do (r : Ref) (ws : List (BitVec 32 × Bool)) (sl : Bool) (l : List (Nat × BitVec 32)) (b o cap : Nat) (n : Nat) (w : World) (h : ChipAt w r ws sl) (hn : l.length = n) (hn2 : n ≤ 1000)
    (hb : n = 0 ∨ b < w.heap.size) (hbw : n = 0 ∨ b ≠ r.bw) (hc : ∀ i, (h : i < l.length) → w.cell? ⟨b, o + i * 2, none⟩ = some (.int .i64 l[i].1) ∧ w.cell? ⟨b, o + i * 2 + 1, none⟩ = some (.int .u32 (U32 l[i].2))) (a : Option Addr) (ha : n = 0 ∨ a = some ⟨b, o, none⟩) :
    Calls Try.prog 12 #[.pointer (some ⟨r.bc, 0, none⟩), .slice a n cap] w fun e w' => e = .returned (.int .i64 (doAll ws l).2) ∧ ChipAt w' r (doAll ws l).1 sl ∧ Kept (· = r.bw) w w' := by
  obtain ⟨D, hD⟩ : ∃ D, doAll ws l = D := ⟨_, rfl⟩
  have HC := Lib.hid hc; have HN := Lib.hid hn; have H := Lib.hid h; have HB := Lib.hid hb; have HBW := Lib.hid hbw; have HA := Lib.hid ha
  rw [hD]
  have HD := Lib.hid hD
  clear hc hn h hb hbw ha hD
  go_enter Try.func12, Try.ntmps12
  go_wp2_with fail
  go_loopw [12] (fun i wr => ∃ (k : Nat) (ws1 : List (BitVec 32 × Bool)), k ≤ n ∧ i = .int .i64 k ∧ doAll ws1 (l.drop k) = D ∧ ChipAt wr r ws1 sl ∧ Kept (· = r.bw) w wr) (fun i _ => n - (intOf i).toNat)
  case atStart => exact ⟨0, ws, by omega, rfl, HD.out, H.out, Kept.refl _ _⟩
  case round =>
    obtain ⟨k, ws1, hk, rfl, hd, hch, hkp⟩ := hrel
    by_cases hlt : k < n
    · obtain rfl : a = some ⟨b, o, none⟩ := HA.out.resolve_left (by omega)
      have hcc := HC.out k (by rw [HN.out]; exact hlt)
      have hbb : b < w.heap.size := HB.out.resolve_left (by omega)
      have hbn : b ≠ r.bw := HBW.out.resolve_left (by omega)
      obtain ⟨⟨m, v⟩, hx⟩ : ∃ x, l[k]'(by rw [HN.out]; exact hlt) = x := ⟨_, rfl⟩
      rw [hx] at hcc
      have hblk := hkp.block b hbb hbn
      have hc1 : wr.cell? ⟨b, o + k * 2, none⟩ = some (.int .i64 m) := by rw [World.cell?_of_block (w := w) (a := ⟨b, o + k * 2, none⟩) hblk]; exact hcc.1
      have hc2 : wr.cell? ⟨b, o + k * 2 + 1, none⟩ = some (.int .u32 (U32 v)) := by rw [World.cell?_of_block (w := w) (a := ⟨b, o + k * 2 + 1, none⟩) hblk]; exact hcc.2
      have hd2 : doAll ws1 ((m, v) :: l.drop (k + 1)) = D := by rw [← hd, List.drop_eq_getElem_cons (l := l) (i := k) (by rw [HN.out]; exact hlt), hx]
      have hcp := hch.chip.cell 0
      simp only [List.getElem?_cons_zero] at hcp
      have HD2 := Lib.hid hd2; clear hd2 hd hcc hx hblk
      go_wp2_with fail
      refine wp_region_still_tail 8 (by kernel_rfl) (by kernel_rfl) ?_
      simp only [List.take_succ_cons, List.take_zero, List.drop_succ_cons, List.drop_zero]
      obtain ⟨W0, hW0⟩ : ∃ W0, (wr.alloc (.cells #[.int .i64 m, .int .u32 (U32 v)] 57)).drew = W0 := ⟨_, rfl⟩
      have hl := hch.chip.lt
      have g1 : W0.cell? ⟨wr.heap.size, 0, none⟩ = some (.int .i64 m) := by rw [← hW0]; exact World.cell?_alloc_at _ _ _ _ rfl
      have g2 : W0.cell? ⟨wr.heap.size, 1, none⟩ = some (.int .u32 (U32 v)) := by rw [← hW0]; exact World.cell?_alloc_at _ _ _ _ rfl
      have g3 : W0.cell? ⟨r.bc, 0, none⟩ = some (.pointer (some ⟨r.ba, 0, none⟩)) := by rw [← hW0]; exact (World.cell?_alloc_past _ _ _ hl).trans hcp
      have hbW : Below wr.heap.size wr W0 := by rw [← hW0]; exact (below_alloc _ _).drew
      have hchW := hch.below hbW (Nat.le_refl _)
      change wpStill _ _ ((wr.alloc (.cells #[.int .i64 m, .int .u32 (U32 v)] 57)).drew) (fun a' => wpList _ _ _ _ a' ((wr.alloc (.cells #[.int .i64 m, .int .u32 (U32 v)] 57)).drew)) _ _
      rw [hW0]
      clear hW0 hc1 hc2 hcp hl
      have HCH := Lib.hid hchW; clear hchW hch
      repeat still_step
      refine wpStill_nil ?_
      go_wp2_with fail
      refine (fuse_program _ _ _ _ _ _ _ HCH.out.arr).mono ?_
      rintro e w2 ⟨rfl, ha2, hk2⟩
      have hch2 := KeptChip HCH.out ha2 hk2 (by rw [cut1_length]; exact HCH.out.len)
      have hkp2 : Kept (· = r.bw) w w2 := hkp.trans ((Kept.of_below hbW).trans hk2)
      have HCH2 := Lib.hid hch2
      clear hch2 ha2 hk2 HCH
      by_cases he : (cut1 ws1 m v (BitVec.allOnes 32)).2 = 0
      · have hd3 : doAll (cut1 ws1 m v (BitVec.allOnes 32)).1 (l.drop (k + 1)) = D := by rw [← HD2.out, doAll, if_pos he]
        rw [he]
        clear he
        go_wp2
        go_roundw
        case rel => exact ⟨k + 1, _, by omega, by go_num, hd3, HCH2.out, hkp2⟩
        case measure => simp [intOf]; omega
      · have hd3 : cut1 ws1 m v (BitVec.allOnes 32) = D := by rw [← HD2.out, doAll, if_neg he]
        rw [hd3] at he ⊢ HCH2
        have hne : (((D.2 : Nat) : Int) != 0) = true := by rw [bne_iff_ne]; omega
        go_wp2
        go_ret
        exact ⟨rfl, HCH2.out, hkp2⟩
    · have hkn : k = n := by omega
      subst hkn
      have hd2 : (ws1, 0) = D := by rw [← hd, List.drop_eq_nil_of_le (by rw [HN.out]; exact Nat.le_refl _)]; rfl
      go_wp2
      go_ret
      subst hd2
      exact ⟨rfl, hch, hkp⟩

end Go.Proofs.Ytoefaghakjcfcaa
