/- The walk of curtilagelaw11.plan on a nil chip. -/
import Derived.Test.YtoefaghakjcfcaaHeld
import Derived.Deep.DeepCutAuto
namespace Go.Proofs.Ytoefaghakjcfcaa
open Go.RowKit

theorem step_load_blk {P : Program} {ops : Array Oper} {o : Oper} {a : Act} {w : World} {K : Act → World → Prop} {Q : Exit → Act → World → Prop} {E : Prop} (hgd : o.guard = none) (ty : TypeId) (x : Operand) (ho : o.op = .load ty x)
    (b off n : Nat) (vs : List Value) (hx : a.eval x = .pointer (some ⟨b, off, none⟩)) (T : TypeId) (cs : List Value) (d : TypeDesc) (hb : Blk w b T cs) (hu : P.underlying ty = some d)
    (hd : (match d with | .struct _ | .array _ _ => true | _ => false) = true) (hi : (P.info? ty).map (·.size) = some n) (hle : off + n ≤ cs.length) (hv : (cs.drop off).take n = vs)
    (h : K (a.put o.dst (.agg vs.toArray)) w) : if Region.wanted o (yielded ops a.tmps) = true then Oper.wp P o a w K Q else E := by
  rw [if_pos (by simp [Region.wanted, hgd])]
  exact wp_load_blk ty x ho b off n hx T cs d hb hu hd hi hle (by rw [hv]; exact h)
theorem key_pieces {w w' : World} {h : Nat} {ka : List Value} {T : TypeId} {K : List (BitVec 8)} (hb : Blk w h T ka) (hk : (ka.drop 2).take 32 = u8s K) (hl : K.length = 32) (k : Below w.heap.size w w') (n : Nat) (hn : n ≤ 32) :
    Piece.At w' ⟨some ⟨h, 2, none⟩, h, 2, n, 32, K.take n⟩ := by
  have hlt := hb.lt
  refine ⟨by rw [List.length_take, hl]; exact Nat.min_eq_left hn, .inr ⟨rfl, Nat.lt_of_lt_of_le hlt k.size⟩, ?_, fun h => by cases h⟩
  have hu : U8At w h 2 K := U8At.of_blk hb 2 K (fun i hi => by
    have e : ((ka.drop 2).take 32)[i]? = (u8s K)[i]? := by rw [hk]
    rw [List.getElem?_take, if_pos (by omega), List.getElem?_drop, u8s_get] at e
    exact e)
  intro i hi
  have hi2 : i < K.length := by simp at hi; omega
  have := (hu.below k hlt) i hi2
  simpa only [List.getElem_take] using this
theorem u8_rem5 (x : BitVec 8) : (U8 x).tmod 5 = ((x.toNat % 5 : Nat) : Int) := by
  rw [U8_eq, Int.tmod_eq_emod_of_nonneg (by omega)]; omega

set_option maxRecDepth 100000 in
set_option maxHeartbeats 1000000 in
theorem plan11_nil (A : Act11) (w : World) (hA : A.Ok) :
    Calls Try.prog 24 #[.pointer none, .agg (actCells A).toArray] w fun e w' => e = .returned (.tuple #[.slice none 0 0, .int .i64 3]) ∧ Below w.heap.size w w' := by
  obtain ⟨ka, hka⟩ : ∃ ka, actCells A = ka := ⟨_, rfl⟩
  have hal : ka.length = 37 := by rw [← hka]; exact actCells_length hA
  have hkey : (ka.drop 2).take 32 = u8s A.key := by rw [← hka]; exact actCells_key hA
  have hk0 : ka[0]? = some (.int .u8 (U8 A.op)) := by rw [← hka]; rfl
  have hk1 : ka[1]? = some (.int .i64 A.n) := by rw [← hka]; rfl
  rw [hka]
  have hrem := u8_rem5 A.op
  obtain ⟨m, hm⟩ : ∃ m, A.op.toNat % 5 = m := ⟨_, rfl⟩
  rw [hm] at hrem
  have hm5 : m < 5 := by omega
  generalize U8 A.op = ux at *
  obtain ⟨N, hN⟩ : ∃ N, A.n = N := ⟨_, rfl⟩
  rw [hN] at hk1
  obtain ⟨K, hK⟩ : ∃ K, A.key = K := ⟨_, rfl⟩
  rw [hK] at hkey
  have hKl : K.length = 32 := by rw [← hK]; exact hA.key
  obtain ⟨W1, hW1, b1, b2, hs⟩ := allocs1 w ka 43
  have c0 := (b1.cell 0).trans hk0
  have c1 := (b1.cell 1).trans hk1
  have HW1 := Lib.hid hW1; have HAL := Lib.hid hal; have HKEY := Lib.hid hkey; have HKL := Lib.hid hKl; have B1 := Lib.hid b1
  clear hka hm hN hK hKl hW1 hal hkey hk0 hk1 hA b1
  go_enter Try.func24, Try.ntmps24
  go_upto_region 1 with fail
  have e : w.alloc (.cells ka.toArray 43) = W1 := HW1.out
  rw [e]
  clear e
  obtain rfl | rfl | rfl | rfl | rfl : m = 0 ∨ m = 1 ∨ m = 2 ∨ m = 3 ∨ m = 4 := by omega
  · go_wp2_with fail
    refine (otp_toLife_nil N W1).mono ?_
    rintro e w2 ⟨rfl, hb2⟩
    go_wp2_with fail
    go_ret2
    exact ⟨rfl, b2.trans (hb2.mono (by omega))⟩
  · go_wp2_with fail
    refine (otp_toCounter_nil N W1).mono ?_
    rintro e w2 ⟨rfl, hb2⟩
    go_wp2_with fail
    go_ret2
    exact ⟨rfl, b2.trans (hb2.mono (by omega))⟩
  · go_upto_region 7 with fail
    go_cut [4, 5] (fun s4 s5 wx => s4 = .slice none 0 0 ∧ s5 = .int .i64 3 ∧ Below W1.heap.size W1 wx)
    case first =>
      have h16 : (ka.drop 2).take 16 = u8s (K.take 16) := by rw [← u8s_take, ← HKEY.out, List.take_take]; rfl
      have H16 := Lib.hid h16; clear h16
      have hlt := B1.out.lt
      have har := fun (ad : Addr) (len c : Nat) (h : 16 ≤ len) wx => run_arrayAt (P := Try.prog) ad len c Try.underlying47 h wx
      obtain ⟨WJ, hWJ⟩ : ∃ WJ, (W1.alloc (.cells #[.slice (some ⟨w.heap.size, 2, none⟩) 32 32, .slice (some ⟨w.heap.size, 2, none⟩) 24 32] 22)).drew = WJ := ⟨_, rfl⟩
      have hbJ : Below W1.heap.size W1 WJ := by rw [← hWJ]; exact (below_alloc _ _).drew
      have hjoin : Calls Try.prog 35 #[.slice (some ⟨w.heap.size + 1, 0, none⟩) 2 2] WJ fun e w' => ∃ v, e = .returned v ∧ w'.ownsRow WJ.heap.size 5 1 v (joined [⟨some ⟨w.heap.size, 2, none⟩, w.heap.size, 2, 32, 32, K.take 32⟩, ⟨some ⟨w.heap.size, 2, none⟩, w.heap.size, 2, 24, 32, K.take 24⟩]).length (u8s (joined [⟨some ⟨w.heap.size, 2, none⟩, w.heap.size, 2, 32, 32, K.take 32⟩, ⟨some ⟨w.heap.size, 2, none⟩, w.heap.size, 2, 24, 32, K.take 24⟩])) ∧ Below WJ.heap.size WJ w' := by
        refine r1_join _ (w.heap.size + 1) 0 2 2 _ WJ rfl (by omega) (.inr ⟨rfl, by rw [← hWJ]; simp; omega⟩) ?_ ?_ ?_
        · intro i hi
          match i, hi with
          | 0, _ => rw [← hWJ, ← hs]; exact World.cell?_alloc_at _ _ _ _ rfl
          | 1, _ => rw [← hWJ, ← hs]; exact World.cell?_alloc_at _ _ _ _ rfl
        · intro i hi
          match i, hi with
          | 0, _ => exact key_pieces B1.out HKEY.out HKL.out hbJ 32 (by omega)
          | 1, _ => exact key_pieces B1.out HKEY.out HKL.out hbJ 24 (by omega)
        · simp [joined, HKL.out]
      have HJ := Lib.hid hjoin; have HWJ := Lib.hid hWJ
      clear hjoin hWJ
      have hsJ := hbJ.size
      have hrg : ∀ wx, Below W1.heap.size W1 wx → wx.rangeAt w.heap.size 2 (u8s (K.take 16)) := fun wx hx => by
        intro j v hj
        rw [(B1.out.below hx hlt).cell, ← List.getElem?_drop]
        have e : ((ka.drop 2).take 16)[j]? = (u8s (K.take 16))[j]? := by rw [H16.out]
        rw [hj, List.getElem?_take] at e
        split at e
        · exact e
        · exact absurd e (by simp)
      have hnl : (Try.prog.info? 47).map (·.size) = some (u8s (K.take 16)).length := by
        rw [u8s_length, List.length_take, HKL.out]
        kernel_rfl
      have HRG := Lib.hid hrg; have HNL := Lib.hid hnl
      clear hrg hnl
      generalize hGL : u8s (K.take 16) = GL at *
      have HGL := Lib.hid hGL; clear hGL
      refine wp_region_held_drew (S := fun wx => Below W1.heap.size W1 wx) (by kernel_rfl) (Below.refl _ _).drew (fun hHeld => ?_)
      refine held_take 0 (v := ?_) rfl rfl (by kernel_rfl) (by kernel_rfl) (by kernel_rfl) (fun _ _ _ h => h) (by rfl) ?_ (by assumption) ?_
      rotate_left
      · intro wx hSw; clear hSw; go_simp; try with_reducible rfl
      simp only [List.set_cons_zero, List.set_cons_succ]
      refine held_take 1 (v := ?_) rfl rfl (by kernel_rfl) (by kernel_rfl) (by kernel_rfl) (fun _ _ _ h => h) (by rfl) ?_ (by assumption) ?_
      rotate_left
      · intro wx hSw; clear hSw; go_simp; try with_reducible rfl
      simp only [List.set_cons_zero, List.set_cons_succ]
      refine held_take 2 (v := ?_) rfl rfl (by kernel_rfl) (by kernel_rfl) (by kernel_rfl) (fun _ _ _ h => h) (by rfl) ?_ (by assumption) ?_
      rotate_left
      · intro wx hSw; clear hSw; go_simp; try with_reducible rfl
      simp only [List.set_cons_zero, List.set_cons_succ]
      refine held_take 3 (v := ?_) rfl rfl (by kernel_rfl) (by kernel_rfl) (by kernel_rfl) (fun _ _ _ h => h) (by rfl) ?_ (by assumption) ?_
      rotate_left
      · intro wx hSw; clear hSw; go_simp; try with_reducible rfl
      simp only [List.set_cons_zero, List.set_cons_succ]
      refine held_take 4 (v := ?_) rfl rfl (by kernel_rfl) (by kernel_rfl) (by kernel_rfl) (fun _ _ _ h => h) (by rfl) ?_ (by assumption) ?_
      rotate_left
      · intro wx hSw; clear hSw; go_simp; try with_reducible rfl
      simp only [List.set_cons_zero, List.set_cons_succ]
      refine held_take 7 (v := ?_) rfl rfl (by kernel_rfl) (by kernel_rfl) (by kernel_rfl) (fun _ _ _ h => h) (by rfl) ?_ (by assumption) ?_
      rotate_left
      · intro wx hSw; clear hSw; go_simp; try with_reducible rfl
      simp only [List.set_cons_zero, List.set_cons_succ]
      refine held_take 8 (v := ?_) rfl rfl (by kernel_rfl) (by kernel_rfl) (by kernel_rfl) (fun _ _ _ h => h) (by rfl) ?_ (by assumption) ?_
      rotate_left
      · intro wx hSw; clear hSw; go_simp; try with_reducible rfl
      simp only [List.set_cons_zero, List.set_cons_succ]
      refine held_take 9 (v := ?_) rfl rfl (by kernel_rfl) (by kernel_rfl) (by kernel_rfl) (fun _ _ _ h => h) (by rfl) ?_ (by assumption) ?_
      rotate_left
      · intro wx hSw; clear hSw; go_simp; try with_reducible rfl
      simp only [List.set_cons_zero, List.set_cons_succ]
      refine held_load 10 47 (.tmp 36) w.heap.size 2 GL _ rfl rfl (by kernel_rfl) (by kernel_rfl) (by kernel_rfl) (fun _ _ _ h => h) (by rfl) rfl rfl HRG.out Try.underlying47 rfl HNL.out (by assumption) ?_
      simp only [List.set_cons_zero, List.set_cons_succ]
      refine held_op 5 (v := ?_) (w' := ?_) rfl rfl (by kernel_rfl) (by rfl) ?_ ?_ ?_
      rotate_left 2
      · go_simp; first | done | with_reducible rfl | (refine And.intro ?_ ?_ <;> with_reducible rfl) | (refine And.intro ?_ (And.intro ?_ ?_) <;> with_reducible rfl)
      · rw [HWJ.out]; exact hbJ
      simp only [List.set_cons_zero, List.set_cons_succ]
      have hHeld : Below W1.heap.size W1 WJ := hbJ
      rw [HWJ.out]
      refine held_call 6 (f := ?_) (args := ?_) rfl rfl (by kernel_rfl) (by rfl) ?_ ?_
      rotate_left 2
      · go_simp; first | done | with_reducible rfl | (refine And.intro ?_ ?_ <;> with_reducible rfl) | (refine And.intro ?_ (And.intro ?_ ?_) <;> with_reducible rfl)
      with_reducible refine at_calls #[.slice (some ⟨w.heap.size + 1, 0, none⟩) 2 2] _ ?_
      refine (HJ.out).mono ?_
      rintro e wj ⟨v, rfl, hown, hbj⟩
      obtain ⟨a', g', cap', rfl, _⟩ := own_slice hown
      have hXj : Below W1.heap.size W1 wj := hbJ.trans (hbj.mono hsJ)
      refine ⟨_, rfl, hXj, ?_⟩
      have hHeld := hXj
      simp only [List.set_cons_zero, List.set_cons_succ]
      refine held_call 11 (f := ?_) (args := ?_) rfl rfl (by kernel_rfl) (by rfl) ?_ ?_
      rotate_left 2
      · go_simp; first | done | with_reducible rfl | (refine And.intro ?_ ?_ <;> with_reducible rfl) | (refine And.intro ?_ (And.intro ?_ ?_) <;> with_reducible rfl)
      refine (otp_toKey_nil _ _ _ GL _).mono ?_
      rintro e wk ⟨rfl, hbk⟩
      have hXk : Below W1.heap.size W1 wk := hXj.trans (hbk.mono hXj.size)
      refine ⟨_, rfl, hXk, ?_⟩
      have hHeld := hXk
      simp only [List.set_cons_zero, List.set_cons_succ]
      refine held_take 12 (v := ?_) rfl rfl (by kernel_rfl) (by kernel_rfl) (by kernel_rfl) (fun _ _ _ h => h) (by rfl) ?_ (by assumption) ?_
      rotate_left
      · intro wx hSw; clear hSw; go_simp; try with_reducible rfl
      simp only [List.set_cons_zero, List.set_cons_succ]
      refine held_take 13 (v := ?_) rfl rfl (by kernel_rfl) (by kernel_rfl) (by kernel_rfl) (fun _ _ _ h => h) (by rfl) ?_ (by assumption) ?_
      rotate_left
      · intro wx hSw; clear hSw; go_simp; try with_reducible rfl
      simp only [List.set_cons_zero, List.set_cons_succ]
      refine held_take 14 (v := ?_) rfl rfl (by kernel_rfl) (by kernel_rfl) (by kernel_rfl) (fun _ _ _ h => h) (by rfl) ?_ (by assumption) ?_
      rotate_left
      · intro wx hSw; clear hSw; go_simp; try with_reducible rfl
      simp only [List.set_cons_zero, List.set_cons_succ]
      refine held_take 15 (v := ?_) rfl rfl (by kernel_rfl) (by kernel_rfl) (by kernel_rfl) (fun _ _ _ h => h) (by rfl) ?_ (by assumption) ?_
      rotate_left
      · intro wx hSw; clear hSw; go_simp; try with_reducible rfl
      simp only [List.set_cons_zero, List.set_cons_succ]
      refine wpAnyH_done (by kernel_rfl) ?_ _
      go_wp2_with fail
      go_meet
      exact ⟨rfl, rfl, hXk⟩
    case rest =>
    obtain ⟨rfl, rfl, hb2⟩ := hcut
    go_wp2_with fail
    go_ret2
    exact ⟨rfl, b2.trans (hb2.mono (by omega))⟩
  · go_wp2_with ((with_reducible refine at_load 41 ?_); refine wpList_load_blk _ 2 32 (u8s K) rfl _ _ _ B1.out Try.underlying41 rfl (by kernel_rfl) (by rw [HAL.out]; omega) HKEY.out ?_)
    refine (otp_toRow_nil N (u8s K) W1).mono ?_
    rintro e w2 ⟨rfl, hb2⟩
    go_wp2_with fail
    go_ret2
    exact ⟨rfl, b2.trans (hb2.mono (by omega))⟩
  · go_wp2_with fail
    refine (otp_kill_nil N W1).mono ?_
    rintro e w2 ⟨rfl, hb2⟩
    go_wp2_with fail
    go_ret2
    exact ⟨rfl, b2.trans (hb2.mono (by omega))⟩
end Go.Proofs.Ytoefaghakjcfcaa
