/- The walk of curtilagelaw11.first. -/
import Derived.Test.YtoefaghakjcfcaaLawReach
import Derived.Test.YtoefaghakjcfcaaWalkRows
namespace Go.Proofs.Ytoefaghakjcfcaa
open Go.RowKit

def gapTo (f : Nat → Bool) : Nat → Bool
  | 0 => false
  | j + 1 => gapTo f j || !f j
theorem gapTo_some (f : Nat → Bool) (j : Nat) (h : gapTo f j = true) : ∃ i, i < j ∧ f i = false := by
  induction j with
  | zero => cases h
  | succ j ih =>
    rw [gapTo, Bool.or_eq_true] at h
    rcases h with h | h
    · obtain ⟨i, h1, h2⟩ := ih h; exact ⟨i, by omega, h2⟩
    · exact ⟨j, by omega, by simpa using h⟩

set_option maxRecDepth 100000 in
set_option maxHeartbeats 4000000 in
theorem first11 (b o cap b' o' cap' : Nat) (V V' : List (BitVec 32)) (w : World) (hV : V.length = 64) (hV' : V'.length = 64) (hu : U32At w b o V) (hu' : U32At w b' o' V') (hb : b < w.heap.size) (hb' : b' < w.heap.size) (hF : First V V') :
    Calls Try.prog 31 #[.slice (some ⟨b, o, none⟩) 64 cap, .slice (some ⟨b', o', none⟩) 64 cap'] w fun e w' => e = .returned (.bool true) ∧ Below w.heap.size w w' := by
  obtain ⟨hF, hL⟩ := hF
  obtain ⟨f, hf⟩ : ∃ f : Nat → Bool, bitAt (ctr V) = f := ⟨_, rfl⟩
  obtain ⟨f', hf'⟩ : ∃ f : Nat → Bool, bitAt (ctr V') = f := ⟨_, rfl⟩
  have h255 : (V.getD 8 0).getLsbD 31 = (V'.getD 8 0).getLsbD 31 := by
    have e1 := bitAt_ctr V 255 (by omega)
    have e2 := bitAt_ctr V' 255 (by omega)
    rw [e1, e2] at hL
    exact hL
  rw [hf, hf'] at hF
  have HF := Lib.hid hf; have HF' := Lib.hid hf'; have HV := Lib.hid hV; have HV' := Lib.hid hV'; have HU := Lib.hid hu; have HU' := Lib.hid hu'; have HFF := Lib.hid hF; have H255 := Lib.hid h255
  clear hf hf' hV hV' hu hu' hF hL h255
  go_enter Try.func31, Try.ntmps31
  go_wp2_with fail
  go_loopw [5, 9] (fun g k wr => ∃ j : Nat, j ≤ 255 ∧ k = .int .i64 j ∧ g = .bool (gapTo f' j) ∧ Below w.heap.size w wr) (fun _ k _ => 255 - (intOf k).toNat)
  case atStart => exact ⟨0, by omega, rfl, rfl, Below.refl _ _⟩
  case round =>
    obtain ⟨j, hj, rfl, rfl, hB⟩ := hrel
    by_cases hlt : j < 255
    · obtain ⟨x, hx⟩ : ∃ x, V.getD (1 + j / 32) 0 = x := ⟨_, rfl⟩
      have hx2 := getD_some hx (by rw [HV.out]; omega)
      have hux := (HU.out.below hB hb).at hx2
      have hsh := u32_shr_bv x (j % 32) (by omega)
      have hbt := bit_rem x (j % 32)
      have hfb : f j = x.getLsbD (j % 32) := by rw [← HF.out, bitAt_ctr _ _ (by omega), ← hx, Nat.add_comm]
      rw [← hfb] at hbt
      obtain ⟨y, hy⟩ : ∃ y, V'.getD (1 + j / 32) 0 = y := ⟨_, rfl⟩
      have hy2 := getD_some hy (by rw [HV'.out]; omega)
      have huy := (HU'.out.below hB hb').at hy2
      have hshy := u32_shr_bv y (j % 32) (by omega)
      have hbty := bit_rem y (j % 32)
      have hfby : f' j = y.getLsbD (j % 32) := by rw [← HF'.out, bitAt_ctr _ _ (by omega), ← hy, Nat.add_comm]
      rw [← hfby] at hbty
      have hsame : gapTo f' j = true → f j = f' j := fun h => HFF.out j hlt (gapTo_some _ _ h)
      have hnext : gapTo f' (j + 1) = (gapTo f' j || !f' j) := by rw [gapTo]
      have HN := Lib.hid hnext
      clear hx hx2 hfb hy hy2 hfby hnext
      generalize hG : gapTo f' j = G at *
      generalize hfj : f j = F at *
      generalize hfj' : f' j = F' at *
      have hq : (j : Int).tdiv 32 = ((j / 32 : Nat) : Int) := by rw [Int.tdiv_eq_ediv_of_nonneg (by omega)]; omega
      have hq2 : (j : Int).tmod 32 = ((j % 32 : Nat) : Int) := by rw [Int.tmod_eq_emod_of_nonneg (by omega)]; omega
      have hj7 : j / 32 ≤ 7 := by omega
      have hm31 : j % 32 ≤ 31 := by omega
      clear hG hfj hfj'
      generalize j / 32 = jd at *
      generalize j % 32 = jm at *
      go_upto_region 5 with fail
      go_quiet (fail)
      cases G with
      | false =>
        cases F <;> cases F' <;>
          (go_wp2_with fail
           go_roundw
           case rel => exact ⟨j + 1, by omega, by go_num, by rw [HN.out]; rfl, below_drewN hB _⟩
           case measure => simp [intOf]; omega)
      | true =>
        obtain rfl := hsame rfl
        cases F <;>
          (go_wp2_with fail
           go_roundw
           case rel => exact ⟨j + 1, by omega, by go_num, by rw [HN.out]; rfl, below_drewN hB _⟩
           case measure => simp [intOf]; omega)
    · have h8 : j = 255 := by omega
      subst h8
      obtain ⟨x, hx⟩ : ∃ x, V.getD 8 0 = x := ⟨_, rfl⟩
      have hx2 := getD_some hx (by rw [HV.out]; omega)
      have hux := (HU.out.below hB hb).at hx2
      obtain ⟨y, hy⟩ : ∃ y, V'.getD 8 0 = y := ⟨_, rfl⟩
      have hy2 := getD_some hy (by rw [HV'.out]; omega)
      have huy := (HU'.out.below hB hb').at hy2
      have h255 := H255.out
      rw [hx, hy] at h255
      have hsx : x >>> 31 = y >>> 31 := by
        apply BitVec.eq_of_getLsbD_eq
        intro i hi
        rw [BitVec.getLsbD_ushiftRight, BitVec.getLsbD_ushiftRight]
        by_cases h0 : i = 0
        · subst h0; exact h255
        · rw [BitVec.getLsbD_of_ge _ _ (by omega), BitVec.getLsbD_of_ge _ _ (by omega)]
      have hshx := u32_shr_bv x 31 (by omega)
      have hshy := u32_shr_bv y 31 (by omega)
      have HSX := Lib.hid hsx
      clear h255 hsx hx hx2 hy hy2
      go_upto_region 10 with fail
      go_quiet (fail)
      go_wp2_with fail
      go_ret
      refine ⟨?_, below_drewN hB _⟩
      show Ending.returned (.bool (x >>> 31 == y >>> 31)) = _
      rw [HSX.out]; simp
end Go.Proofs.Ytoefaghakjcfcaa
