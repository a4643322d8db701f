/- The walk of curtilagelaw11.OtpCounts. -/
import Derived.Test.YtoefaghakjcfcaaCnt
import Derived.Test.YtoefaghakjcfcaaOtp5
namespace Go.Proofs.Ytoefaghakjcfcaa
open Go.RowKit

/-- What holds of a chip whose counter was raised from nought. -/
structure Raised (ws : List (BitVec 32 × Bool)) (c : Nat) : Prop where
  len : ws.length = 64
  count : countOf ws = c
  last : bitAt (ctr (vals ws)) 255 = false

theorem raised0 : Raised ws0 0 := ⟨by rfl, ws0_count, by decide +kernel⟩
theorem Raised.zeros {ws : List (BitVec 32 × Bool)} {c : Nat} (h : Raised ws c) : zerosTo (ctr (vals ws)) 255 + c = 255 := by
  have := zeros_cnt (ctr (vals ws)) 255
  rw [← count_cnt] at this
  rw [← h.count]; exact this
theorem or_bit (V : List (BitVec 32)) (hV : V.length = 64) (O : List (BitVec 32)) (hO : O = ctr V) (I : Nat) (hI : I ≤ 255) (i : Nat) (hi : i < 256) :
    bitAt (ctr (orTo V 1 (fillTo O I) 8)) i = (bitAt O i || decide (i < I)) := by
  rw [bitAt_ctr _ _ hi, orTo_get _ _ _ _ _ (by omega), if_pos (by omega), BitVec.getLsbD_or, Nat.add_sub_cancel]
  have e1 : (V.getD (i / 32 + 1) 0).getLsbD (i % 32) = bitAt O i := by rw [hO, bitAt_ctr _ _ hi]
  have e2 : ((fillTo O I).getD (i / 32) 0).getLsbD (i % 32) = bitAt (fillTo O I) i := by rw [bitAt]
  rw [e1, e2, fillTo_bit _ _ _ (by omega) hi]
  cases bitAt O i <;> simp
theorem cnt_or (f : Nat → Bool) (I n : Nat) (h : I ≤ n) : cnt (fun i => f i || decide (i < I)) n + cnt f I = cnt f n + I := by
  induction n with
  | zero => have : I = 0 := by omega
            subst this; rfl
  | succ n ih =>
    by_cases hn : I = n + 1
    · subst hn
      have e : cnt (fun i => f i || decide (i < n + 1)) (n + 1) = n + 1 := by
        have : ∀ m, m ≤ n + 1 → cnt (fun i => f i || decide (i < n + 1)) m = m := by
          intro m hm
          induction m with
          | zero => rfl
          | succ m ihm => rw [cnt, ihm (by omega)]; simp [show m < n + 1 by omega]
        exact this _ (Nat.le_refl _)
      rw [e]; omega
    · have := ih (by omega)
      simp only [cnt, show ¬ n < I by omega, decide_false, Bool.or_false]
      omega
theorem Raised.next {ws : List (BitVec 32 × Bool)} {c n I : Nat} (h : Raised ws c) (hn : c ≤ n) (hI : I ≤ 255) (hz : zerosTo (ctr (vals ws)) I = n - c) :
    Raised (doAll ws (planTo (vals ws) 1 (fillTo (ctr (vals ws)) I) 8)).1 n := by
  obtain ⟨_, hv⟩ := do_plan ws 1 (fillTo (ctr (vals ws)) I) 8 (by rw [h.len]; omega)
  have hvl : (vals ws).length = 64 := by rw [vals_length]; exact h.len
  refine ⟨by rw [doAll_length]; exact h.len, ?_, ?_⟩
  · rw [countOf, hv, count_cnt]
    have e := cnt_congr (n := 255) (fun i hi => or_bit (vals ws) hvl (ctr (vals ws)) rfl I hI i (by omega))
    rw [e]
    have e2 := cnt_or (bitAt (ctr (vals ws))) I 255 hI
    have e3 := zeros_cnt (ctr (vals ws)) I
    have e4 : cnt (bitAt (ctr (vals ws))) 255 = c := by rw [← count_cnt]; exact h.count
    omega
  · rw [hv, or_bit (vals ws) hvl _ rfl I hI 255 (by omega), h.last]
    simp; omega
/-- All the bits of the counter's words are as many. -/
theorem Raised.bits {ws : List (BitVec 32 × Bool)} {c : Nat} (h : Raised ws c) : cnt (bitAt (ctr (vals ws))) 256 = c := by
  rw [cnt, h.last, ← count_cnt]; exact h.count

end Go.Proofs.Ytoefaghakjcfcaa
