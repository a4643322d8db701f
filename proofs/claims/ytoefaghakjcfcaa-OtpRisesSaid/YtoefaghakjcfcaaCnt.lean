/- Plain facts on bits, on what is planned and on what is programmed. No program in sight but for the definitions. -/
import Derived.Test.YtoefaghakjcfcaaAwake11
namespace Go.Proofs.Ytoefaghakjcfcaa
open Go.Lib (popAux)

/-- How many of the first n hold. -/
def cnt (f : Nat → Bool) : Nat → Nat
  | 0 => 0
  | n + 1 => cnt f n + if f n then 1 else 0
theorem cnt_add (f : Nat → Bool) (a b : Nat) : cnt f (a + b) = cnt f a + cnt (fun i => f (a + i)) b := by
  induction b with
  | zero => rfl
  | succ b ih => rw [← Nat.add_assoc]; simp only [cnt]; rw [ih, Nat.add_assoc]
theorem cnt_congr {f g : Nat → Bool} {n : Nat} (h : ∀ i, i < n → f i = g i) : cnt f n = cnt g n := by
  induction n with
  | zero => rfl
  | succ n ih => simp only [cnt]; rw [ih (fun i hi => h i (by omega)), h n (by omega)]
theorem cnt_le (f : Nat → Bool) (n : Nat) : cnt f n ≤ n := by
  induction n with
  | zero => exact Nat.le_refl _
  | succ n ih => simp only [cnt]; split <;> omega
theorem cnt_mono {f g : Nat → Bool} {n : Nat} (h : ∀ i, i < n → f i = true → g i = true) : cnt f n ≤ cnt g n := by
  induction n with
  | zero => exact Nat.le_refl _
  | succ n ih =>
    simp only [cnt]
    have := ih (fun i hi => h i (by omega))
    have h2 := h n (by omega)
    cases hf : f n <;> cases hg : g n <;> simp_all <;> omega
theorem popAux_cnt (n x : Nat) : popAux n x = cnt (fun i => x.testBit i) n := by
  induction n generalizing x with
  | zero => rfl
  | succ n ih =>
    rw [Nat.add_comm n 1, cnt_add]
    rw [Nat.add_comm 1 n]
    simp only [popAux, cnt, Nat.zero_add]
    rw [ih]
    congr 1
    · have e : x.testBit 0 = decide (x % 2 = 1) := Nat.testBit_zero x
      simp only [e]; rcases Nat.mod_two_eq_zero_or_one x with h | h <;> simp [h]
    · exact cnt_congr (fun i _ => by rw [Nat.add_comm 1 i, Nat.testBit_succ])
theorem pc_cnt (n : Nat) (x : BitVec 32) : pc n x.toNat = cnt (fun i => x.getLsbD i) n := by
  rw [pc_eq, popAux_cnt]; rfl

/-- The words of the counter. -/
def ctr (V : List (BitVec 32)) : List (BitVec 32) := (V.drop 1).take 8
theorem ctr_get (V : List (BitVec 32)) (i : Nat) (h : i < 8) : (ctr V).getD i 0 = V.getD (i + 1) 0 := by
  rw [ctr, List.getD_eq_getElem?_getD, List.getD_eq_getElem?_getD, List.getElem?_take, if_pos h, List.getElem?_drop, Nat.add_comm]
theorem bitAt_ctr (V : List (BitVec 32)) (i : Nat) (h : i < 256) : bitAt (ctr V) i = (V.getD (i / 32 + 1) 0).getLsbD (i % 32) := by
  rw [bitAt, ctr_get _ _ (by omega)]
theorem cntTo_cnt (V : List (BitVec 32)) (k : Nat) (hk : k ≤ 7) : cntTo V k = cnt (bitAt (ctr V)) (32 * k) := by
  induction k with
  | zero => rfl
  | succ k ih =>
    rw [cntTo, if_neg (by omega), ih (by omega), pc_cnt, show 32 * (k + 1) = 32 * k + 32 by omega, cnt_add]
    congr 1
    exact cnt_congr (fun i hi => by rw [bitAt_ctr V _ (by omega), show (32 * k + i) / 32 = k by omega, show (32 * k + i) % 32 = i by omega])
theorem count_cnt (V : List (BitVec 32)) : cntTo V 8 = cnt (bitAt (ctr V)) 255 := by
  rw [cntTo, if_pos rfl, cntTo_cnt V 7 (Nat.le_refl _), pc_cnt, show 255 = 32 * 7 + 31 from rfl, cnt_add]
  congr 1
  exact cnt_congr (fun i hi => by rw [bitAt_ctr V _ (by omega), show (32 * 7 + i) / 32 = 7 by omega, show (32 * 7 + i) % 32 = i by omega])
theorem zeros_cnt (O : List (BitVec 32)) (n : Nat) : zerosTo O n + cnt (bitAt O) n = n := by
  induction n with
  | zero => rw [zerosTo]; rfl
  | succ n ih => rw [zerosTo, cnt]; cases bitAt O n <;> simp <;> omega

theorem bitAt_zero (n i : Nat) : bitAt (List.replicate n 0) i = false := by
  rw [bitAt, List.getD_eq_getElem?_getD, List.getElem?_replicate]; split <;> simp
theorem fillTo_bit (O : List (BitVec 32)) (I i : Nat) (hI : I ≤ 256) (hi : i < 256) : bitAt (fillTo O I) i = (decide (i < I) && !bitAt O i) := by
  induction I with
  | zero => rw [fillTo, bitAt_zero]; simp
  | succ I ih =>
    rw [fillTo]
    cases hb : bitAt O I with
    | true =>
      simp only [if_true]
      rw [ih (by omega)]
      by_cases h : i < I
      · simp [h, show i < I + 1 by omega]
      · by_cases h2 : i = I
        · subst h2; simp [hb]
        · simp [h, show ¬ i < I + 1 by omega]
    | false =>
      simp only [Bool.false_eq_true, if_false]
      have hl := fillTo_length O I
      rw [bitAt, List.getD_eq_getElem?_getD, List.getElem?_set]
      by_cases hw : I / 32 = i / 32
      · rw [if_pos hw, if_pos (by rw [hl]; omega), Option.getD_some, BitVec.getLsbD_or, hw]
        have e : ((fillTo O I).getD (i / 32) 0).getLsbD (i % 32) = bitAt (fillTo O I) i := by rw [bitAt]
        rw [e, ih (by omega), BitVec.getLsbD_twoPow]
        by_cases h2 : i = I
        · subst h2; simp [hb, show i % 32 < 32 by omega]
        · have h3 : ¬ I % 32 = i % 32 := by omega
          by_cases h : i < I
          · simp [h, show i < I + 1 by omega, h3]
          · simp [h, show ¬ i < I + 1 by omega, h3]
      · rw [if_neg hw]
        have e : (((fillTo O I)[i / 32]?).getD 0).getLsbD (i % 32) = bitAt (fillTo O I) i := by rw [bitAt, List.getD_eq_getElem?_getD]
        rw [e, ih (by omega)]
        by_cases h : i < I
        · simp [h, show i < I + 1 by omega]
        · simp [h, show ¬ i < I + 1 by omega]

/-- Words from one on, with more bits. -/
def orTo (V : List (BitVec 32)) (fr : Nat) (l : List (BitVec 32)) : Nat → List (BitVec 32)
  | 0 => V
  | k + 1 => (orTo V fr l k).set (fr + k) (V.getD (fr + k) 0 ||| l.getD k 0)
theorem orTo_length (V : List (BitVec 32)) (fr : Nat) (l : List (BitVec 32)) (k : Nat) : (orTo V fr l k).length = V.length := by
  induction k with
  | zero => rfl
  | succ k ih => rw [orTo, List.length_set, ih]
theorem orTo_get (V : List (BitVec 32)) (fr : Nat) (l : List (BitVec 32)) (k i : Nat) (h : fr + k ≤ V.length) :
    (orTo V fr l k).getD i 0 = if fr ≤ i ∧ i < fr + k then V.getD i 0 ||| l.getD (i - fr) 0 else V.getD i 0 := by
  induction k with
  | zero => rw [orTo, if_neg (by omega)]
  | succ k ih =>
    rw [orTo, List.getD_eq_getElem?_getD, List.getElem?_set, orTo_length]
    by_cases hi : fr + k = i
    · subst hi
      rw [if_pos rfl, if_pos (by omega), if_pos (by omega), Option.getD_some, show fr + k - fr = k by omega]
    · rw [if_neg hi, ← List.getD_eq_getElem?_getD, ih (by omega)]
      by_cases h2 : fr ≤ i ∧ i < fr + k
      · rw [if_pos h2, if_pos (by omega)]
      · rw [if_neg h2, if_neg (by omega)]

theorem doAll_append (a b : List (Nat × BitVec 32)) : ∀ ws, (doAll ws a).2 = 0 → doAll ws (a ++ b) = doAll (doAll ws a).1 b := by
  induction a with
  | nil => intro ws _; rfl
  | cons x a ih =>
    intro ws h
    obtain ⟨n, v⟩ := x
    simp only [List.cons_append, doAll] at h ⊢
    by_cases h2 : (cut1 ws n v (BitVec.allOnes 32)).2 = 0
    · rw [if_pos h2] at h
      rw [if_pos h2, if_pos h2, ih _ h]
    · rw [if_neg h2] at h; exact absurd h h2
theorem vals_getD (ws : List (BitVec 32 × Bool)) (i : Nat) : (ws.getD i (0, false)).1 = (vals ws).getD i 0 := by
  rw [List.getD_eq_getElem?_getD, List.getD_eq_getElem?_getD, vals, List.getElem?_map]
  cases ws[i]? <;> rfl
/-- A word is programmed to what has all that it had. -/
theorem cut1_sup (ws : List (BitVec 32 × Bool)) (n : Nat) (v g : BitVec 32) (hn : n < ws.length) (h : (vals ws).getD n 0 &&& ~~~v = 0) :
    (cut1 ws n v g).2 = 0 ∧ vals (cut1 ws n v g).1 = (vals ws).set n ((vals ws).getD n 0 ||| (v &&& g)) := by
  rw [cut1, if_neg (by omega)]
  simp only [Int.toNat_natCast]
  rw [vals_getD, if_neg (by rw [h]; simp)]
  exact ⟨rfl, vals_set _ _ _ _⟩
theorem or_sub (x y : BitVec 32) : x &&& ~~~(x ||| y) = 0 := by
  apply BitVec.eq_of_getLsbD_eq
  intro i hi
  simp only [BitVec.getLsbD_and, BitVec.getLsbD_not, BitVec.getLsbD_or, hi, decide_true, Bool.true_and]
  cases x.getLsbD i <;> cases y.getLsbD i <;> simp
theorem or_or_self (x y : BitVec 32) : x ||| ((x ||| y) &&& BitVec.allOnes 32) = x ||| y := by
  rw [BitVec.and_allOnes]
  apply BitVec.eq_of_getLsbD_eq
  intro i hi
  simp only [BitVec.getLsbD_or]
  cases x.getLsbD i <;> cases y.getLsbD i <;> rfl

theorem do_plan (ws : List (BitVec 32 × Bool)) (fr : Nat) (l : List (BitVec 32)) (k : Nat) (h : fr + k ≤ ws.length) :
    (doAll ws (planTo (vals ws) fr l k)).2 = 0 ∧ vals (doAll ws (planTo (vals ws) fr l k)).1 = orTo (vals ws) fr l k := by
  induction k with
  | zero => rw [planTo]; exact ⟨rfl, rfl⟩
  | succ k ih =>
    obtain ⟨i1, i2⟩ := ih (by omega)
    have hlen : (doAll ws (planTo (vals ws) fr l k)).1.length = ws.length := doAll_length _ _
    rw [planTo]
    rw [doAll_append _ _ _ i1]
    have hg : (vals (doAll ws (planTo (vals ws) fr l k)).1).getD (fr + k) 0 = (vals ws).getD (fr + k) 0 := by
      rw [i2, orTo_get _ _ _ _ _ (by rw [vals_length]; omega), if_neg (by omega)]
    by_cases hc : (vals ws).getD (fr + k) 0 ||| l.getD k 0 = (vals ws).getD (fr + k) 0
    · rw [if_pos hc]
      refine ⟨rfl, ?_⟩
      show vals (doAll ws (planTo (vals ws) fr l k)).1 = _
      rw [orTo, hc, i2]
      symm
      apply List.ext_getElem?
      intro i
      rw [List.getElem?_set]
      split
      · rename_i e; subst e
        rw [orTo_length, vals_length, if_pos (by omega)]
        have := orTo_get (vals ws) fr l k (fr + k) (by rw [vals_length]; omega)
        rw [if_neg (by omega)] at this
        exact (getD_some this (by rw [orTo_length, vals_length]; omega)).symm
      · rfl
    · rw [if_neg hc]
      obtain ⟨c1, c2⟩ := cut1_sup (doAll ws (planTo (vals ws) fr l k)).1 (fr + k) ((vals ws).getD (fr + k) 0 ||| l.getD k 0) (BitVec.allOnes 32) (by omega) (by rw [hg]; exact or_sub _ _)
      simp only [doAll]
      rw [if_pos c1]
      refine ⟨rfl, ?_⟩
      rw [c2, hg, or_or_self, i2, orTo]

end Go.Proofs.Ytoefaghakjcfcaa
