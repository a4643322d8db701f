/- What acts of otp leave, wholly done. -/
import Derived.Test.YtoefaghakjcfcaaLawPlan
namespace Go.Proofs.Ytoefaghakjcfcaa

/-- The bits that the counter has more are the first ones that it hadn't. -/
def First (V V' : List (BitVec 32)) : Prop :=
  (∀ i, i < 255 → (∃ j, j < i ∧ bitAt (ctr V') j = false) → bitAt (ctr V) i = bitAt (ctr V') i) ∧ bitAt (ctr V) 255 = bitAt (ctr V') 255

theorem onB_or (x m : BitVec 32) (i : Nat) (h : ∀ t, t < 8 → m.getLsbD (8 * i + t) = false) : onB (x ||| m).toNat i = onB x.toNat i := by
  rw [onB_cnt, onB_cnt, cnt_congr (g := fun t => x.getLsbD (8 * i + t)) (fun t ht => by rw [BitVec.getLsbD_or, h t ht, Bool.or_false])]
theorem onB_full (x m : BitVec 32) (i : Nat) (h : ∀ t, t < 8 → m.getLsbD (8 * i + t) = true) : onB (x ||| m).toNat i = true := by
  rw [onB_cnt, cnt_congr (g := fun _ => true) (fun t ht => by rw [BitVec.getLsbD_or, h t ht, Bool.or_true])]
  decide
theorem lifeTo_under (x k n : Nat) (h : lifeTo x k < n) : ∀ i, n ≤ i + 1 → i < k → onB x i = false := by
  induction k with
  | zero => intro i _ hi; omega
  | succ k ih =>
    intro i h1 h2
    rw [lifeTo] at h
    by_cases hk : onB x k = true
    · rw [if_pos hk] at h; omega
    · rw [if_neg hk] at h
      by_cases e : i = k
      · subst e; simpa using hk
      · exact ih h i h1 (by omega)
theorem lifeTo_is (x k n : Nat) (h1 : 1 ≤ n) (h2 : n ≤ k) (h3 : onB x (n - 1) = true) (h4 : ∀ i, n ≤ i → i < k → onB x i = false) : lifeTo x k = n := by
  induction k with
  | zero => omega
  | succ k ih =>
    rw [lifeTo]
    by_cases e : n = k + 1
    · subst e; rw [show k + 1 - 1 = k from rfl] at h3; rw [if_pos h3]
    · rw [h4 k (by omega) (by omega), if_neg (by decide)]
      exact ih (by omega) (fun i hi hk => h4 i hi (by omega))
theorem lifeMask_bit (k : Nat) (h1 : 1 ≤ k) (h4 : k ≤ 4) : (∀ t, t < 8 → (lifeMask k).getLsbD (8 * (k - 1) + t) = true) ∧ ∀ i, i < 4 → i ≠ k - 1 → ∀ t, t < 8 → (lifeMask k).getLsbD (8 * i + t) = false := by
  have : k = 1 ∨ k = 2 ∨ k = 3 ∨ k = 4 := by omega
  rcases this with rfl | rfl | rfl | rfl <;> decide +kernel
theorem life_done (ws : List (BitVec 32 × Bool)) (k : Nat) (hl : ws.length = 64) (h1 : 1 ≤ k) (h4 : k ≤ 4) (h : lifeOf ws < k) : lifeOf (doAll ws (planTo (vals ws) 0 [lifeMask k] 1)).1 = k := by
  obtain ⟨_, hv⟩ := do_plan ws 0 [lifeMask k] 1 (by omega)
  obtain ⟨m1, m2⟩ := lifeMask_bit k h1 h4
  have hg := orTo_get (vals ws) 0 [lifeMask k] 1 0 (by rw [vals_length]; omega)
  rw [if_pos (by omega)] at hg
  rw [lifeOf, hv, hg]
  show lifeTo ((vals ws).getD 0 0 ||| lifeMask k).toNat 4 = k
  refine lifeTo_is _ _ _ h1 h4 (onB_full _ _ _ m1) fun i hi hi4 => ?_
  rw [onB_or _ _ _ (m2 i hi4 (by omega))]
  exact lifeTo_under _ 4 k h i (by omega) hi4

theorem zerosTo_none (O : List (BitVec 32)) (I : Nat) (h : zerosTo O I = 0) : ∀ i, i < I → bitAt O i = true := by
  induction I with
  | zero => intro i hi; omega
  | succ I ih =>
    intro i hi
    rw [zerosTo] at h
    by_cases e : i = I
    · subst e
      cases hb : bitAt O i
      · rw [hb] at h; simp at h
      · rfl
    · exact ih (by omega) i (by omega)
theorem counts_again (ws : List (BitVec 32 × Bool)) (n : Int) (p : List (Nat × BitVec 32) × Nat) (h : Counts ws n p) (hc : (countOf ws : Int) = n) : p.1 = [] := by
  rcases h with ⟨_, rfl⟩ | ⟨_, _, _, rfl⟩ | ⟨k, I, e, h1, h2, hI, hz, rfl⟩
  · rfl
  · rfl
  · have hz0 := zerosTo_none _ _ (hz.trans (by omega : k - countOf ws = 0))
    refine planTo_nil _ _ _ _ fun j hj => ?_
    have : (fillTo (ctr (vals ws)) I).getD j 0 = 0 := by
      apply BitVec.eq_of_getLsbD_eq
      intro b hb
      have hf := fillTo_bit (ctr (vals ws)) I (32 * j + b) (by omega) (by omega)
      rw [bitAt, show (32 * j + b) / 32 = j by omega, show (32 * j + b) % 32 = b by omega] at hf
      rw [hf]
      by_cases hlt : 32 * j + b < I
      · rw [hz0 _ hlt]; simp
      · simp [hlt]
    rw [this]; exact BitVec.or_zero
theorem counts_first (ws : List (BitVec 32 × Bool)) (I : Nat) (hl : ws.length = 64) (hI : I ≤ 255) : First (vals ws) (vals (doAll ws (planTo (vals ws) 1 (fillTo (ctr (vals ws)) I) 8)).1) := by
  obtain ⟨_, hv⟩ := do_plan ws 1 (fillTo (ctr (vals ws)) I) 8 (by omega)
  have hvl : (vals ws).length = 64 := by rw [vals_length]; exact hl
  have hb := or_bit (vals ws) hvl (ctr (vals ws)) rfl I hI
  rw [hv]
  refine ⟨fun i hi ⟨j, hj, h0⟩ => ?_, ?_⟩
  · rw [hb j (by omega)] at h0
    rw [hb i (by omega)]
    have : ¬ j < I := by intro h; simp [h] at h0
    simp [show ¬ i < I by omega]
  · rw [hb 255 (by omega)]; simp [show ¬ 255 < I by omega]
theorem sub_or (x y : BitVec 32) (h : x &&& ~~~y = 0) : x ||| y = y := by
  apply BitVec.eq_of_getLsbD_eq
  intro i hi
  have := congrArg (fun z => z.getLsbD i) h
  simp only [BitVec.getLsbD_and, BitVec.getLsbD_not, hi, decide_true, Bool.true_and, BitVec.getLsbD_zero] at this
  rw [BitVec.getLsbD_or]
  cases hx : x.getLsbD i <;> cases hy : y.getLsbD i <;> simp_all
theorem list_of_getD (V W : List (BitVec 32)) (a n : Nat) (hV : a + n ≤ V.length) (hW : W.length = n) (h : ∀ j, j < n → V.getD (a + j) 0 = W.getD j 0) : (V.drop a).take n = W := by
  apply List.ext_getElem?
  intro j
  by_cases hj : j < n
  · have := h j hj
    rw [List.getD_eq_getElem?_getD, List.getD_eq_getElem?_getD] at this
    rw [List.getElem?_take, if_pos hj, List.getElem?_drop]
    rw [List.getElem?_eq_getElem (by omega), List.getElem?_eq_getElem (by omega)] at this ⊢
    exact congrArg some this
  · rw [List.getElem?_take, if_neg hj, List.getElem?_eq_none (by omega)]
/-- The key and the number that were programmed. -/
theorem key_done (ws : List (BitVec 32 × Bool)) (P N : List (BitVec 8)) (hl : ws.length = 64) (hP : P.length = 56) (hN : N.length = 16)
    (hk : ∀ j, j < 18 → (vals ws).getD (9 + j) 0 &&& ~~~((wordsOf P ++ wordsOf N).getD j 0) = 0) :
    keyOf (doAll ws (planTo (vals ws) 9 (wordsOf P ++ wordsOf N) 18)).1 = P ∧ idOf (doAll ws (planTo (vals ws) 9 (wordsOf P ++ wordsOf N) 18)).1 = N ∧
    ∀ j, j < 18 → (vals (doAll ws (planTo (vals ws) 9 (wordsOf P ++ wordsOf N) 18)).1).getD (9 + j) 0 = (wordsOf P ++ wordsOf N).getD j 0 := by
  obtain ⟨_, hv⟩ := do_plan ws 9 (wordsOf P ++ wordsOf N) 18 (by omega)
  have hP14 : (wordsOf P).length = 14 := by rw [wordsOf_length, hP]
  have hN4 : (wordsOf N).length = 4 := by rw [wordsOf_length, hN]
  have hvl : (orTo (vals ws) 9 (wordsOf P ++ wordsOf N) 18).length = 64 := by rw [orTo_length, vals_length]; exact hl
  have hg : ∀ j, j < 18 → (orTo (vals ws) 9 (wordsOf P ++ wordsOf N) 18).getD (9 + j) 0 = (wordsOf P ++ wordsOf N).getD j 0 := fun j hj => by
    rw [orTo_get _ _ _ _ _ (by rw [vals_length]; omega), if_pos (by omega), show 9 + j - 9 = j by omega]
    exact sub_or _ _ (hk j hj)
  rw [keyOf, idOf, hv]
  refine ⟨?_, ?_, hg⟩
  · rw [list_of_getD _ (wordsOf P) 9 14 (by omega) hP14 (fun j hj => ?_), wordsOf_back 14 P (by omega)]
    rw [hg j (by omega), List.getD_eq_getElem?_getD, List.getElem?_append_left (by omega), List.getD_eq_getElem?_getD]
  · rw [list_of_getD _ (wordsOf N) 23 4 (by omega) hN4 (fun j hj => ?_), wordsOf_back 4 N (by omega)]
    have := hg (14 + j) (by omega)
    rw [show 9 + (14 + j) = 23 + j by omega] at this
    rw [this, List.getD_eq_getElem?_getD, List.getElem?_append_right (by omega), hP14, show 14 + j - 14 = j by omega, List.getD_eq_getElem?_getD]
theorem kill_done (ws : List (BitVec 32 × Bool)) (k : Nat) (hl : ws.length = 64) (hk : k < 4) :
    (rowOf (doAll ws (planTo (vals ws) (35 + 9 * k) [0xff00] 1)).1 false k).2 = 17 ∧ killOf (doAll ws (planTo (vals ws) (35 + 9 * k) [0xff00] 1)).1 k = ([], 0) := by
  obtain ⟨_, hv⟩ := do_plan ws (35 + 9 * k) [0xff00] 1 (by omega)
  have hg := orTo_get (vals ws) (35 + 9 * k) [0xff00] 1 (35 + 9 * k) (by rw [vals_length]; omega)
  rw [if_pos (by omega), show 35 + 9 * k - (35 + 9 * k) = 0 by omega] at hg
  refine ⟨?_, ?_⟩
  · rw [← rowOf_offs', row_by _ k hk, hv, hg]
    have := onB_full ((vals ws).getD (35 + 9 * k) 0) 0xff00 1 (by decide +kernel)
    rw [show ([0xff00] : List (BitVec 32)).getD 0 0 = 0xff00 from rfl, this]
    rfl
  · rw [killOf, if_neg (by omega), show ((k : Int)).toNat = k from rfl, hv]
    rw [planTo_nil]
    intro j hj
    obtain rfl : j = 0 := by omega
    rw [Nat.add_zero, hg]
    show ((vals ws).getD (35 + 9 * k) 0 ||| 0xff00) ||| 0xff00 = _
    rw [BitVec.or_assoc, BitVec.or_self]; rfl

/-- Where an act programs, from and to. -/
def areaOf (A : Act11) : Int × Int :=
  match A.op.toNat % 5 with
  | 0 => (0, 1) | 1 => (1, 9) | 2 => (9, 27) | 3 => (27 + 9 * A.n, 36 + 9 * A.n) | _ => (35 + 9 * A.n, 36 + 9 * A.n)
/-- What is as it should be behind an act. -/
def Reached (ws ws' : List (BitVec 32 × Bool)) (A : Act11) : Prop :=
  match A.op.toNat % 5 with
  | 0 => (lifeOf ws' : Int) = A.n
  | 1 => (countOf ws' : Int) = A.n ∧ First (vals ws) (vals ws')
  | 2 => keyOf ws' = A.key ++ A.key.take 24 ∧ idOf ws' = A.key.take 16
  | 3 => 0 ≤ A.n ∧ A.n < 4 ∧ rowOf ws' false A.n = (A.key, 0)
  | _ => 0 ≤ A.n ∧ A.n < 4 ∧ (rowOf ws' false A.n).2 = 17
theorem lifeOf_same (ws ws' : List (BitVec 32 × Bool)) (h : (vals ws').getD 0 0 = (vals ws).getD 0 0) : lifeOf ws' = lifeOf ws := by rw [lifeOf, lifeOf, h]
/-- THE LAW OF REACHING. -/
theorem reaches (ws : List (BitVec 32 × Bool)) (A : Act11) (p : List (Nat × BitVec 32) × Nat) (hl : ws.length = 64) (hA : A.Ok) (h : Planned ws A p) (h2 : p.2 = 0) :
    Reached ws (doAll ws p.1).1 A ∧ (∀ i : Nat, (i : Int) < (areaOf A).1 ∨ (areaOf A).2 ≤ i → (vals (doAll ws p.1).1).getD i 0 = (vals ws).getD i 0) ∧
    (A.op.toNat % 5 ≠ 0 → A.op.toNat % 5 ≠ 3 → ∀ p', Planned (doAll ws p.1).1 A p' → p'.1 = []) := by
  have hr := (doAll_rise p.1 ws (planned_facts ws A p hl h).1).2
  have hl' : (doAll ws p.1).1.length = 64 := by rw [doAll_length]; exact hl
  have hK := hA.key
  have hP : (A.key ++ A.key.take 24).length = 56 := by rw [List.length_append, List.length_take, hK]; rfl
  have hN : (A.key.take 16).length = 16 := by rw [List.length_take, hK]; rfl
  unfold Reached areaOf
  rcases h with ⟨h0, rfl⟩ | ⟨h0, h⟩ | ⟨h0, rfl⟩ | ⟨h0, rfl⟩ | ⟨h0, rfl⟩
  · rw [h0]
    rcases toLife_cases ws A.n with h | ⟨k, e, h1, h4, hlt, ep⟩
    · exact absurd h2 h.1
    · rw [ep] at hr ⊢
      refine ⟨by show (lifeOf _ : Int) = A.n; rw [life_done ws k hl h1 h4 hlt, e], fun i hi => hr i fun x hx => ?_, fun h => absurd rfl h⟩
      have := planTo_mem _ _ _ _ x hx
      simp only at hi; omega
  · rw [h0]
    rcases h with ⟨_, rfl⟩ | ⟨_, _, _, rfl⟩ | ⟨k, I, e, h1, hk, hI, hz, rfl⟩
    · exact absurd h2 (by simp)
    · exact absurd h2 (by simp)
    · have hc := counts_done ws k I hl h1 hI hz
      refine ⟨⟨by rw [hc, e], counts_first ws I hl hI⟩, fun i hi => hr i fun x hx => ?_, fun _ _ p' hp' => ?_⟩
      · have := planTo_mem _ _ _ _ x hx
        simp only at hi; omega
      · rcases hp' with ⟨h3, _⟩ | ⟨_, h3⟩ | ⟨h3, _⟩ | ⟨h3, _⟩ | ⟨h3, _⟩
        · omega
        · exact counts_again _ _ _ h3 (by rw [hc, e])
        · omega
        · omega
        · omega
  · rw [h0]
    rcases toKey_cases ws (A.key ++ A.key.take 24) (A.key.take 16) with h | ⟨_, hlf, hk, ep⟩
    · exact absurd h2 h.1
    · rw [ep] at hr hl' ⊢
      obtain ⟨k1, k2, k3⟩ := key_done ws _ _ hl hP hN hk
      refine ⟨⟨k1, k2⟩, fun i hi => hr i fun x hx => ?_, fun _ _ p' hp' => ?_⟩
      · have := planTo_mem _ _ _ _ x hx
        simp only at hi; omega
      · rcases hp' with ⟨h3, _⟩ | ⟨h3, _⟩ | ⟨_, rfl⟩ | ⟨h3, _⟩ | ⟨h3, _⟩
        · omega
        · omega
        · rcases toKey_cases (doAll ws (planTo (vals ws) 9 (wordsOf (A.key ++ A.key.take 24) ++ wordsOf (A.key.take 16)) 18)).1 (A.key ++ A.key.take 24) (A.key.take 16) with h | ⟨_, _, _, ep'⟩
          · exact h.2
          · rw [ep']
            refine planTo_nil _ _ _ _ fun j hj => ?_
            rw [k3 j hj, BitVec.or_self]
        · omega
        · omega
  · rw [h0]
    rcases toRow_cases ws A.n A.key with h | ⟨k, e, hk, he, ep⟩
    · exact absurd h2 h.1
    · obtain ⟨_, _, r3, _⟩ := row_done ws k A.key hk hl he
      rw [ep] at hr hl' ⊢
      rw [e]
      refine ⟨⟨by omega, by omega, row_tells _ k A.key hk hl' hK r3⟩, fun i hi => hr i fun x hx => ?_, fun _ h => absurd rfl h⟩
      have := rowAll_mem _ _ x hx
      simp only at hi; omega
  · rw [h0]
    rcases kill_cases ws A.n with h | ⟨k, e, hk, ep⟩
    · exact absurd h2 h.1
    · rw [ep] at hr hl' ⊢
      rw [e]
      obtain ⟨k1, k2⟩ := kill_done ws k hl hk
      refine ⟨⟨by omega, by omega, k1⟩, fun i hi => hr i fun x hx => ?_, fun _ _ p' hp' => ?_⟩
      · have := planTo_mem _ _ _ _ x hx
        simp only at hi; omega
      · rcases hp' with ⟨h3, _⟩ | ⟨h3, _⟩ | ⟨h3, _⟩ | ⟨h3, _⟩ | ⟨_, rfl⟩
        · omega
        · omega
        · omega
        · omega
        · rw [e, k2]
end Go.Proofs.Ytoefaghakjcfcaa
