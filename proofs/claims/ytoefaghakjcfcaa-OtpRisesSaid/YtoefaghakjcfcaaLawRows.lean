/- Rows: what programming and killing them leaves. -/
import Derived.Test.YtoefaghakjcfcaaPlan11
import Derived.Test.YtoefaghakjcfcaaEqArr
namespace Go.Proofs.Ytoefaghakjcfcaa

def RowIs (V : List (BitVec 32)) (i : Nat) (K : List (BitVec 8)) : Prop := V.getD (35 + 9 * i) 0 = 0xff00ff ∧ ∀ j, j < 8 → V.getD (27 + 9 * i + j) 0 = (wordsOf K).getD j 0
def RowEmpty (V : List (BitVec 32)) (i : Nat) : Prop := ∀ j, j < 9 → V.getD (27 + 9 * i + j) 0 = 0
def RowSame (V V' : List (BitVec 32)) (i : Nat) : Prop := ∀ j, j < 9 → V'.getD (27 + 9 * i + j) 0 = V.getD (27 + 9 * i + j) 0
theorem RowIs.same {V V' : List (BitVec 32)} {i : Nat} {K : List (BitVec 8)} (h : RowIs V i K) (s : RowSame V V' i) : RowIs V' i K :=
  ⟨by have := s 8 (by omega); rw [show 27 + 9 * i + 8 = 35 + 9 * i by omega] at this; rw [this]; exact h.1, fun j hj => (s j (by omega)).trans (h.2 j hj)⟩
theorem RowEmpty.same {V V' : List (BitVec 32)} {i : Nat} (h : RowEmpty V i) (s : RowSame V V' i) : RowEmpty V' i := fun j hj => (s j hj).trans (h j hj)

theorem getD_set (V : List (BitVec 32)) (n i : Nat) (x : BitVec 32) (h : n < V.length) : (V.set n x).getD i 0 = if i = n then x else V.getD i 0 := by
  rw [List.getD_eq_getElem?_getD, List.getElem?_set]
  by_cases hi : n = i
  · subst hi; rw [if_pos rfl, if_pos h, if_pos rfl]; rfl
  · rw [if_neg hi, if_neg (fun e => hi e.symm), List.getD_eq_getElem?_getD]

theorem rowTo_next (fr : Nat) (W : List (BitVec 32)) (k : Nat) : rowTo fr W (k + 1) = rowTo fr W k ++ [(fr + k, W.getD k 0)] := by rw [rowTo]
theorem do_one (ws : List (BitVec 32 × Bool)) (n : Nat) (v : BitVec 32) (hn : n < ws.length) (h : (vals ws).getD n 0 &&& ~~~v = 0) :
    (doAll ws [(n, v)]).2 = 0 ∧ vals (doAll ws [(n, v)]).1 = (vals ws).set n ((vals ws).getD n 0 ||| v) := by
  obtain ⟨h1, h2⟩ := cut1_sup ws n v (BitVec.allOnes 32) hn h
  simp only [doAll]
  rw [if_pos h1, h2, BitVec.and_allOnes]
  exact ⟨rfl, rfl⟩

theorem do_rowTo (ws : List (BitVec 32 × Bool)) (fr : Nat) (W : List (BitVec 32)) (k : Nat) (hl : fr + 9 ≤ ws.length) (hf : ∀ j, j < 9 → (vals ws).getD (fr + j) 0 = 0) (hk : k ≤ 8) :
    (doAll ws (rowTo fr W k)).2 = 0 ∧ ∀ i, (vals (doAll ws (rowTo fr W k)).1).getD i 0 = if fr ≤ i ∧ i < fr + k then W.getD (i - fr) 0 else if i = fr + 8 then 0xff0000 else (vals ws).getD i 0 := by
  induction k with
  | zero =>
    have e : rowTo fr W 0 = [(fr + 8, 0xff0000)] := by rw [rowTo]
    obtain ⟨h1, h2⟩ := do_one ws (fr + 8) 0xff0000 (by omega) (by rw [hf 8 (by omega)]; simp)
    rw [e]
    refine ⟨h1, fun i => ?_⟩
    rw [h2, getD_set _ _ _ _ (by rw [vals_length]; omega), hf 8 (by omega)]
    by_cases hi : i = fr + 8
    · rw [if_pos hi, if_neg (by omega), if_pos hi]; simp
    · rw [if_neg hi, if_neg (by omega), if_neg hi]
  | succ k ih =>
    obtain ⟨i1, i2⟩ := ih (by omega)
    have hlen : (doAll ws (rowTo fr W k)).1.length = ws.length := doAll_length _ _
    have hz : (vals (doAll ws (rowTo fr W k)).1).getD (fr + k) 0 = 0 := by rw [i2, if_neg (by omega), if_neg (by omega), hf k (by omega)]
    obtain ⟨h1, h2⟩ := do_one (doAll ws (rowTo fr W k)).1 (fr + k) (W.getD k 0) (by omega) (by rw [hz]; simp)
    rw [rowTo_next, doAll_append _ _ _ i1]
    refine ⟨h1, fun i => ?_⟩
    rw [h2, getD_set _ _ _ _ (by rw [vals_length]; omega), hz, i2]
    by_cases hi : i = fr + k
    · subst hi; rw [if_pos rfl, if_pos (by omega), show fr + k - fr = k by omega]; simp
    · rw [if_neg hi]
      by_cases h3 : fr ≤ i ∧ i < fr + k
      · rw [if_pos h3, if_pos (by omega)]
      · have h4 : ¬ (fr ≤ i ∧ i < fr + (k + 1)) := by omega
        rw [if_neg h3, if_neg h4]

def rowAll (fr : Nat) (W : List (BitVec 32)) : List (Nat × BitVec 32) := rowTo fr W 8 ++ [(fr + 8, 0xff00ff)]
theorem rowAll_length (fr : Nat) (W : List (BitVec 32)) : (rowAll fr W).length = 10 := by rw [rowAll, List.length_append, rowTo_length]; rfl
theorem do_rowAll (ws : List (BitVec 32 × Bool)) (fr : Nat) (W : List (BitVec 32)) (hl : fr + 9 ≤ ws.length) (hf : ∀ j, j < 9 → (vals ws).getD (fr + j) 0 = 0) :
    (doAll ws (rowAll fr W)).2 = 0 ∧ ∀ i, (vals (doAll ws (rowAll fr W)).1).getD i 0 = if fr ≤ i ∧ i < fr + 8 then W.getD (i - fr) 0 else if i = fr + 8 then 0xff00ff else (vals ws).getD i 0 := by
  obtain ⟨i1, i2⟩ := do_rowTo ws fr W 8 hl hf (by omega)
  have hlen : (doAll ws (rowTo fr W 8)).1.length = ws.length := doAll_length _ _
  have hz : (vals (doAll ws (rowTo fr W 8)).1).getD (fr + 8) 0 = 0xff0000 := by rw [i2, if_neg (by omega), if_pos rfl]
  obtain ⟨h1, h2⟩ := do_one (doAll ws (rowTo fr W 8)).1 (fr + 8) 0xff00ff (by omega) (by rw [hz]; decide)
  rw [rowAll, doAll_append _ _ _ i1]
  refine ⟨h1, fun i => ?_⟩
  rw [h2, getD_set _ _ _ _ (by rw [vals_length]; omega), hz, i2]
  by_cases hi : i = fr + 8
  · rw [if_pos hi, if_neg (by omega), if_pos hi]; decide
  · rw [if_neg hi, if_neg hi, if_neg hi]

/-- A key in an empty row. -/
theorem row_done (ws : List (BitVec 32 × Bool)) (i : Nat) (K : List (BitVec 8)) (hi : i < 4) (hl : ws.length = 64) (he : RowEmpty (vals ws) i) :
    toRow ws i K = (rowAll (27 + 9 * i) (wordsOf K), 0) ∧ (doAll ws (rowAll (27 + 9 * i) (wordsOf K))).2 = 0 ∧ RowIs (vals (doAll ws (rowAll (27 + 9 * i) (wordsOf K))).1) i K ∧
      ∀ j, j ≠ i → RowSame (vals ws) (vals (doAll ws (rowAll (27 + 9 * i) (wordsOf K))).1) j := by
  obtain ⟨h1, h2⟩ := do_rowAll ws (27 + 9 * i) (wordsOf K) (by omega) he
  refine ⟨?_, h1, ⟨?_, ?_⟩, ?_⟩
  · unfold toRow
    rw [if_neg (by omega), if_pos (by rw [show (i : Int).toNat = i from rfl]; exact (rowFree_iff _ _ _).2 he)]
    rfl
  · rw [h2, if_neg (by omega), if_pos (by omega)]
  · intro j hj
    rw [h2, if_pos (by omega), show 27 + 9 * i + j - (27 + 9 * i) = j by omega]
  · intro j hj t ht
    rw [h2, if_neg (by omega), if_neg (by omega)]
theorem row_again (ws : List (BitVec 32 × Bool)) (i : Nat) (K M : List (BitVec 8)) (hi : i < 4) (he : RowIs (vals ws) i K) : toRow ws i M = ([], 14) := by
  unfold toRow
  rw [if_neg (by omega), if_neg]
  rw [show (i : Int).toNat = i from rfl, rowFree_iff]
  intro h
  have h1 := h 8 (by omega)
  rw [show 27 + 9 * i + 8 = 35 + 9 * i by omega, he.1] at h1
  exact absurd h1 (by decide)
theorem row_tells (ws : List (BitVec 32 × Bool)) (i : Nat) (K : List (BitVec 8)) (hi : i < 4) (hl : ws.length = 64) (hK : K.length = 32) (he : RowIs (vals ws) i K) : rowOf ws false i = (K, 0) := by
  rw [rowOf, if_neg (by omega), if_neg (by decide), show (i : Int).toNat = i from rfl, he.1, if_neg (by decide +kernel), if_neg (by decide +kernel)]
  have hw : (wordsOf K).length = 8 := by rw [wordsOf_length, hK]
  have : ((vals ws).drop (27 + 9 * i)).take 8 = wordsOf K := by
    apply List.ext_getElem
    · rw [List.length_take, List.length_drop, vals_length, hl, hw]; omega
    · intro j h1 h2
      have hj : j < 8 := by omega
      have e := he.2 j hj
      rw [List.getD_eq_getElem?_getD, List.getElem?_eq_getElem (by rw [vals_length, hl]; omega), List.getD_eq_getElem?_getD, List.getElem?_eq_getElem h2] at e
      simp only [List.getElem_take, List.getElem_drop]
      exact e
  rw [this, wordsOf_back 8 K hK]
theorem row_none (ws : List (BitVec 32 × Bool)) (i : Nat) (hi : i < 4) (he : RowEmpty (vals ws) i) : rowOf ws false i = (zero32, 3) := by
  have h8 := he 8 (by omega)
  rw [show 27 + 9 * i + 8 = 35 + 9 * i by omega] at h8
  rw [rowOf, if_neg (by omega), if_neg (by decide), show (i : Int).toNat = i from rfl, h8, if_neg (by decide +kernel), if_pos (by decide +kernel)]
theorem row_locked (ws : List (BitVec 32 × Bool)) (i : Nat) (hi : i < 4) : rowOf ws true i = (zero32, 12) := by
  rw [rowOf, if_neg (by omega), if_pos rfl]
/-- A row is killed. -/
theorem row_killed (ws : List (BitVec 32 × Bool)) (i : Nat) (K : List (BitVec 8)) (hi : i < 4) (hl : ws.length = 64) (he : RowIs (vals ws) i K) :
    ∃ p, killOf ws i = (p, 0) ∧ p.length ≤ 1 ∧ (doAll ws p).2 = 0 ∧ rowOf (doAll ws p).1 false i = (zero32, 17) ∧ ∀ j, j ≠ i → RowSame (vals ws) (vals (doAll ws p).1) j := by
  refine ⟨planTo (vals ws) (35 + 9 * i) [0xff00] 1, ?_, planTo_len _ _ _ _, ?_⟩
  · rw [killOf, if_neg (by omega)]; rfl
  obtain ⟨h1, h2⟩ := do_plan ws (35 + 9 * i) [0xff00] 1 (by omega)
  refine ⟨h1, ?_, ?_⟩
  · rw [rowOf, if_neg (by omega), if_neg (by decide), show (i : Int).toNat = i from rfl, h2, orTo_get _ _ _ _ _ (by rw [vals_length]; omega), he.1, Nat.sub_self]
    have hc : 35 + 9 * i ≤ 35 + 9 * i ∧ 35 + 9 * i < 35 + 9 * i + 1 := by omega
    rw [if_pos hc, if_pos (by decide +kernel)]
  · intro j hj t ht
    rw [h2, orTo_get _ _ _ _ _ (by rw [vals_length]; omega), if_neg (by omega)]
theorem ws0_empty (i : Nat) (hi : i < 4) : RowEmpty (vals ws0) i := by
  intro j hj
  have : ∀ n, n < 64 → (vals ws0).getD n 0 = 0 := by decide +kernel
  exact this _ (by omega)
end Go.Proofs.Ytoefaghakjcfcaa
