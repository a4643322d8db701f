/- What acts of otp leave, wholly or partly done. -/
import Derived.Test.YtoefaghakjcfcaaPlanLive
import Derived.Test.YtoefaghakjcfcaaLawRows
import Derived.Test.YtoefaghakjcfcaaLawCounts
namespace Go.Proofs.Ytoefaghakjcfcaa

/-- Every bit that stands still stands. -/
def Sub (V V' : List (BitVec 32)) : Prop := ∀ i k, (V.getD i 0).getLsbD k = true → (V'.getD i 0).getLsbD k = true
theorem Sub.refl (V : List (BitVec 32)) : Sub V V := fun _ _ h => h
theorem Sub.trans {A B C : List (BitVec 32)} (h : Sub A B) (k : Sub B C) : Sub A C := fun i b x => k i b (h i b x)

theorem cut1_ok (ws : List (BitVec 32 × Bool)) (n : Nat) (v g : BitVec 32) (h : (cut1 ws n v g).2 = 0) : n < ws.length ∧ (vals ws).getD n 0 &&& ~~~v = 0 := by
  unfold cut1 at h
  by_cases h1 : (n : Int) < 0 ∨ (n : Int) ≥ ws.length
  · rw [if_pos h1] at h; exact absurd h (by simp)
  · rw [if_neg h1] at h
    refine ⟨by omega, ?_⟩
    simp only [Int.toNat_natCast] at h
    rw [vals_getD] at h
    by_cases h2 : (vals ws).getD n 0 &&& ~~~v = 0
    · exact h2
    · rw [if_pos h2] at h; exact absurd h (by simp)
theorem cut1_get (ws : List (BitVec 32 × Bool)) (n : Nat) (v g : BitVec 32) (hn : n < ws.length) (h : (vals ws).getD n 0 &&& ~~~v = 0) (i : Nat) :
    (vals (cut1 ws n v g).1).getD i 0 = if i = n then (vals ws).getD n 0 ||| (v &&& g) else (vals ws).getD i 0 := by
  rw [(cut1_sup ws n v g hn h).2, getD_set _ _ _ _ (by rw [vals_length]; exact hn)]
theorem cut1_rise (ws : List (BitVec 32 × Bool)) (n : Nat) (v g : BitVec 32) (h : (cut1 ws n v g).2 = 0) :
    Sub (vals ws) (vals (cut1 ws n v g).1) ∧ (∀ i, i ≠ n → (vals (cut1 ws n v g).1).getD i 0 = (vals ws).getD i 0) ∧
    ∀ g', (cut1 ws n v g').2 = 0 ∧ Sub (vals (cut1 ws n v g').1) (vals (cut1 ws n v (BitVec.allOnes 32)).1) := by
  obtain ⟨hn, hs⟩ := cut1_ok ws n v g h
  refine ⟨fun i k hk => ?_, fun i hi => ?_, fun g' => ⟨(cut1_sup ws n v g' hn hs).1, fun i k hk => ?_⟩⟩
  · rw [cut1_get _ _ _ _ hn hs]
    split
    · rename_i e; subst e
      rw [BitVec.getLsbD_or, hk]; rfl
    · exact hk
  · rw [cut1_get _ _ _ _ hn hs, if_neg hi]
  · rw [cut1_get _ _ _ _ hn hs] at hk ⊢
    split
    · rename_i e
      rw [if_pos e, BitVec.getLsbD_or, BitVec.getLsbD_and] at hk
      rw [BitVec.getLsbD_or, BitVec.and_allOnes]
      cases h1 : ((vals ws).getD n 0).getLsbD k
      · rw [h1] at hk; simp at hk; simp [hk.1]
      · rfl
    · rename_i e
      rwa [if_neg e] at hk

theorem doAll_pre (a b : List (Nat × BitVec 32)) : ∀ ws, (doAll ws (a ++ b)).2 = 0 → (doAll ws a).2 = 0 ∧ (doAll (doAll ws a).1 b).2 = 0 ∧ doAll ws (a ++ b) = doAll (doAll ws a).1 b := by
  induction a with
  | nil => intro ws h; exact ⟨rfl, h, rfl⟩
  | cons x a ih =>
    intro ws h
    obtain ⟨n, v⟩ := x
    simp only [List.cons_append, doAll] at h ⊢
    by_cases h2 : (cut1 ws n v (BitVec.allOnes 32)).2 = 0
    · rw [if_pos h2] at h
      rw [if_pos h2, if_pos h2]
      exact ih _ h
    · rw [if_neg h2] at h; exact absurd h h2
theorem doAll_rise (l : List (Nat × BitVec 32)) : ∀ ws, (doAll ws l).2 = 0 → Sub (vals ws) (vals (doAll ws l).1) ∧ ∀ i, (∀ e ∈ l, e.1 ≠ i) → (vals (doAll ws l).1).getD i 0 = (vals ws).getD i 0 := by
  induction l with
  | nil => intro ws _; exact ⟨Sub.refl _, fun _ _ => rfl⟩
  | cons x l ih =>
    intro ws h
    obtain ⟨n, v⟩ := x
    simp only [doAll] at h ⊢
    by_cases h2 : (cut1 ws n v (BitVec.allOnes 32)).2 = 0
    · rw [if_pos h2] at h
      rw [if_pos h2]
      obtain ⟨i1, i2⟩ := ih _ h
      obtain ⟨j1, j2, _⟩ := cut1_rise ws n v _ h2
      refine ⟨j1.trans i1, fun i hi => ?_⟩
      rw [i2 i (fun e he => hi e (List.mem_cons_of_mem _ he)), j2 i (fun e => hi (n, v) (List.mem_cons_self ..) e.symm)]
    · rw [if_neg h2] at h; exact absurd h h2

/-- What stands behind so many of a plan, the next one torn or not. -/
def partWs (ws : List (BitVec 32 × Bool)) (p : List (Nat × BitVec 32)) (n : Nat) (torn : Bool) (g : BitVec 32) : List (BitVec 32 × Bool) :=
  if torn then match p[n]? with
    | some x => (cut1 (doAll ws (p.take n)).1 x.1 x.2 g).1
    | none => (doAll ws (p.take n)).1
  else (doAll ws (p.take n)).1
theorem part_rise (ws : List (BitVec 32 × Bool)) (p : List (Nat × BitVec 32)) (n : Nat) (torn : Bool) (g : BitVec 32) (h : (doAll ws p).2 = 0) :
    (doAll ws (p.take n)).2 = 0 ∧ (∀ x, p[n]? = some x → (cut1 (doAll ws (p.take n)).1 x.1 x.2 g).2 = 0) ∧ Sub (vals ws) (vals (partWs ws p n torn g)) ∧
    Sub (vals (partWs ws p n torn g)) (vals (doAll ws p).1) ∧ ∀ i, (∀ e ∈ p, e.1 ≠ i) → (vals (partWs ws p n torn g)).getD i 0 = (vals ws).getD i 0 := by
  have h' := h
  rw [← List.take_append_drop n p] at h'
  obtain ⟨h1, h2, h3⟩ := doAll_pre _ _ _ h'
  rw [List.take_append_drop] at h3
  obtain ⟨r1, r2⟩ := doAll_rise _ _ h1
  obtain ⟨r3, _⟩ := doAll_rise _ _ h2
  have hmem : ∀ i, (∀ e ∈ p, e.1 ≠ i) → ∀ e ∈ p.take n, e.1 ≠ i := fun i hi e he => hi e (List.mem_of_mem_take he)
  have hc : ∀ x, p[n]? = some x → (cut1 (doAll ws (p.take n)).1 x.1 x.2 (BitVec.allOnes 32)).2 = 0 ∧ Sub (vals (cut1 (doAll ws (p.take n)).1 x.1 x.2 (BitVec.allOnes 32)).1) (vals (doAll ws p).1) := by
    intro x hx
    obtain ⟨hn, rfl⟩ := List.getElem?_eq_some_iff.1 hx
    rw [h3]
    rw [List.drop_eq_getElem_cons hn] at h2 ⊢
    simp only [doAll] at h2 ⊢
    by_cases h4 : (cut1 (doAll ws (p.take n)).1 p[n].1 p[n].2 (BitVec.allOnes 32)).2 = 0
    · rw [if_pos h4] at h2 ⊢
      exact ⟨h4, (doAll_rise _ _ h2).1⟩
    · rw [if_neg h4] at h2; exact absurd h2 h4
  refine ⟨h1, fun x hx => ((cut1_rise _ _ _ _ (hc x hx).1).2.2 g).1, ?_, ?_, ?_⟩
  · unfold partWs
    split
    · split
      · rename_i x hx
        exact r1.trans (cut1_rise _ _ _ _ ((cut1_rise _ _ _ _ (hc x hx).1).2.2 g).1).1
      · exact r1
    · exact r1
  · have r3' : Sub (vals (doAll ws (p.take n)).1) (vals (doAll ws p).1) := by rw [h3]; exact r3
    unfold partWs
    split
    · split
      · rename_i x hx
        exact ((cut1_rise _ _ _ _ (hc x hx).1).2.2 g).2.trans (hc x hx).2
      · exact r3'
    · exact r3'
  · intro i hi
    unfold partWs
    split
    · split
      · rename_i x hx
        rw [(cut1_rise _ _ _ _ ((cut1_rise _ _ _ _ (hc x hx).1).2.2 g).1).2.1 i (fun e => hi x (List.mem_of_getElem? hx) e.symm)]
        exact r2 i (hmem i hi)
      · exact r2 i (hmem i hi)
    · exact r2 i (hmem i hi)
theorem part_length (ws : List (BitVec 32 × Bool)) (p : List (Nat × BitVec 32)) (n : Nat) (torn : Bool) (g : BitVec 32) : (partWs ws p n torn g).length = ws.length := by
  unfold partWs
  split
  · split
    · rw [cut1_length, doAll_length]
    · rw [doAll_length]
  · rw [doAll_length]

theorem rowOf_offs' (ws : List (BitVec 32 × Bool)) (i : Int) : rowOf (offs (vals ws)) false i = rowOf ws false i := by unfold rowOf; rw [vals_offs]
/-! What is told of words that only rise. -/
theorem onB_mono (x y : BitVec 32) (i : Nat) (h : ∀ k, x.getLsbD k = true → y.getLsbD k = true) (hx : onB x.toNat i = true) : onB y.toNat i = true := by
  rw [onB_cnt, decide_eq_true_iff] at hx ⊢
  exact Nat.le_trans hx (cnt_mono fun t _ ht => h _ ht)
theorem lifeTo_mono (x y : Nat) (h : ∀ i, onB x i = true → onB y i = true) (k : Nat) : lifeTo x k ≤ lifeTo y k := by
  induction k with
  | zero => exact Nat.le_refl _
  | succ k ih =>
    rw [lifeTo, lifeTo]
    have := lifeTo_le x k
    split
    · rename_i h1; rw [if_pos (h k h1)]; exact Nat.le_refl _
    · split
      · omega
      · exact ih
theorem life_mono (ws ws' : List (BitVec 32 × Bool)) (h : Sub (vals ws) (vals ws')) : lifeOf ws ≤ lifeOf ws' :=
  lifeTo_mono _ _ (fun i hi => onB_mono _ _ i (h 0) hi) 4
theorem count_mono (ws ws' : List (BitVec 32 × Bool)) (h : Sub (vals ws) (vals ws')) : countOf ws ≤ countOf ws' := by
  unfold countOf
  rw [count_cnt, count_cnt]
  refine cnt_mono fun i hi hb => ?_
  rw [bitAt_ctr _ _ (by omega)] at hb ⊢
  exact h _ _ hb
theorem take_same (V V' : List (BitVec 32)) (a n : Nat) (hV : a + n ≤ V.length) (hV' : a + n ≤ V'.length) (h : ∀ j, j < n → V'.getD (a + j) 0 = V.getD (a + j) 0) : (V'.drop a).take n = (V.drop a).take n := by
  apply List.ext_getElem?
  intro j
  rw [List.getElem?_take, List.getElem?_take]
  split
  · rename_i hj
    have := h j hj
    rw [List.getD_eq_getElem?_getD, List.getD_eq_getElem?_getD] at this
    rw [List.getElem?_drop, List.getElem?_drop]
    rw [List.getElem?_eq_getElem (by omega), List.getElem?_eq_getElem (by omega)] at this ⊢
    exact congrArg some this
  · rfl
theorem onB_none (i : Nat) : onB 0 i = false := by
  have := onB_cnt 0 i
  rw [show (0 : BitVec 32).toNat = 0 from rfl] at this
  rw [this, cnt_congr (g := fun _ => false) (fun t _ => by simp)]
  rfl
/-- What a row tells, by its mark's two fields. -/
def rowBy (a1 a0 : Bool) (K : List (BitVec 8)) : List (BitVec 8) × Nat := match a1, a0 with
  | true, _ => (zero32, 17)
  | false, false => (zero32, 3)
  | false, true => (K, 0)
def rowKey (V : List (BitVec 32)) (r : Nat) : List (BitVec 8) := ((V.drop (27 + 9 * r)).take 8).flatMap be4
theorem row_by (V : List (BitVec 32)) (r : Nat) (hr : r < 4) :
    rowOf (offs V) false r = rowBy (onB (V.getD (35 + 9 * r) 0).toNat 1) (onB (V.getD (35 + 9 * r) 0).toNat 0) (rowKey V r) := by
  unfold rowOf
  rw [if_neg (by omega), vals_offs]
  simp only [Int.toNat_natCast, Bool.false_eq_true, if_false]
  cases onB (V.getD (35 + 9 * r) 0).toNat 1 <;> cases onB (V.getD (35 + 9 * r) 0).toNat 0 <;> rfl
/-- A key that is told is told still, or it is dead; what is dead stays dead. -/
theorem rises_row (V V' : List (BitVec 32)) (r : Nat) (hr : r < 4) (hV : V.length = 64) (hV' : V'.length = 64) (hS : Sub V V')
    (hw : (∀ j, j < 8 → V'.getD (27 + 9 * r + j) 0 = V.getD (27 + 9 * r + j) 0) ∨ RowEmpty V r) :
    ((rowOf (offs V) false r).2 = 0 → (rowOf (offs V') false r).2 = 17 ∨ rowOf (offs V') false r = rowOf (offs V) false r) ∧ ((rowOf (offs V) false r).2 = 17 → (rowOf (offs V') false r).2 = 17) := by
  rw [row_by V r hr, row_by V' r hr]
  have hm : ∀ i, onB (V.getD (35 + 9 * r) 0).toNat i = true → onB (V'.getD (35 + 9 * r) 0).toNat i = true := fun i hi => onB_mono _ _ i (hS _) hi
  have h1 := hm 1
  have h0 := hm 0
  have he : RowEmpty V r → onB (V.getD (35 + 9 * r) 0).toNat 0 = false := fun he => by
    have := he 8 (by omega)
    rw [show 27 + 9 * r + 8 = 35 + 9 * r by omega] at this
    rw [this, show (0 : BitVec 32).toNat = 0 from rfl, onB_none]
  have hk : (∀ j, j < 8 → V'.getD (27 + 9 * r + j) 0 = V.getD (27 + 9 * r + j) 0) → rowKey V' r = rowKey V r := fun h => by
    rw [rowKey, rowKey, take_same V V' (27 + 9 * r) 8 (by omega) (by omega) h]
  generalize onB (V.getD (35 + 9 * r) 0).toNat 1 = a1 at *
  generalize onB (V.getD (35 + 9 * r) 0).toNat 0 = a0 at *
  generalize onB (V'.getD (35 + 9 * r) 0).toNat 1 = b1 at *
  generalize onB (V'.getD (35 + 9 * r) 0).toNat 0 = b0 at *
  cases a1
  · cases a0
    · exact ⟨fun h => absurd h (by simp [rowBy]), fun h => absurd h (by simp [rowBy])⟩
    · obtain rfl := h0 rfl
      rcases hw with hw | hw
      · refine ⟨fun _ => ?_, fun h => absurd h (by simp [rowBy])⟩
        cases b1
        · right; rw [hk hw]
        · left; rfl
      · exact absurd (he hw) (by simp)
  · obtain rfl := h1 rfl
    exact ⟨fun h => absurd h (by simp [rowBy]), fun _ => rfl⟩

/-! What acts plan. -/
theorem planTo_nil (V : List (BitVec 32)) (fr : Nat) (l : List (BitVec 32)) (k : Nat) (h : ∀ j, j < k → V.getD (fr + j) 0 ||| l.getD j 0 = V.getD (fr + j) 0) : planTo V fr l k = [] := by
  induction k with
  | zero => rw [planTo]
  | succ k ih => rw [planTo, ih (fun j hj => h j (by omega)), if_pos (h k (by omega))]; rfl
theorem planTo_mem (V : List (BitVec 32)) (fr : Nat) (l : List (BitVec 32)) (k : Nat) : ∀ e ∈ planTo V fr l k, fr ≤ e.1 ∧ e.1 < fr + k := by
  induction k with
  | zero => intro e he; rw [planTo] at he; cases he
  | succ k ih =>
    intro e he
    rw [planTo, List.mem_append] at he
    rcases he with he | he
    · have := ih e he; omega
    · split at he
      · cases he
      · obtain rfl := List.mem_singleton.1 he
        simp
theorem rowTo_mem (fr : Nat) (W : List (BitVec 32)) (k : Nat) (hk : k ≤ 8) : ∀ e ∈ rowTo fr W k, fr ≤ e.1 ∧ e.1 < fr + 9 := by
  induction k with
  | zero => intro e he; rw [show rowTo fr W 0 = [(fr + 8, 0xff0000)] by rw [rowTo]] at he; obtain rfl := List.mem_singleton.1 he; simp
  | succ k ih =>
    intro e he
    rw [rowTo_next, List.mem_append] at he
    rcases he with he | he
    · exact ih (by omega) e he
    · obtain rfl := List.mem_singleton.1 he
      constructor <;> simp <;> omega
theorem rowAll_mem (fr : Nat) (W : List (BitVec 32)) : ∀ e ∈ rowAll fr W, fr ≤ e.1 ∧ e.1 < fr + 9 := by
  intro e he
  rw [rowAll, List.mem_append] at he
  rcases he with he | he
  · exact rowTo_mem fr W 8 (by omega) e he
  · obtain rfl := List.mem_singleton.1 he; simp
/-- A row is planned, or refused. -/
theorem toRow_cases (ws : List (BitVec 32 × Bool)) (i : Int) (K : List (BitVec 8)) :
    ((toRow ws i K).2 ≠ 0 ∧ (toRow ws i K).1 = []) ∨ ∃ k : Nat, i = k ∧ k < 4 ∧ RowEmpty (vals ws) k ∧ toRow ws i K = (rowAll (27 + 9 * k) (wordsOf K), 0) := by
  by_cases h : i < 0 ∨ i ≥ 4
  · have : toRow ws i K = ([], 1) := by unfold toRow; rw [if_pos h]
    left; rw [this]; exact ⟨by decide, rfl⟩
  · obtain ⟨k, rfl⟩ := Int.eq_ofNat_of_zero_le (show 0 ≤ i by omega)
    by_cases hf : rowFree (vals ws) (27 + 9 * k) 9 = true
    · right
      refine ⟨k, rfl, by omega, (rowFree_iff _ _ _).1 hf, ?_⟩
      unfold toRow; rw [if_neg h, show ((k : Int)).toNat = k from rfl, if_pos hf]; rfl
    · left
      have : toRow ws k K = ([], 14) := by unfold toRow; rw [if_neg h, show ((k : Int)).toNat = k from rfl, if_neg hf]
      rw [this]; exact ⟨by decide, rfl⟩
theorem toKey_cases (ws : List (BitVec 32 × Bool)) (P N : List (BitVec 8)) :
    ((toKey ws P N).2 ≠ 0 ∧ (toKey ws P N).1 = []) ∨ (P.length = 56 ∧ lifeOf ws = 0 ∧ (∀ j, j < 18 → (vals ws).getD (9 + j) 0 &&& ~~~((wordsOf P ++ wordsOf N).getD j 0) = 0) ∧ toKey ws P N = (planTo (vals ws) 9 (wordsOf P ++ wordsOf N) 18, 0)) := by
  by_cases h : P.length ≠ 56
  · have : toKey ws P N = ([], 1) := by unfold toKey; rw [if_pos h]
    left; rw [this]; exact ⟨by decide, rfl⟩
  · by_cases h2 : lifeOf ws ≠ 0
    · have : toKey ws P N = ([], 14) := by unfold toKey; rw [if_neg h, if_pos h2]
      left; rw [this]; exact ⟨by decide, rfl⟩
    · by_cases h3 : keyOk (vals ws) (wordsOf P ++ wordsOf N) 18 = true
      · right
        refine ⟨by omega, by omega, (keyOk_iff _ _ _).1 h3, ?_⟩
        unfold toKey; rw [if_neg h, if_neg h2, if_pos h3]
      · have : toKey ws P N = ([], 11) := by unfold toKey; rw [if_neg h, if_neg h2, if_neg h3]
        left; rw [this]; exact ⟨by decide, rfl⟩
theorem toLife_cases (ws : List (BitVec 32 × Bool)) (n : Int) :
    ((toLife ws n).2 ≠ 0 ∧ (toLife ws n).1 = []) ∨ ∃ k : Nat, n = k ∧ 1 ≤ k ∧ k ≤ 4 ∧ lifeOf ws < k ∧ toLife ws n = (planTo (vals ws) 0 [lifeMask k] 1, 0) := by
  by_cases h : n < 1 ∨ n > 4
  · have : toLife ws n = ([], 1) := by unfold toLife; rw [if_pos h]
    left; rw [this]; exact ⟨by decide, rfl⟩
  · obtain ⟨k, rfl⟩ := Int.eq_ofNat_of_zero_le (show 0 ≤ n by omega)
    by_cases h2 : (k : Int) ≤ lifeOf ws
    · have : toLife ws k = ([], 14) := by unfold toLife; rw [if_neg h, if_pos h2]
      left; rw [this]; exact ⟨by decide, rfl⟩
    · right
      exact ⟨k, rfl, by omega, by omega, by omega, by unfold toLife; rw [if_neg h, if_neg h2]; rfl⟩
theorem kill_cases (ws : List (BitVec 32 × Bool)) (i : Int) :
    ((killOf ws i).2 ≠ 0 ∧ (killOf ws i).1 = []) ∨ ∃ k : Nat, i = k ∧ k < 4 ∧ killOf ws i = (planTo (vals ws) (35 + 9 * k) [0xff00] 1, 0) := by
  by_cases h : i < 0 ∨ i ≥ 4
  · have : killOf ws i = ([], 1) := by unfold killOf; rw [if_pos h]
    left; rw [this]; exact ⟨by decide, rfl⟩
  · obtain ⟨k, rfl⟩ := Int.eq_ofNat_of_zero_le (show 0 ≤ i by omega)
    right
    exact ⟨k, rfl, by omega, by unfold killOf; rw [if_neg h]; rfl⟩

/-- Whatever is planned can be done; what is refused plans nothing; a row that isn't empty keeps its key's words. -/
theorem planned_facts (ws : List (BitVec 32 × Bool)) (A : Act11) (p : List (Nat × BitVec 32) × Nat) (hl : ws.length = 64) (h : Planned ws A p) :
    (doAll ws p.1).2 = 0 ∧ (p.2 ≠ 0 → p.1 = []) ∧ p.1.length ≤ 18 ∧ ∀ r, r < 4 → (∀ e ∈ p.1, e.1 < 27 + 9 * r ∨ 35 + 9 * r ≤ e.1) ∨ RowEmpty (vals ws) r := by
  have nil : ∀ q : List (Nat × BitVec 32) × Nat, q.1 = [] → (doAll ws q.1).2 = 0 ∧ (q.2 ≠ 0 → q.1 = []) ∧ q.1.length ≤ 18 ∧ ∀ r, r < 4 → (∀ e ∈ q.1, e.1 < 27 + 9 * r ∨ 35 + 9 * r ≤ e.1) ∨ RowEmpty (vals ws) r := fun q hq => by
    rw [hq]; exact ⟨rfl, fun _ => rfl, by simp, fun r _ => .inl fun e he => by cases he⟩
  rcases h with ⟨_, rfl⟩ | ⟨_, h⟩ | ⟨_, rfl⟩ | ⟨_, rfl⟩ | ⟨_, rfl⟩
  · rcases toLife_cases ws A.n with h | ⟨k, _, h1, h4, _, e⟩
    · exact nil _ h.2
    · rw [e]
      refine ⟨(do_plan ws 0 _ 1 (by omega)).1, fun h => absurd rfl h, Nat.le_trans (planTo_len _ _ _ _) (by omega), fun r _ => .inl fun e he => ?_⟩
      have := planTo_mem _ _ _ _ e he
      omega
  · rcases h with ⟨_, rfl⟩ | ⟨_, _, _, rfl⟩ | ⟨k, I, _, _, _, _, _, rfl⟩
    · exact nil _ rfl
    · exact nil _ rfl
    · refine ⟨(do_plan ws 1 _ 8 (by omega)).1, fun h => absurd rfl h, Nat.le_trans (planTo_len _ _ _ _) (by omega), fun r _ => .inl fun e he => ?_⟩
      have := planTo_mem _ _ _ _ e he
      omega
  · rcases toKey_cases ws (A.key ++ A.key.take 24) (A.key.take 16) with h | ⟨_, _, _, e⟩
    · exact nil _ h.2
    · rw [e]
      refine ⟨(do_plan ws 9 _ 18 (by omega)).1, fun h => absurd rfl h, planTo_len _ _ _ _, fun r _ => .inl fun e he => ?_⟩
      have := planTo_mem _ _ _ _ e he
      omega
  · rcases toRow_cases ws A.n A.key with h | ⟨k, _, hk, he, e⟩
    · exact nil _ h.2
    · rw [e]
      refine ⟨(do_rowAll ws (27 + 9 * k) _ (by omega) he).1, fun h => absurd rfl h, by rw [rowAll_length]; omega, fun r hr => ?_⟩
      by_cases hrk : r = k
      · subst hrk; exact .inr he
      · left
        intro e he
        have := rowAll_mem _ _ e he
        omega
  · rcases kill_cases ws A.n with h | ⟨k, _, hk, e⟩
    · exact nil _ h.2
    · rw [e]
      refine ⟨(do_plan ws (35 + 9 * k) _ 1 (by omega)).1, fun h => absurd rfl h, Nat.le_trans (planTo_len _ _ _ _) (by omega), fun r _ => .inl fun e he => ?_⟩
      have := planTo_mem _ _ _ _ e he
      omega

/-- The counter that was raised wholly. -/
theorem counts_done (ws : List (BitVec 32 × Bool)) (k I : Nat) (hl : ws.length = 64) (h1 : countOf ws ≤ k) (hI : I ≤ 255) (hz : zerosTo (ctr (vals ws)) I = k - countOf ws) :
    countOf (doAll ws (planTo (vals ws) 1 (fillTo (ctr (vals ws)) I) 8)).1 = k := by
  obtain ⟨_, hv⟩ := do_plan ws 1 (fillTo (ctr (vals ws)) I) 8 (by omega)
  have hvl : (vals ws).length = 64 := by rw [vals_length]; exact hl
  rw [countOf, hv, count_cnt]
  rw [cnt_congr (n := 255) (fun i hi => or_bit (vals ws) hvl (ctr (vals ws)) rfl I hI i (by omega))]
  have e2 := cnt_or (bitAt (ctr (vals ws))) I 255 hI
  have e3 := zeros_cnt (ctr (vals ws)) I
  have e4 : cnt (bitAt (ctr (vals ws))) 255 = countOf ws := by rw [← count_cnt]; rfl
  omega
/-- THE LAW OF RISING: an act that is done in part, and torn. -/
theorem rises (ws : List (BitVec 32 × Bool)) (A : Act11) (p : List (Nat × BitVec 32) × Nat) (n : Nat) (torn : Bool) (g : BitVec 32) (hl : ws.length = 64) (h : Planned ws A p) :
    lifeOf ws ≤ lifeOf (partWs ws p.1 n torn g) ∧ countOf ws ≤ countOf (partWs ws p.1 n torn g) ∧
    (A.op.toNat % 5 = 1 → (countOf (partWs ws p.1 n torn g) : Int) ≤ A.n ∨ countOf (partWs ws p.1 n torn g) = countOf ws) ∧
    ∀ r : Nat, r < 4 → ((rowOf ws false r).2 = 0 → (rowOf (partWs ws p.1 n torn g) false r).2 = 17 ∨ rowOf (partWs ws p.1 n torn g) false r = rowOf ws false r) ∧ ((rowOf ws false r).2 = 17 → (rowOf (partWs ws p.1 n torn g) false r).2 = 17) := by
  obtain ⟨f1, f2, f3, f4⟩ := planned_facts ws A p hl h
  obtain ⟨_, _, s1, s2, s3⟩ := part_rise ws p.1 n torn g f1
  refine ⟨life_mono _ _ s1, count_mono _ _ s1, fun hop => ?_, fun r hr => ?_⟩
  · rcases h with ⟨h0, _⟩ | ⟨_, h⟩ | ⟨h0, _⟩ | ⟨h0, _⟩ | ⟨h0, _⟩
    · omega
    · rcases h with ⟨_, rfl⟩ | ⟨_, _, _, rfl⟩ | ⟨k, I, e, h1, h2, hI, hz, rfl⟩
      · right; unfold partWs; simp [doAll]
      · right; unfold partWs; simp [doAll]
      · left
        have := count_mono _ _ s2
        rw [counts_done ws k I hl h1 hI hz] at this
        rw [e]; omega
    · omega
    · omega
    · omega
  · have e1 : rowOf ws false r = rowOf (offs (vals ws)) false r := (rowOf_offs' ws r).symm
    have e2 : rowOf (partWs ws p.1 n torn g) false r = rowOf (offs (vals (partWs ws p.1 n torn g))) false r := (rowOf_offs' _ r).symm
    rw [e1, e2]
    refine rises_row _ _ r hr (by rw [vals_length]; exact hl) (by rw [vals_length, part_length]; exact hl) s1 ?_
    rcases f4 r hr with h | h
    · left
      intro j hj
      refine s3 _ fun e he => ?_
      have := h e he
      omega
    · exact .inr h
end Go.Proofs.Ytoefaghakjcfcaa
