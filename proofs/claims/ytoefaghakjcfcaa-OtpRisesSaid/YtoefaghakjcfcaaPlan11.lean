/- What ToCounter answers, whatever is asked. -/
import Derived.Test.YtoefaghakjcfcaaOpenAct
namespace Go.Proofs.Ytoefaghakjcfcaa
open Go.RowKit

def Counts (ws : List (BitVec 32 × Bool)) (n : Int) (p : List (Nat × BitVec 32) × Nat) : Prop :=
  ((n < 0 ∨ n > 255) ∧ p = ([], 1)) ∨ (0 ≤ n ∧ n ≤ 255 ∧ n < countOf ws ∧ p = ([], 15)) ∨
  (∃ k I : Nat, n = k ∧ countOf ws ≤ k ∧ k ≤ 255 ∧ I ≤ 255 ∧ zerosTo (ctr (vals ws)) I = k - countOf ws ∧ p = (planTo (vals ws) 1 (fillTo (ctr (vals ws)) I) 8, 0))
def countCode (n : Int) (c : Nat) : Nat := if n < 0 ∨ n > 255 then 1 else if n < c then 15 else 0
theorem Counts.code {ws : List (BitVec 32 × Bool)} {n : Int} {p : List (Nat × BitVec 32) × Nat} (h : Counts ws n p) : p.2 = countCode n (countOf ws) := by
  unfold countCode
  rcases h with ⟨h, rfl⟩ | ⟨h0, h1, h2, rfl⟩ | ⟨k, I, rfl, h1, h2, _, _, rfl⟩
  · rw [if_pos h]
  · rw [if_neg (by omega), if_pos h2]
  · rw [if_neg (by omega), if_neg (by omega)]
theorem otp_toCounter_all (r : Ref) (ws : List (BitVec 32 × Bool)) (sl : Bool) (n : Int) (w : World) (h : ChipAt w r ws sl) :
    Calls Try.prog 11 #[.pointer (some ⟨r.bc, 0, none⟩), .int .i64 n] w fun e w' => ∃ p, Counts ws n p ∧ Plans w w' e p := by
  by_cases h0 : n < 0 ∨ n > 255
  · exact (otp_toCounter_arg r n w h0).mono fun e w' hp => ⟨_, .inl ⟨h0, rfl⟩, hp⟩
  by_cases h2 : n < countOf ws
  · exact (otp_toCounter_old r ws sl n w h (by omega) (by omega) h2).mono fun e w' hp => ⟨_, .inr (.inl ⟨by omega, by omega, h2, rfl⟩), hp⟩
  · obtain ⟨k, rfl⟩ := Int.eq_ofNat_of_zero_le (show 0 ≤ n by omega)
    have hz : k - countOf ws ≤ zerosTo (ctr (vals ws)) 255 := by
      have h1 := zeros_cnt (ctr (vals ws)) 255
      have h3 : countOf ws = cnt (bitAt (ctr (vals ws))) 255 := count_cnt (vals ws)
      omega
    refine (otp_toCounter r ws sl k w h (by omega) (by omega) hz).mono ?_
    rintro e w' ⟨I, hI, hIz, hp⟩
    exact ⟨_, .inr (.inr ⟨k, I, rfl, by omega, by omega, hI, hIz, rfl⟩), hp⟩
theorem toLife_code (ws : List (BitVec 32 × Bool)) (n : Int) : (toLife ws n).2 = if n < 1 ∨ n > 4 then 1 else if n ≤ lifeOf ws then 14 else 0 := by
  unfold toLife; split
  · rfl
  · split <;> rfl
theorem killOf_code (ws : List (BitVec 32 × Bool)) (n : Int) : (killOf ws n).2 = if n < 0 ∨ n ≥ 4 then 1 else 0 := by
  unfold killOf; split <;> rfl
theorem toRow_code (ws : List (BitVec 32 × Bool)) (n : Int) (K : List (BitVec 8)) : (toRow ws n K).2 = if n < 0 ∨ n ≥ 4 then 1 else if rowFree (vals ws) (27 + 9 * n.toNat) 9 then 0 else 14 := by
  unfold toRow; split
  · rfl
  · split <;> rfl
theorem toKey_code (ws : List (BitVec 32 × Bool)) (P N : List (BitVec 8)) : (toKey ws P N).2 = if P.length ≠ 56 then 1 else if lifeOf ws ≠ 0 then 14 else if keyOk (vals ws) (wordsOf P ++ wordsOf N) 18 then 0 else 11 := by
  unfold toKey; split
  · rfl
  · split
    · rfl
    · split <;> rfl
theorem key_word (P Z : List (BitVec 8)) (k : Nat) (hP : P.length = 56) (hk : k < 14) : (valB ((P.drop (4 * k)).take 4)).setWidth 32 = (wordsOf P ++ wordsOf Z).getD k 0 := by
  have e : (P.drop (4 * k)).take 4 = [P[4 * k]'(by omega), P[4 * k + 1]'(by omega), P[4 * k + 2]'(by omega), P[4 * k + 3]'(by omega)] := by
    apply List.ext_getElem
    · simp; omega
    · intro i h1 h2
      have hi : i < 4 := by simpa using h2
      simp only [List.getElem_take, List.getElem_drop]
      match i, hi with
      | 0, _ => rfl
      | 1, _ => rfl
      | 2, _ => rfl
      | 3, _ => rfl
  have hl : (wordsOf P).length = 14 := by rw [wordsOf_length, hP]
  rw [e, valB_four, List.getD_eq_getElem?_getD, List.getElem?_append_left (by omega), List.getElem?_eq_getElem (by omega), wordsOf_get P k (by omega)]
  rfl
theorem wordsOf_zero (n : Nat) : wordsOf (List.replicate (4 * n) 0) = List.replicate n 0 := by
  induction n with
  | zero => rfl
  | succ n ih =>
    rw [show 4 * (n + 1) = 4 * n + 1 + 1 + 1 + 1 by omega]
    simp only [List.replicate_succ, wordsOf, ih]
    congr 1
theorem key_zero (P : List (BitVec 8)) (k : Nat) (hP : P.length = 56) (h14 : 14 ≤ k) : (wordsOf P ++ wordsOf (List.replicate 16 0)).getD k 0 = 0 := by
  have hl : (wordsOf P).length = 14 := by rw [wordsOf_length, hP]
  rw [show (16 : Nat) = 4 * 4 from rfl, wordsOf_zero, List.getD_eq_getElem?_getD, List.getElem?_append_right (by omega), List.getElem?_replicate]
  split <;> rfl
theorem keyOk_next (V L : List (BitVec 32)) (k : Nat) : keyOk V L (k + 1) = (keyOk V L k && (V.getD (9 + k) 0 &&& ~~~(L.getD k 0) == 0)) := by rw [keyOk]
theorem rowFree_next (V : List (BitVec 32)) (fr k : Nat) : rowFree V fr (k + 1) = (rowFree V fr k && (V.getD (fr + k) 0 == 0)) := by rw [rowFree]
theorem keyOk_zero (V L : List (BitVec 32)) : keyOk V L 0 = true := by unfold keyOk; rfl
theorem rowFree_zero (V : List (BitVec 32)) (fr : Nat) : rowFree V fr 0 = true := by unfold rowFree; rfl
def code2 (b : Bool) (n : Nat) : Nat := if b then 0 else n
theorem code2_and (a b : Bool) (n : Nat) : code2 (a && b) n = if b then code2 a n else n := by cases a <;> cases b <;> rfl
attribute [irreducible] code2
theorem own_slice {w : World} {base n size : Nat} {T : TypeId} {v : Value} {xs : List Value} (h : w.ownsRow base T size v n xs) :
    ∃ (a : Option Addr) (g cap : Nat), v = .slice a n cap ∧ n ≤ cap ∧ (n = 0 ∨ (a = some ⟨g, 0, none⟩ ∧ base ≤ g ∧ g < w.heap.size)) ∧ ∀ j x, xs[j]? = some x → w.cell? ⟨g, 0 + j, none⟩ = some x := by
  rcases h.2 with ⟨rfl, h0⟩ | ⟨g, cap, cur, rfl, hg, hh, hn, hcm, hcs, ht⟩
  · refine ⟨none, 0, 0, by rw [h0], by omega, .inl h0, fun j x hx => ?_⟩
    have hj := (List.getElem?_eq_some_iff.1 hx).1
    rw [h.1, h0] at hj; omega
  · refine ⟨_, g, cap, rfl, hn, .inr ⟨rfl, hg, (Array.getElem?_eq_some_iff.1 hh).1⟩, fun j x hx => ?_⟩
    have hj := (List.getElem?_eq_some_iff.1 hx).1
    rw [Nat.zero_add, h.cellAt j (by rw [← h.1]; exact hj), hx]
theorem own_u8s {w : World} {base n : Nat} {T : TypeId} {v : Value} {l : List (BitVec 8)} (h : w.ownsRow base T 1 v n (u8s l)) :
    ∃ (a : Option Addr) (g cap : Nat), v = .slice a n cap ∧ n ≤ cap ∧ (n = 0 ∨ (a = some ⟨g, 0, none⟩ ∧ base ≤ g ∧ g < w.heap.size)) ∧ U8At w g 0 l := by
  obtain ⟨a, g, cap, rfl, h1, h2, h3⟩ := own_slice h
  exact ⟨a, g, cap, rfl, h1, h2, fun i hi => h3 i _ (by rw [u8s_get, List.getElem?_eq_getElem hi]; rfl)⟩
theorem otp_toKey_all (r : Ref) (ws : List (BitVec 32 × Bool)) (sl : Bool) (a : Option Addr) (b n cap : Nat) (P N : List (BitVec 8)) (w : World) (h : ChipAt w r ws sl) (hP : P.length = n) (hc : n ≤ cap) (hN : N.length = 16)
    (hb : n = 0 ∨ (a = some ⟨b, 0, none⟩ ∧ b < w.heap.size)) (hu : U8At w b 0 P) :
    Calls Try.prog 18 #[.pointer (some ⟨r.bc, 0, none⟩), .slice a n cap, .agg (u8s N).toArray] w fun e w' => Plans w w' e (toKey ws P N) := by
  by_cases hn : n = 56
  · subst hn
    obtain ⟨rfl, hbl⟩ := hb.resolve_left (by omega)
    exact otp_toKey r ws sl b 0 cap P N w h hP hc hN hbl hu
  · have : toKey ws P N = ([], 1) := by unfold toKey; exact if_pos (by rw [hP]; exact hn)
    rw [this]
    exact otp_toKey_len r ws a n cap N w hn
end Go.Proofs.Ytoefaghakjcfcaa
