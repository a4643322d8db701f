/- A slice of words of 32 bits, opened. -/
import Derived.Test.YtoefaghakjcfcaaOpenArgs
namespace Go.Proofs.Ytoefaghakjcfcaa
open Go.ChangeShapes Go.WideShapes Go.ChangeAt Go.RowKit

section
variable {H : Type} {enc : TypeId × Value → H} {P : Program} {w : World} {base : Nat} {spare : Nat → Bool} {held : Bool}
theorem open_u32s {t e : TypeId} {a : Option Addr} {n cap fuel : Nat} {y : DataW H × List MemPlace} (ht : P.underlying t = some (.slice e)) (he : P.underlying e = some (.int .u32)) (hc : P.cellsOf e = 1)
    (h : DataW.trod enc P w base spare held fuel t [.slice a n cap] = some y) :
    ∃ (b o : Nat) (l : List (BitVec 32)), l.length = n ∧ n ≤ cap ∧ n ≤ 9223372036854775807 ∧ (n = 0 ∨ (a = some ⟨b, o, none⟩ ∧ b < w.heap.size)) ∧ U32At w b o l := by
  rcases open_ints ht he hc h with ⟨hcs, _⟩ | ⟨x, len, c, zs, hcs, _, hl, hm, hz, _, hcell, hwz⟩
  · simp at hcs
    obtain ⟨rfl, rfl, rfl⟩ := hcs
    exact ⟨0, 0, [], rfl, by omega, by omega, .inl rfl, fun i hi => by simp at hi⟩
  · simp at hcs
    obtain ⟨rfl, rfl, rfl⟩ := hcs
    have hn : n ≤ zs.length := by rw [hz]; split <;> omega
    have hm' : cap ≤ 9223372036854775807 := by simpa [maxLen] using hm
    by_cases h0 : n = 0
    · subst h0
      exact ⟨0, 0, [], rfl, by omega, by omega, .inl rfl, fun i hi => by simp at hi⟩
    · obtain ⟨b, off, spot⟩ := x
      have hc := hcell 0 (by omega)
      have hspot : spot = none := by simpa [Addr.add] using World.cell?_spot hc
      subst hspot
      refine ⟨b, off, (zs.take n).map (BitVec.ofInt 32), by simp; omega, hl, by omega, .inr ⟨rfl, World.block_lt_of_cell? w _ hc⟩, fun i hi => ?_⟩
      have hi' : i < n := by simp at hi; omega
      have hci := hcell i (by omega)
      have hz : zs.getD i 0 = zs[i]'(by omega) := by simp [List.getD, List.getElem?_eq_getElem (show i < zs.length by omega)]
      rw [hz] at hci
      have hw := hwz (zs[i]'(by omega)) (List.getElem_mem _)
      simp only [List.getElem_map, List.getElem_take]
      rw [u32_ofInt hw]
      rcases Nat.eq_zero_or_pos i with rfl | hp
      · simpa [Addr.add] using hci
      · simpa [Addr.add, show i ≠ 0 by omega] using hci
/-- A slice of words. -/
theorem open_wordslice {t e : TypeId} {a : Option Addr} {n cap : Nat} {d : DataW H} {ps : List MemPlace} (ht : P.underlying t = some (.slice e)) (he : P.underlying e = some (.int .u32)) (hc : P.cellsOf e = 1)
    (h : DataW.Trod enc P w base spare held t (.slice a n cap) d ps) :
    ∃ (b o : Nat) (l : List (BitVec 32)), l.length = n ∧ n ≤ cap ∧ n ≤ 9223372036854775807 ∧ (n = 0 ∨ (a = some ⟨b, o, none⟩ ∧ b < w.heap.size)) ∧ U32At w b o l := by
  obtain ⟨fuel, hf⟩ := h
  exact open_u32s ht he hc hf
end
end Go.Proofs.Ytoefaghakjcfcaa
