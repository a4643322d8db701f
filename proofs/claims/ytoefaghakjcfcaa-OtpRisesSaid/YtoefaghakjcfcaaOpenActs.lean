/- A slice of acts, opened. -/
import Derived.Test.YtoefaghakjcfcaaOpenU32
namespace Go.Proofs.Ytoefaghakjcfcaa
open Go.ChangeShapes Go.WideShapes Go.ChangeAt Go.RowKit

theorem exists_list {α : Type} (n : Nat) (P : Nat → α → Prop) (h : ∀ i, i < n → ∃ a, P i a) : ∃ l : List α, l.length = n ∧ ∀ i (hi : i < l.length), P i l[i] := by
  induction n with
  | zero => exact ⟨[], rfl, fun i hi => absurd hi (by simp)⟩
  | succ n ih =>
    obtain ⟨l, hl, hp⟩ := ih (fun i hi => h i (by omega))
    obtain ⟨a, ha⟩ := h n (by omega)
    refine ⟨l ++ [a], by simp [hl], fun i hi => ?_⟩
    by_cases e : i < l.length
    · rw [List.getElem_append_left e]; exact hp i e
    · have hi' : i = n := by simp at hi; omega
      subst hi'
      rw [List.getElem_append_right (by omega)]
      simpa [hl] using ha

/-- Where acts lie. -/
def ActsAt (w : World) (b o : Nat) (As : List Act11) : Prop := ∀ j (h : j < As.length), ∀ i v, (actCells As[j])[i]? = some v → w.cell? ⟨b, o + j * 37 + i, none⟩ = some v
theorem ActsAt.below {B : Nat} {w w' : World} {b o : Nat} {As : List Act11} (h : ActsAt w b o As) (k : Below B w w') (hb : b < B) : ActsAt w' b o As :=
  fun j hj i v hv => (k.cell (p := ⟨b, o + j * 37 + i, none⟩) hb).trans (h j hj i v hv)

section
variable {H : Type} {enc : TypeId × Value → H} {w : World} {base : Nat} {spare : Nat → Bool} {held : Bool}
theorem open_acts {a : Option Addr} {n cap : Nat} {d : DataW H} {ps : List MemPlace} (h : DataW.Trod enc Try.prog w base spare held 53 (.slice a n cap) d ps) :
    ∃ (b o : Nat) (As : List Act11), As.length = n ∧ n ≤ cap ∧ n ≤ 9223372036854775807 ∧ (∀ j (hj : j < As.length), As[j].Ok) ∧ (n = 0 ∨ (a = some ⟨b, o, none⟩ ∧ b < w.heap.size)) ∧ ActsAt w b o As := by
  obtain ⟨fuel, hf⟩ := h
  rcases DataW.trod_slice Try.underlying53 hf with ⟨hcs, _⟩ | ⟨x, len, c, elems, rest, m, _, hcs, _, hb, hl, hm, hlen, hel, _, _⟩
  · simp [Value.cells] at hcs
    obtain ⟨rfl, rfl, rfl⟩ := hcs
    exact ⟨0, 0, [], rfl, by omega, by omega, fun j hj => absurd hj (by simp), .inl rfl, fun j hj => absurd hj (by simp)⟩
  · simp [Value.cells] at hcs
    obtain ⟨rfl, rfl, rfl⟩ := hcs
    have hm' : cap ≤ 9223372036854775807 := by simpa [maxLen] using hm
    have e37 : Try.prog.cellsOf 43 = 37 := by kernel_rfl
    rw [e37] at hel
    obtain ⟨b, off, spot⟩ := x
    have each : ∀ j, j < n → ∃ A : Act11, A.Ok ∧ (∀ i, i < 37 → w.cell? (((⟨b, off, spot⟩ : Addr).add (j * 37)).add i) = (actCells A)[i]?) := by
      intro j hj
      have := hel j hj
      rw [List.getElem?_eq_getElem (by omega), Option.bind_eq_some_iff] at this
      obtain ⟨cs, hcs, hy⟩ := this
      obtain ⟨A, hA, rfl⟩ := open_act_cells hy
      exact ⟨A, hA, (World.cells?_some hcs).2.2⟩
    by_cases h0 : n = 0
    · subst h0
      exact ⟨0, 0, [], rfl, by omega, by omega, fun j hj => absurd hj (by simp), .inl rfl, fun j hj => absurd hj (by simp)⟩
    · obtain ⟨A0, hA0, hc0⟩ := each 0 (by omega)
      have hc := hc0 0 (by omega)
      have hc' : w.cell? ⟨b, off, spot⟩ = some (.int .u8 (U8 A0.op)) := by simpa [Addr.add, actCells] using hc
      have hspot : spot = none := by simpa using World.cell?_spot hc'
      subst hspot
      obtain ⟨As, hAl, hAs⟩ := exists_list n (fun j (A : Act11) => A.Ok ∧ (∀ i, i < 37 → w.cell? (((⟨b, off, none⟩ : Addr).add (j * 37)).add i) = (actCells A)[i]?)) each
      refine ⟨b, off, As, hAl, hl, by omega, fun j hj => (hAs j hj).1, .inr ⟨rfl, World.block_lt_of_cell? w _ hc'⟩, fun j hj i v hv => ?_⟩
      have hi := (List.getElem?_eq_some_iff.1 hv).1
      rw [actCells_length (hAs j hj).1] at hi
      have := (hAs j hj).2 i hi
      rw [addr_add, addr_add] at this
      rw [this, hv]
end
end Go.Proofs.Ytoefaghakjcfcaa
