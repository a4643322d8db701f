/- The arguments of the laws of otp, opened. -/
import Derived.Test.YtoefaghakjcfcaaOpenAct
import Derived.ChangeOld
namespace Go.Proofs.Ytoefaghakjcfcaa
open Go.ChangeShapes Go.WideShapes Go.ChangeAt Go.RowKit

section
variable {H : Type} {enc : TypeId × Value → H} {w : World} {base : Nat} {spare : Nat → Bool} {held : Bool}
theorem okWide_agg_arr {P : Program} {r : Reach} {b0 : Nat} {t e : TypeId} {n : Nat} {v : Value} (ht : P.underlying t = some (.array n e)) (h : Value.okWide P w r b0 t v) : ∃ cs : Array Value, v = .agg cs := by
  simp only [Value.okWide, ht] at h
  obtain ⟨cs, h1, _⟩ := h
  exact ⟨cs, h1⟩
theorem okWide_agg_struct {P : Program} {r : Reach} {b0 : Nat} {t : TypeId} {fs : Array Field} {v : Value} (ht : P.underlying t = some (.struct fs)) (h : Value.okWide P w r b0 t v) : ∃ cs : Array Value, v = .agg cs := by
  simp only [Value.okWide, ht] at h
  obtain ⟨cs, h1, _⟩ := h
  exact ⟨cs, h1⟩

/-- An array of words of 32 bits. -/
theorem open_words {P : Program} {r : Reach} {b0 : Nat} {t e : TypeId} {n : Nat} {v : Value} {d : DataW H} {ps : List MemPlace} (ht : P.underlying t = some (.array n e)) (he : P.underlying e = some (.int .u32)) (hc : P.cellsOf e = 1) (hn : P.cellsOf t = n)
    (hval : Value.okWide P w r b0 t v) (h : DataW.Trod enc P w base spare held t v d ps) : ∃ l : List (BitVec 32), l.length = n ∧ v = .agg (u32s l).toArray := by
  obtain ⟨cs, rfl⟩ := okWide_agg_arr ht hval
  obtain ⟨fuel, hf⟩ := h
  obtain ⟨zs, hz, hl, hw⟩ := trod_arr_cells ht he hc hn hf
  refine ⟨zs.map (BitVec.ofInt 32), by simpa using hl, ?_⟩
  rw [← u32s_ofInt hw, ← hz]; simp [Value.cells]
/-- An array of bytes. -/
theorem open_octets {P : Program} {r : Reach} {b0 : Nat} {t e : TypeId} {n : Nat} {v : Value} {d : DataW H} {ps : List MemPlace} (ht : P.underlying t = some (.array n e)) (he : P.underlying e = some (.int .u8)) (hc : P.cellsOf e = 1) (hn : P.cellsOf t = n)
    (hval : Value.okWide P w r b0 t v) (h : DataW.Trod enc P w base spare held t v d ps) : ∃ l : List (BitVec 8), l.length = n ∧ v = .agg (u8s l).toArray := by
  obtain ⟨cs, rfl⟩ := okWide_agg_arr ht hval
  obtain ⟨fuel, hf⟩ := h
  obtain ⟨zs, hz, hl, hw⟩ := trod_arr_cells ht he hc hn hf
  refine ⟨zs.map (BitVec.ofInt 8), by simpa using hl, ?_⟩
  rw [← u8s_ofInt hw, ← hz]; simp [Value.cells]
theorem open_act {r : Reach} {b0 : Nat} {v : Value} {d : DataW H} {ps : List MemPlace} (hval : Value.okWide Try.prog w r b0 43 v) (h : DataW.Trod enc Try.prog w base spare held 43 v d ps) :
    ∃ a : Act11, a.Ok ∧ v = .agg (actCells a).toArray := by
  obtain ⟨cs, rfl⟩ := okWide_agg_struct Try.underlying43 hval
  obtain ⟨fuel, hf⟩ := h
  obtain ⟨a, ha, he⟩ := open_act_cells hf
  refine ⟨a, ha, ?_⟩
  rw [← he]; simp [Value.cells]
/-- A slice of bytes. -/
theorem open_bytes {P : Program} {t e : TypeId} {a : Option Addr} {n cap : Nat} {d : DataW H} {ps : List MemPlace} (ht : P.underlying t = some (.slice e)) (he : P.underlying e = some (.int .u8)) (hc : P.cellsOf e = 1)
    (h : DataW.Trod enc P w base spare held t (.slice a n cap) d ps) :
    ∃ (b o : Nat) (l : List (BitVec 8)), l.length = n ∧ n ≤ 9223372036854775807 ∧ (n = 0 ∨ (a = some ⟨b, o, none⟩ ∧ b < w.heap.size)) ∧ U8At w b o l := by
  obtain ⟨fuel, hf⟩ := h
  exact open_u8s ht he hc hf
theorem open_int8 {P : Program} {r : Reach} {b0 : Nat} {t : TypeId} {v : Value} {d : DataW H} {ps : List MemPlace} (ht : P.underlying t = some (.int .u8)) (hval : Value.okWide P w r b0 t v) (hd : DataW.Trod enc P w base spare held t v d ps) :
    ∃ x : BitVec 8, v = .int .u8 (U8 x) := by
  obtain ⟨n, rfl, _, _, hw⟩ := ChangeShapes.open_int ht hval hd
  exact ⟨BitVec.ofInt 8 n, by rw [u8_ofInt hw]⟩
end
end Go.Proofs.Ytoefaghakjcfcaa
