/- An act, opened; words, opened. -/
import Derived.Test.YtoefaghakjcfcaaOpenAgg
import Derived.Test.YtoefaghakjcfcaaLay11
namespace Go.Proofs.Ytoefaghakjcfcaa
open Go.ChangeShapes Go.WideShapes Go.ChangeAt Go.RowKit

structure Act11 where
  op : BitVec 8
  n : Int
  key : List (BitVec 8)
  many : BitVec 8
  torn : Bool
  got : BitVec 32
def actCells (a : Act11) : List Value := .int .u8 (U8 a.op) :: .int .i64 a.n :: (u8s a.key ++ [.int .u8 (U8 a.many), .bool a.torn, .int .u32 (U32 a.got)])
structure Act11.Ok (a : Act11) : Prop where
  key : a.key.length = 32
  lo : -9223372036854775808 ≤ a.n
  hi : a.n ≤ 9223372036854775807
theorem actCells_length {a : Act11} (h : a.Ok) : (actCells a).length = 37 := by simp [actCells, u8s_length, h.key]
theorem actCells_key {a : Act11} (h : a.Ok) : ((actCells a).drop 2).take 32 = u8s a.key := by
  simp only [actCells, List.drop_succ_cons, List.drop_zero]
  rw [List.take_append_of_le_length (by rw [u8s_length, h.key]; omega), List.take_of_length_le (by rw [u8s_length, h.key]; omega)]

section
variable {H : Type} {enc : TypeId × Value → H} {w : World} {base : Nat} {spare : Nat → Bool} {held : Bool}
theorem open_act_cells {cs : List Value} {fuel : Nat} {y : DataW H × List MemPlace} (h : DataW.trod enc Try.prog w base spare held fuel 43 cs = some y) :
    ∃ a : Act11, a.Ok ∧ cs = actCells a := by
  obtain ⟨hl, m, hf⟩ := trod_struct_cells Try.underlying43 h
  have h0 := hf _ (List.mem_of_getElem? (i := 0) rfl)
  have h1 := hf _ (List.mem_of_getElem? (i := 1) rfl)
  have h2 := hf _ (List.mem_of_getElem? (i := 2) rfl)
  have h3 := hf _ (List.mem_of_getElem? (i := 3) rfl)
  have h4 := hf _ (List.mem_of_getElem? (i := 4) rfl)
  have h5 := hf _ (List.mem_of_getElem? (i := 5) rfl)
  obtain ⟨_, h0⟩ := h0
  obtain ⟨_, h1⟩ := h1
  obtain ⟨_, h2⟩ := h2
  obtain ⟨_, h3⟩ := h3
  obtain ⟨_, h4⟩ := h4
  obtain ⟨_, h5⟩ := h5
  obtain ⟨z0, e0, w0⟩ := trod_int_cells Try.underlying5 h0
  obtain ⟨z1, e1, w1⟩ := trod_int_cells Try.underlying3 h1
  obtain ⟨zs, e2, l2, w2⟩ := trod_arr_cells (n := 32) Try.underlying41 Try.underlying5 (by kernel_rfl) (by kernel_rfl) h2
  obtain ⟨z3, e3, w3⟩ := trod_int_cells Try.underlying5 h3
  obtain ⟨z4, e4⟩ := trod_bool_cells Try.underlying4 h4
  obtain ⟨z5, e5, w5⟩ := trod_int_cells Try.underlying36 h5
  rw [show Try.prog.cellsOf 43 = 37 from by kernel_rfl] at hl
  simp only [show Try.prog.cellsOf 5 = 1 from by kernel_rfl, show Try.prog.cellsOf 3 = 1 from by kernel_rfl, show Try.prog.cellsOf 41 = 32 from by kernel_rfl, show Try.prog.cellsOf 4 = 1 from by kernel_rfl, show Try.prog.cellsOf 36 = 1 from by kernel_rfl] at e0 e1 e2 e3 e4 e5
  have b1 := (Lit.wf_int_iff .i64 z1).1 w1
  refine ⟨⟨BitVec.ofInt 8 z0, z1, zs.map (BitVec.ofInt 8), BitVec.ofInt 8 z3, z4, BitVec.ofInt 32 z5⟩, ⟨by simpa using l2, b1.1, b1.2⟩, ?_⟩
  simp only [actCells]
  rw [u8_ofInt w0, u8_ofInt w3, u32_ofInt w5, ← u8s_ofInt w2, ← e2]
  have d : ∀ (l : List Value) (i n : Nat), i + n ≤ l.length → l.drop i = (l.drop i).take n ++ l.drop (i + n) := fun l i n h => by
    rw [← List.drop_drop]; exact (List.take_append_drop n (l.drop i)).symm
  have f0 : (cs.drop 0).take 1 = [.int .u8 z0] := e0
  have f1 : (cs.drop 1).take 1 = [.int .i64 z1] := e1
  have f3 : (cs.drop 34).take 1 = [.int .u8 z3] := e3
  have f4 : (cs.drop 35).take 1 = [.bool z4] := e4
  have f5 : (cs.drop 36).take 1 = [.int .u32 z5] := e5
  have t0 := d cs 0 1 (by omega)
  have t1 := d cs 1 1 (by omega)
  have t2 := d cs 2 32 (by omega)
  have t3 := d cs 34 1 (by omega)
  have t4 := d cs 35 1 (by omega)
  have t5 := d cs 36 1 (by omega)
  have t6 : cs.drop 37 = [] := List.drop_eq_nil_of_le (by omega)
  have g2 : (cs.drop 2).take 32 = (cs.drop 2).take 32 := rfl
  rw [f0, Nat.zero_add, t1, f1, t2, t3, f3, t4, f4, t5, f5, t6, List.drop_zero] at t0
  conv => lhs; rw [t0]
  rfl
end
end Go.Proofs.Ytoefaghakjcfcaa
