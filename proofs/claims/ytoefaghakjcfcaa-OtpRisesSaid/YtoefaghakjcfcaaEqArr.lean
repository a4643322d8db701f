/- Arrays of bytes, compared. -/
import Derived.Test.YtoefaghakjcfcaaOpenArgs
import Derived.Stop.BytesEq
namespace Go.Proofs.Ytoefaghakjcfcaa
open Go.RowKit

theorem u8s_stop (l : List (BitVec 8)) : u8s l = (l.map UInt8.ofBitVec).map Extern.Stop.cell := by
  rw [u8s, List.map_map]
  apply List.map_congr_left
  intro x _
  simp [Extern.Stop.cell, U8_eq]
theorem equal_octets (T e : TypeId) (n : Nat) (hT : Try.prog.underlying T = some (.array n e)) (he : Try.prog.underlying e = some (.int .u8)) (hz : (Try.prog.info? e).map (·.size) = some 1)
    (a b : List (BitVec 8)) (ha : a.length = n) (hb : b.length = n) (w : World) :
    (Op.equalIn 10000 T (.agg (u8s a).toArray) (.agg (u8s b).toArray)).run Try.prog w = .ok (decide (a = b)) w := by
  rw [u8s_stop, u8s_stop, run_equalIn_bytes w 9998 T e n hT he (fun w => run_sizeOf' hz w) _ _ (by simpa using ha) (by simpa using hb)]
  congr 1
  rw [Bool.eq_iff_iff, beq_iff_eq, decide_eq_true_iff]
  constructor
  · intro h
    have := congrArg (List.map UInt8.toBitVec) h
    simpa [List.map_map, Function.comp_def] using this
  · rintro rfl; rfl

theorem be4_word4 (a b c d : BitVec 8) : be4 (word4 a b c d) = [a, b, c, d] := by
  have ha := a.isLt; have hb := b.isLt; have hc := c.isLt; have hd := d.isLt
  have hw := word4_toNat a b c d
  simp only [be4]
  have e1 : ((word4 a b c d) >>> 24).setWidth 8 = a := by
    apply BitVec.eq_of_toNat_eq; rw [BitVec.toNat_setWidth, BitVec.toNat_ushiftRight, Nat.shiftRight_eq_div_pow, hw]; omega
  have e2 : ((word4 a b c d) >>> 16).setWidth 8 = b := by
    apply BitVec.eq_of_toNat_eq; rw [BitVec.toNat_setWidth, BitVec.toNat_ushiftRight, Nat.shiftRight_eq_div_pow, hw]; omega
  have e3 : ((word4 a b c d) >>> 8).setWidth 8 = c := by
    apply BitVec.eq_of_toNat_eq; rw [BitVec.toNat_setWidth, BitVec.toNat_ushiftRight, Nat.shiftRight_eq_div_pow, hw]; omega
  have e4 : (word4 a b c d).setWidth 8 = d := by
    apply BitVec.eq_of_toNat_eq; rw [BitVec.toNat_setWidth, hw]; omega
  rw [e1, e2, e3, e4]
theorem wordsOf_back (n : Nat) : ∀ l : List (BitVec 8), l.length = 4 * n → (wordsOf l).flatMap be4 = l := by
  induction n with
  | zero => intro l h; have : l = [] := List.eq_nil_of_length_eq_zero (by omega); subst this; rfl
  | succ n ih =>
    intro l h
    match l, h with
    | a :: b :: c :: d :: r, h =>
      simp only [wordsOf, List.flatMap_cons, be4_word4]
      rw [ih r (by simp at h; omega)]
      rfl
    | [], h => simp at h
    | [_], h => simp at h; omega
    | [_, _], h => simp at h; omega
    | [_, _, _], h => simp at h; omega
end Go.Proofs.Ytoefaghakjcfcaa
