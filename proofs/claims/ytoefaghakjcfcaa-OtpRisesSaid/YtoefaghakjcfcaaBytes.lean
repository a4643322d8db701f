/- Rows of bytes and of words in memory. -/
import Derived.Test.YtoefaghakjcfcaaArr
namespace Go.Proofs.Ytoefaghakjcfcaa
open Go.RowKit

def u8s (l : List (BitVec 8)) : List Value := l.map fun x => .int .u8 (U8 x)
def u32s (l : List (BitVec 32)) : List Value := l.map fun x => .int .u32 (U32 x)
theorem u8s_length (l : List (BitVec 8)) : (u8s l).length = l.length := by simp [u8s]
theorem u32s_length (l : List (BitVec 32)) : (u32s l).length = l.length := by simp [u32s]
theorem u8s_append (a b : List (BitVec 8)) : u8s (a ++ b) = u8s a ++ u8s b := by simp [u8s]
theorem u8s_get (l : List (BitVec 8)) (i : Nat) : (u8s l)[i]? = (l[i]?).map fun x => .int .u8 (U8 x) := by simp [u8s]
theorem u32s_get (l : List (BitVec 32)) (i : Nat) : (u32s l)[i]? = (l[i]?).map fun x => .int .u32 (U32 x) := by simp [u32s]
theorem u8s_one (l : List (BitVec 8)) : ∀ v ∈ u8s l, v.oneCell' = true := by
  intro v hv; simp only [u8s, List.mem_map] at hv; obtain ⟨x, _, rfl⟩ := hv; rfl
theorem u32s_one (l : List (BitVec 32)) : ∀ v ∈ u32s l, v.oneCell' = true := by
  intro v hv; simp only [u32s, List.mem_map] at hv; obtain ⟨x, _, rfl⟩ := hv; rfl
theorem u8s_zero (n : Nat) : u8s (List.replicate n 0) = List.replicate n (.int .u8 0) := by rw [u8s, List.map_replicate, U8_zero]
theorem u32s_zero (n : Nat) : u32s (List.replicate n 0) = List.replicate n (.int .u32 0) := by rw [u32s, List.map_replicate, U32_zero]
theorem u8s_take (l : List (BitVec 8)) (n : Nat) : (u8s l).take n = u8s (l.take n) := by simp [u8s]
theorem u8s_drop (l : List (BitVec 8)) (n : Nat) : (u8s l).drop n = u8s (l.drop n) := by simp [u8s]
theorem u8s_splice (a b : List (BitVec 8)) (n : Nat) : splice (u8s a) n (u8s b) = u8s (splice a n b) := by simp [splice, u8s]

/-- Noughts, written out. -/
def z32 : List Value := [.int .u8 0, .int .u8 0, .int .u8 0, .int .u8 0, .int .u8 0, .int .u8 0, .int .u8 0, .int .u8 0, .int .u8 0, .int .u8 0, .int .u8 0, .int .u8 0, .int .u8 0, .int .u8 0, .int .u8 0, .int .u8 0, .int .u8 0, .int .u8 0, .int .u8 0, .int .u8 0, .int .u8 0, .int .u8 0, .int .u8 0, .int .u8 0, .int .u8 0, .int .u8 0, .int .u8 0, .int .u8 0, .int .u8 0, .int .u8 0, .int .u8 0, .int .u8 0]
def z16 : List Value := [.int .u8 0, .int .u8 0, .int .u8 0, .int .u8 0, .int .u8 0, .int .u8 0, .int .u8 0, .int .u8 0, .int .u8 0, .int .u8 0, .int .u8 0, .int .u8 0, .int .u8 0, .int .u8 0, .int .u8 0, .int .u8 0]
theorem z32_eq : z32 = u8s (List.replicate 32 0) := by rw [u8s_zero]; rfl
theorem z16_eq : z16 = u8s (List.replicate 16 0) := by rw [u8s_zero]; rfl

theorem z32_one : ∀ v ∈ z32, v.oneCell' = true := by rw [z32_eq]; exact u8s_one _
theorem z16_one : ∀ v ∈ z16, v.oneCell' = true := by rw [z16_eq]; exact u8s_one _
theorem splice_z32 : splice z32 0 z32 = u8s (List.replicate 32 0) := by rw [splice_all _ _ rfl, z32_eq]

/-- Rows of bytes, of words, in memory. -/
def U8At (w : World) (b off : Nat) (l : List (BitVec 8)) : Prop := ∀ i (h : i < l.length), w.cell? ⟨b, off + i, none⟩ = some (.int .u8 (U8 l[i]))
def U32At (w : World) (b off : Nat) (l : List (BitVec 32)) : Prop := ∀ i (h : i < l.length), w.cell? ⟨b, off + i, none⟩ = some (.int .u32 (U32 l[i]))
theorem U8At.below {B : Nat} {w w' : World} {b off : Nat} {l : List (BitVec 8)} (h : U8At w b off l) (k : Below B w w') (hb : b < B) : U8At w' b off l :=
  fun i hi => (k.cell (p := ⟨b, off + i, none⟩) hb).trans (h i hi)
theorem U32At.below {B : Nat} {w w' : World} {b off : Nat} {l : List (BitVec 32)} (h : U32At w b off l) (k : Below B w w') (hb : b < B) : U32At w' b off l :=
  fun i hi => (k.cell (p := ⟨b, off + i, none⟩) hb).trans (h i hi)
theorem U8At.kept {S : Nat → Prop} {w w' : World} {b off : Nat} {l : List (BitVec 8)} (h : U8At w b off l) (k : Kept S w w') (hb : b < w.heap.size) (hs : ¬ S b) : U8At w' b off l :=
  fun i hi => by rw [World.cell?_of_block (w := w) (a := ⟨b, off + i, none⟩) (k.block b hb hs)]; exact h i hi
theorem U32At.kept {S : Nat → Prop} {w w' : World} {b off : Nat} {l : List (BitVec 32)} (h : U32At w b off l) (k : Kept S w w') (hb : b < w.heap.size) (hs : ¬ S b) : U32At w' b off l :=
  fun i hi => by rw [World.cell?_of_block (w := w) (a := ⟨b, off + i, none⟩) (k.block b hb hs)]; exact h i hi
theorem U8At.of_blk {w : World} {b : Nat} {T : TypeId} {cs : List Value} (h : Blk w b T cs) (off : Nat) (l : List (BitVec 8)) (hl : ∀ i, i < l.length → cs[off + i]? = (l[i]?).map fun x => .int .u8 (U8 x)) : U8At w b off l :=
  fun i hi => by rw [h.cell, hl i hi, List.getElem?_eq_getElem hi]; rfl
theorem U8At.blk {w : World} {b : Nat} {T : TypeId} {l : List (BitVec 8)} (h : Blk w b T (u8s l)) : U8At w b 0 l := U8At.of_blk h 0 l (fun i _ => by rw [Nat.zero_add, u8s_get])
theorem U32At.blk {w : World} {b : Nat} {T : TypeId} {l : List (BitVec 32)} (h : Blk w b T (u32s l)) : U32At w b 0 l := fun i hi => by
  rw [h.cell, Nat.zero_add, u32s_get, List.getElem?_eq_getElem hi]; rfl
theorem U8At.sub {w : World} {b off : Nat} {l : List (BitVec 8)} (h : U8At w b off l) (lo n : Nat) : U8At w b (off + lo) ((l.drop lo).take n) := fun i hi => by
  simp only [List.length_take, List.length_drop] at hi
  have := h (lo + i) (by omega)
  rw [← Nat.add_assoc] at this
  simpa using this
theorem U32At.sub {w : World} {b off : Nat} {l : List (BitVec 32)} (h : U32At w b off l) (lo n : Nat) : U32At w b (off + lo) ((l.drop lo).take n) := fun i hi => by
  simp only [List.length_take, List.length_drop] at hi
  have := h (lo + i) (by omega)
  rw [← Nat.add_assoc] at this
  simpa using this
theorem U8At.at {w : World} {b off : Nat} {l : List (BitVec 8)} (h : U8At w b off l) {i : Nat} {x : BitVec 8} (hx : l[i]? = some x) : w.cell? ⟨b, off + i, none⟩ = some (.int .u8 (U8 x)) := by
  obtain ⟨hi, hx⟩ := List.getElem?_eq_some_iff.1 hx
  rw [h i hi, hx]
theorem U32At.at {w : World} {b off : Nat} {l : List (BitVec 32)} (h : U32At w b off l) {i : Nat} {x : BitVec 32} (hx : l[i]? = some x) : w.cell? ⟨b, off + i, none⟩ = some (.int .u32 (U32 x)) := by
  obtain ⟨hi, hx⟩ := List.getElem?_eq_some_iff.1 hx
  rw [h i hi, hx]
theorem getD_some {α : Type} {l : List α} {i : Nat} {z x : α} (h : l.getD i z = x) (hi : i < l.length) : l[i]? = some x := by
  rw [List.getD_eq_getElem?_getD, List.getElem?_eq_getElem hi] at h
  rw [List.getElem?_eq_getElem hi]; exact congrArg some h
theorem U8At.get {w : World} {b off : Nat} {l : List (BitVec 8)} (h : U8At w b off l) : ∀ j v, (u8s l)[j]? = some v → w.cell? ⟨b, off + j, none⟩ = some v := fun j v hv => by
  rw [u8s_get] at hv
  cases hl : l[j]? with
  | none => rw [hl] at hv; cases hv
  | some x =>
    obtain ⟨hj, hx⟩ := List.getElem?_eq_some_iff.1 hl
    rw [hl] at hv
    rw [h j hj, hx]; exact hv
theorem U32At.get {w : World} {b off : Nat} {l : List (BitVec 32)} (h : U32At w b off l) : ∀ j v, (u32s l)[j]? = some v → w.cell? ⟨b, off + j, none⟩ = some v := fun j v hv => by
  rw [u32s_get] at hv
  cases hl : l[j]? with
  | none => rw [hl] at hv; cases hv
  | some x =>
    obtain ⟨hj, hx⟩ := List.getElem?_eq_some_iff.1 hl
    rw [hl] at hv
    rw [h j hj, hx]; exact hv
theorem U8At.own {w : World} {base g cap n : Nat} {T : TypeId} {l : List (BitVec 8)} (h : w.ownsRow base T 1 (.slice (some ⟨g, 0, none⟩) n cap) n (u8s l)) : U8At w g 0 l := fun i hi => by
  have hl : l.length = n := by have := h.1; rw [u8s_length] at this; omega
  rw [Nat.zero_add, h.cellAt i (by omega), u8s_get, List.getElem?_eq_getElem hi]; rfl
theorem U32At.own {w : World} {base g cap n : Nat} {T : TypeId} {l : List (BitVec 32)} (h : w.ownsRow base T 1 (.slice (some ⟨g, 0, none⟩) n cap) n (u32s l)) : U32At w g 0 l := fun i hi => by
  have hl : l.length = n := by have := h.1; rw [u32s_length] at this; omega
  rw [Nat.zero_add, h.cellAt i (by omega), u32s_get, List.getElem?_eq_getElem hi]; rfl

/-- Four bytes as a word; a word as four bytes: the highest first. -/
def word4 (a b c d : BitVec 8) : BitVec 32 := a.setWidth 32 <<< 24 ||| b.setWidth 32 <<< 16 ||| c.setWidth 32 <<< 8 ||| d.setWidth 32
def be4 (x : BitVec 32) : List (BitVec 8) := [(x >>> 24).setWidth 8, (x >>> 16).setWidth 8, (x >>> 8).setWidth 8, x.setWidth 8]
theorem word4_be4 (x : BitVec 32) : word4 ((x >>> 24).setWidth 8) ((x >>> 16).setWidth 8) ((x >>> 8).setWidth 8) (x.setWidth 8) = x := by
  apply BitVec.eq_of_getLsbD_eq
  intro i hi
  simp only [word4, BitVec.getLsbD_or, BitVec.getLsbD_shiftLeft, BitVec.getLsbD_setWidth, BitVec.getLsbD_ushiftRight]
  have hh : i < 8 ∨ (8 ≤ i ∧ i < 16) ∨ (16 ≤ i ∧ i < 24) ∨ 24 ≤ i := by omega
  rcases hh with h | ⟨h, h2⟩ | ⟨h, h2⟩ | h
  · simp [h, hi, show i < 24 by omega, show i < 16 by omega]
  · simp [h2, hi, show i < 24 by omega, show ¬ i < 8 by omega, show i - 8 < 8 by omega, show i - 8 < 32 by omega, show 8 + (i - 8) = i by omega]
  · simp [h2, hi, show ¬ i < 16 by omega, show ¬ i < 8 by omega, show i - 16 < 8 by omega, show i - 16 < 32 by omega, show 16 + (i - 16) = i by omega, show ¬ i - 8 < 8 by omega]
  · simp [hi, show ¬ i < 24 by omega, show ¬ i < 16 by omega, show ¬ i < 8 by omega, show i - 24 < 8 by omega, show i - 24 < 32 by omega, show 24 + (i - 24) = i by omega, show ¬ i - 8 < 8 by omega, show ¬ i - 16 < 8 by omega]

end Go.Proofs.Ytoefaghakjcfcaa
