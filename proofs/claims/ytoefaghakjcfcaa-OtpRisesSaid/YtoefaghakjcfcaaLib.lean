/- Small words that the walks share: what a call keeps, slices of whole numbers, bits. -/
import Derived.WalkKit
import Derived.WalkSpells
import Derived.WalkLawsBesides
import Derived.Lib.Hide
namespace Go.Proofs.Ytoefaghakjcfcaa
open Go.RowKit

/-- All blocks but those of S are as they were; the streams too. -/
structure Kept (S : Nat → Prop) (w w' : World) : Prop where
  os : w'.os = w.os
  tape : w'.tape = w.tape
  output : w'.output = w.output
  size : w.heap.size ≤ w'.heap.size
  block : ∀ k, k < w.heap.size → ¬ S k → w'.heap[k]? = w.heap[k]?

theorem Kept.refl (S : Nat → Prop) (w : World) : Kept S w w := ⟨rfl, rfl, rfl, Nat.le_refl _, fun _ _ _ => rfl⟩
theorem Kept.trans {S : Nat → Prop} {a b c : World} (h : Kept S a b) (k : Kept S b c) : Kept S a c :=
  ⟨k.os.trans h.os, k.tape.trans h.tape, k.output.trans h.output, Nat.le_trans h.size k.size, fun i hi hs => (k.block i (Nat.lt_of_lt_of_le hi h.size) hs).trans (h.block i hi hs)⟩
theorem Kept.mono {S S' : Nat → Prop} {w w' : World} (h : Kept S w w') (hs : ∀ k, S k → S' k) : Kept S' w w' :=
  ⟨h.os, h.tape, h.output, h.size, fun k hk hn => h.block k hk (fun e => hn (hs k e))⟩
theorem Kept.of_below {S : Nat → Prop} {w w' : World} (h : Below w.heap.size w w') : Kept S w w' :=
  ⟨h.os, h.tape, h.output, h.size, fun k hk _ => h.block k hk⟩
theorem Kept.below {w w' : World} (h : Kept (fun _ => False) w w') : Below w.heap.size w w' :=
  ⟨h.os, h.tape, h.output, h.size, fun k hk => h.block k hk (fun e => e)⟩
theorem Kept.drew {S : Nat → Prop} {a w : World} (h : Kept S a w) : Kept S a w.drew := ⟨h.os, h.tape, h.output, h.size, h.block⟩
theorem Kept.alloc {S : Nat → Prop} {a w : World} (h : Kept S a w) (o : Obj) : Kept S a (w.alloc o) :=
  h.trans (Kept.of_below ((Below.refl _ _).alloc (Nat.le_refl _) o))
theorem Kept.setCell {S : Nat → Prop} {a w : World} (h : Kept S a w) {p : Addr} (hp : S p.block ∨ a.heap.size ≤ p.block) (u : Value) : Kept S a (w.setCell p u) :=
  ⟨h.os, h.tape, h.output, by have := h.size; simp [World.setCell]; omega, fun k hk hn => by
    rw [Below.heap_setCell _ _ _ _ (fun e => by rcases hp with hp | hp; · exact hn (e ▸ hp)
                                                · omega)]
    exact h.block k hk hn⟩

theorem below_drewN {B : Nat} {a w : World} (h : Below B a w) (n : Nat) : Below B a (w.drewN n) := ⟨h.os, h.tape, h.output, h.size, h.block⟩
theorem Kept.drewN {S : Nat → Prop} {a w : World} (h : Kept S a w) (n : Nat) : Kept S a (w.drewN n) := ⟨h.os, h.tape, h.output, h.size, h.block⟩
theorem Kept.set1 (w : World) (b i : Nat) (v : Value) : Kept (· = b) w (w.setCell ⟨b, i, none⟩ v) := (Kept.refl (· = b) w).setCell (p := ⟨b, i, none⟩) (.inl rfl) v
/-- A block's cells. -/
def Blk (w : World) (b : Nat) (T : TypeId) (cs : List Value) : Prop := w.heap[b]? = some (.cells cs.toArray T (0, 0))
theorem Blk.lt {w : World} {b : Nat} {T : TypeId} {cs : List Value} (h : Blk w b T cs) : b < w.heap.size := (Array.getElem?_eq_some_iff.1 h).1
theorem Blk.cell {w : World} {b : Nat} {T : TypeId} {cs : List Value} (h : Blk w b T cs) (i : Nat) : w.cell? ⟨b, i, none⟩ = cs[i]? := by
  simp [World.cell?, (show w.heap[b]? = _ from h)]
theorem Blk.free {w : World} {b : Nat} {T : TypeId} {cs : List Value} (h : Blk w b T cs) (i : Nat) : w.frozen? ⟨b, i, none⟩ = false := by
  simp [World.frozen?, (show w.heap[b]? = _ from h)]
theorem Blk.set {w : World} {b : Nat} {T : TypeId} {cs : List Value} (h : Blk w b T cs) (i : Nat) (v : Value) : Blk (w.setCell ⟨b, i, none⟩ v) b T (cs.set i v) := by
  simp [Blk, World.setCell, Array.getElem?_modify, (show w.heap[b]? = _ from h)]
theorem Blk.other {w : World} {b : Nat} {T : TypeId} {cs : List Value} (h : Blk w b T cs) {a : Addr} (ha : a.block ≠ b) (v : Value) : Blk (w.setCell a v) b T cs := by
  unfold Blk; rw [Below.heap_setCell _ _ _ _ (fun e => ha e.symm)]; exact h
theorem Blk.alloc {w : World} {b : Nat} {T : TypeId} {cs : List Value} (h : Blk w b T cs) (o : Obj) : Blk (w.alloc o) b T cs := by
  unfold Blk; rw [Below.heap_alloc _ _ _ h.lt]; exact h
theorem Blk.drew {w : World} {b : Nat} {T : TypeId} {cs : List Value} (h : Blk w b T cs) : Blk w.drew b T cs := h
theorem Blk.kept {S : Nat → Prop} {w w' : World} {b : Nat} {T : TypeId} {cs : List Value} (h : Blk w b T cs) (k : Kept S w w') (hs : ¬ S b) : Blk w' b T cs := by
  unfold Blk; rw [k.block b h.lt hs]; exact h
theorem Blk.below {B : Nat} {w w' : World} {b : Nat} {T : TypeId} {cs : List Value} (h : Blk w b T cs) (k : Below B w w') (hs : b < B) : Blk w' b T cs := by
  unfold Blk; rw [k.block b hs]; exact h
theorem Blk.new (w : World) (T : TypeId) (cs : List Value) : Blk (w.alloc (.cells cs.toArray T)) w.heap.size T cs := heap_alloc_new w _

-- WORDS AND BYTES AS BIT VECTORS: 'U32 x' is the number that x is; it isn't opened by the walk.
@[irreducible] def U32 (x : BitVec 32) : Int := (x.toNat : Int)
@[irreducible] def U8 (x : BitVec 8) : Int := (x.toNat : Int)
@[irreducible] def U64 (x : BitVec 64) : Int := (x.toNat : Int)
theorem U32_eq (x : BitVec 32) : U32 x = (x.toNat : Int) := by unfold U32; rfl
theorem U8_eq (x : BitVec 8) : U8 x = (x.toNat : Int) := by unfold U8; rfl
theorem U64_eq (x : BitVec 64) : U64 x = (x.toNat : Int) := by unfold U64; rfl
@[simp, go_sem] theorem ofInt_U32 (x : BitVec 32) : BitVec.ofInt 32 (U32 x) = x := by rw [U32_eq, BitVec.ofInt_natCast, BitVec.ofNat_toNat, BitVec.setWidth_eq]
@[simp, go_sem] theorem ofInt_U8 (x : BitVec 8) : BitVec.ofInt 8 (U8 x) = x := by rw [U8_eq, BitVec.ofInt_natCast, BitVec.ofNat_toNat, BitVec.setWidth_eq]
@[simp, go_sem] theorem ofInt_U64 (x : BitVec 64) : BitVec.ofInt 64 (U64 x) = x := by rw [U64_eq, BitVec.ofInt_natCast, BitVec.ofNat_toNat, BitVec.setWidth_eq]
theorem U32_inj {x y : BitVec 32} : U32 x = U32 y ↔ x = y := ⟨fun h => by rw [← ofInt_U32 x, h, ofInt_U32], fun h => by rw [h]⟩
theorem U8_inj {x y : BitVec 8} : U8 x = U8 y ↔ x = y := ⟨fun h => by rw [← ofInt_U8 x, h, ofInt_U8], fun h => by rw [h]⟩
theorem U64_inj {x y : BitVec 64} : U64 x = U64 y ↔ x = y := ⟨fun h => by rw [← ofInt_U64 x, h, ofInt_U64], fun h => by rw [h]⟩
theorem wrap_u32_bv (n : Int) : IntKind.u32.wrap n = U32 (BitVec.ofInt 32 n) := by
  rw [U32_eq, BitVec.toNat_ofInt, IntKind.wrap_u32]; exact (Int.toNat_of_nonneg (Int.emod_nonneg _ (by decide))).symm
theorem wrap_u8_bv (n : Int) : IntKind.u8.wrap n = U8 (BitVec.ofInt 8 n) := by
  rw [U8_eq, BitVec.toNat_ofInt, IntKind.wrap_u8]; exact (Int.toNat_of_nonneg (Int.emod_nonneg _ (by decide))).symm
theorem wrap_u64_bv (n : Int) : IntKind.u64.wrap n = U64 (BitVec.ofInt 64 n) := by
  rw [U64_eq, BitVec.toNat_ofInt, IntKind.wrap_u64]; exact (Int.toNat_of_nonneg (Int.emod_nonneg _ (by decide))).symm
theorem ofInt_toNat {n : Nat} (x : BitVec n) : BitVec.ofInt n (x.toNat : Int) = x := by rw [BitVec.ofInt_natCast, BitVec.ofNat_toNat, BitVec.setWidth_eq]
theorem U32_toNat (x : BitVec 32) : (U32 x).toNat = x.toNat := by rw [U32_eq, Int.toNat_natCast]
theorem U8_toNat (x : BitVec 8) : (U8 x).toNat = x.toNat := by rw [U8_eq, Int.toNat_natCast]
theorem U64_toNat (x : BitVec 64) : (U64 x).toNat = x.toNat := by rw [U64_eq, Int.toNat_natCast]
theorem ofInt_sub' (n : Nat) (a b : Int) : BitVec.ofInt n (a - b) = BitVec.ofInt n a - BitVec.ofInt n b := by
  rw [Int.sub_eq_add_neg, BitVec.ofInt_add, BitVec.ofInt_neg, BitVec.sub_eq_add_neg]
theorem ofInt_mul' (n : Nat) (a b : Int) : BitVec.ofInt n (a * b) = BitVec.ofInt n a * BitVec.ofInt n b := BitVec.ofInt_mul ..
theorem ofInt_shl (n : Nat) (a : Int) (y : Nat) : BitVec.ofInt n (a * 2 ^ min y n) = BitVec.ofInt n a <<< y := by
  rw [BitVec.shiftLeft_eq_mul_twoPow, BitVec.ofInt_mul]
  congr 1
  apply BitVec.eq_of_toNat_eq
  rw [BitVec.toNat_ofInt, BitVec.toNat_twoPow]
  have e : ∀ m, ((2 : Int) ^ m % ((2 ^ n : Nat) : Int)).toNat = 2 ^ m % 2 ^ n := fun m => by
    have : (2 : Int) ^ m = ((2 ^ m : Nat) : Int) := by rw [Int.natCast_pow]; rfl
    rw [this, ← Int.natCast_emod, Int.toNat_natCast]
  rw [e]
  by_cases h : y ≤ n
  · rw [Nat.min_eq_left h]
  · rw [Nat.min_eq_right (by omega), Nat.mod_self, Nat.mod_eq_zero_of_dvd (Nat.pow_dvd_pow 2 (by omega))]
theorem shr_div (n x y : Nat) (hx : x < 2 ^ n) : (x : Int) / 2 ^ min y n = ((x >>> y : Nat) : Int) := by
  have e : ∀ m, (x : Int) / 2 ^ m = ((x / 2 ^ m : Nat) : Int) := fun m => by rw [Int.natCast_ediv, Int.natCast_pow]; rfl
  rw [Nat.shiftRight_eq_div_pow, e]
  congr 1
  by_cases h : y ≤ n
  · rw [Nat.min_eq_left h]
  · rw [Nat.min_eq_right (by omega), Nat.div_eq_of_lt hx, Nat.div_eq_of_lt (Nat.lt_of_lt_of_le hx (Nat.pow_le_pow_right (by decide) (by omega)))]
@[go_sem] theorem u32_and_bv (a b : Int) : bits .and .u32 a b = U32 (BitVec.ofInt 32 a &&& BitVec.ofInt 32 b) := by
  show IntKind.u32.wrap ((BitVec.ofInt 32 a &&& BitVec.ofInt 32 b).toNat : Int) = _
  rw [wrap_u32_bv, ofInt_toNat]
@[go_sem] theorem u32_or_bv (a b : Int) : bits .or .u32 a b = U32 (BitVec.ofInt 32 a ||| BitVec.ofInt 32 b) := by
  show IntKind.u32.wrap ((BitVec.ofInt 32 a ||| BitVec.ofInt 32 b).toNat : Int) = _
  rw [wrap_u32_bv, ofInt_toNat]
@[go_sem] theorem u32_xor_bv (a b : Int) : bits .xor .u32 a b = U32 (BitVec.ofInt 32 a ^^^ BitVec.ofInt 32 b) := by
  show IntKind.u32.wrap ((BitVec.ofInt 32 a ^^^ BitVec.ofInt 32 b).toNat : Int) = _
  rw [wrap_u32_bv, ofInt_toNat]
@[go_sem] theorem u32_andNot_bv (a b : Int) : bits .andNot .u32 a b = U32 (BitVec.ofInt 32 a &&& ~~~BitVec.ofInt 32 b) := by
  show IntKind.u32.wrap ((BitVec.ofInt 32 a &&& ~~~BitVec.ofInt 32 b).toNat : Int) = _
  rw [wrap_u32_bv, ofInt_toNat]
theorem u32_shr_bv (x : BitVec 32) (k : Nat) (h : k ≤ 32) : U32 x / 2 ^ k = U32 (x >>> k) := by
  have := shr_div 32 x.toNat k x.isLt
  rw [Nat.min_eq_left h] at this
  rw [U32_eq, U32_eq, BitVec.toNat_ushiftRight]; exact this
@[go_sem] theorem u32_shr_min (x : BitVec 32) (k : Nat) : U32 x / 2 ^ min k 32 = U32 (x >>> k) := by
  rw [U32_eq, U32_eq, BitVec.toNat_ushiftRight]; exact shr_div 32 x.toNat k x.isLt
@[go_sem] theorem u32_shl_bv (a : Int) (k : Nat) : BitVec.ofInt 32 (a * 2 ^ min k 32) = BitVec.ofInt 32 a <<< k := ofInt_shl 32 a k
theorem u32_shl_le (a : Int) (k : Nat) (h : k ≤ 32) : BitVec.ofInt 32 (a * 2 ^ k) = BitVec.ofInt 32 a <<< k := by rw [← ofInt_shl, Nat.min_eq_left h]
@[go_sem] theorem u32_shr_1 (x : BitVec 32) : U32 x / (2 : Int) = U32 (x >>> 1) := u32_shr_bv x 1 (by decide)
@[go_sem] theorem u32_shl_1 (a : Int) : BitVec.ofInt 32 (a * (2 : Int)) = BitVec.ofInt 32 a <<< 1 := u32_shl_le a 1 (by decide)
@[go_sem] theorem u32_shr_2 (x : BitVec 32) : U32 x / (4 : Int) = U32 (x >>> 2) := u32_shr_bv x 2 (by decide)
@[go_sem] theorem u32_shl_2 (a : Int) : BitVec.ofInt 32 (a * (4 : Int)) = BitVec.ofInt 32 a <<< 2 := u32_shl_le a 2 (by decide)
@[go_sem] theorem u32_shr_3 (x : BitVec 32) : U32 x / (8 : Int) = U32 (x >>> 3) := u32_shr_bv x 3 (by decide)
@[go_sem] theorem u32_shl_3 (a : Int) : BitVec.ofInt 32 (a * (8 : Int)) = BitVec.ofInt 32 a <<< 3 := u32_shl_le a 3 (by decide)
@[go_sem] theorem u32_shr_4 (x : BitVec 32) : U32 x / (16 : Int) = U32 (x >>> 4) := u32_shr_bv x 4 (by decide)
@[go_sem] theorem u32_shl_4 (a : Int) : BitVec.ofInt 32 (a * (16 : Int)) = BitVec.ofInt 32 a <<< 4 := u32_shl_le a 4 (by decide)
@[go_sem] theorem u32_shr_5 (x : BitVec 32) : U32 x / (32 : Int) = U32 (x >>> 5) := u32_shr_bv x 5 (by decide)
@[go_sem] theorem u32_shl_5 (a : Int) : BitVec.ofInt 32 (a * (32 : Int)) = BitVec.ofInt 32 a <<< 5 := u32_shl_le a 5 (by decide)
@[go_sem] theorem u32_shr_6 (x : BitVec 32) : U32 x / (64 : Int) = U32 (x >>> 6) := u32_shr_bv x 6 (by decide)
@[go_sem] theorem u32_shl_6 (a : Int) : BitVec.ofInt 32 (a * (64 : Int)) = BitVec.ofInt 32 a <<< 6 := u32_shl_le a 6 (by decide)
@[go_sem] theorem u32_shr_7 (x : BitVec 32) : U32 x / (128 : Int) = U32 (x >>> 7) := u32_shr_bv x 7 (by decide)
@[go_sem] theorem u32_shl_7 (a : Int) : BitVec.ofInt 32 (a * (128 : Int)) = BitVec.ofInt 32 a <<< 7 := u32_shl_le a 7 (by decide)
@[go_sem] theorem u32_shr_8 (x : BitVec 32) : U32 x / (256 : Int) = U32 (x >>> 8) := u32_shr_bv x 8 (by decide)
@[go_sem] theorem u32_shl_8 (a : Int) : BitVec.ofInt 32 (a * (256 : Int)) = BitVec.ofInt 32 a <<< 8 := u32_shl_le a 8 (by decide)
@[go_sem] theorem u32_shr_9 (x : BitVec 32) : U32 x / (512 : Int) = U32 (x >>> 9) := u32_shr_bv x 9 (by decide)
@[go_sem] theorem u32_shl_9 (a : Int) : BitVec.ofInt 32 (a * (512 : Int)) = BitVec.ofInt 32 a <<< 9 := u32_shl_le a 9 (by decide)
@[go_sem] theorem u32_shr_10 (x : BitVec 32) : U32 x / (1024 : Int) = U32 (x >>> 10) := u32_shr_bv x 10 (by decide)
@[go_sem] theorem u32_shl_10 (a : Int) : BitVec.ofInt 32 (a * (1024 : Int)) = BitVec.ofInt 32 a <<< 10 := u32_shl_le a 10 (by decide)
@[go_sem] theorem u32_shr_11 (x : BitVec 32) : U32 x / (2048 : Int) = U32 (x >>> 11) := u32_shr_bv x 11 (by decide)
@[go_sem] theorem u32_shl_11 (a : Int) : BitVec.ofInt 32 (a * (2048 : Int)) = BitVec.ofInt 32 a <<< 11 := u32_shl_le a 11 (by decide)
@[go_sem] theorem u32_shr_12 (x : BitVec 32) : U32 x / (4096 : Int) = U32 (x >>> 12) := u32_shr_bv x 12 (by decide)
@[go_sem] theorem u32_shl_12 (a : Int) : BitVec.ofInt 32 (a * (4096 : Int)) = BitVec.ofInt 32 a <<< 12 := u32_shl_le a 12 (by decide)
@[go_sem] theorem u32_shr_13 (x : BitVec 32) : U32 x / (8192 : Int) = U32 (x >>> 13) := u32_shr_bv x 13 (by decide)
@[go_sem] theorem u32_shl_13 (a : Int) : BitVec.ofInt 32 (a * (8192 : Int)) = BitVec.ofInt 32 a <<< 13 := u32_shl_le a 13 (by decide)
@[go_sem] theorem u32_shr_14 (x : BitVec 32) : U32 x / (16384 : Int) = U32 (x >>> 14) := u32_shr_bv x 14 (by decide)
@[go_sem] theorem u32_shl_14 (a : Int) : BitVec.ofInt 32 (a * (16384 : Int)) = BitVec.ofInt 32 a <<< 14 := u32_shl_le a 14 (by decide)
@[go_sem] theorem u32_shr_15 (x : BitVec 32) : U32 x / (32768 : Int) = U32 (x >>> 15) := u32_shr_bv x 15 (by decide)
@[go_sem] theorem u32_shl_15 (a : Int) : BitVec.ofInt 32 (a * (32768 : Int)) = BitVec.ofInt 32 a <<< 15 := u32_shl_le a 15 (by decide)
@[go_sem] theorem u32_shr_16 (x : BitVec 32) : U32 x / (65536 : Int) = U32 (x >>> 16) := u32_shr_bv x 16 (by decide)
@[go_sem] theorem u32_shl_16 (a : Int) : BitVec.ofInt 32 (a * (65536 : Int)) = BitVec.ofInt 32 a <<< 16 := u32_shl_le a 16 (by decide)
@[go_sem] theorem u32_shr_17 (x : BitVec 32) : U32 x / (131072 : Int) = U32 (x >>> 17) := u32_shr_bv x 17 (by decide)
@[go_sem] theorem u32_shl_17 (a : Int) : BitVec.ofInt 32 (a * (131072 : Int)) = BitVec.ofInt 32 a <<< 17 := u32_shl_le a 17 (by decide)
@[go_sem] theorem u32_shr_18 (x : BitVec 32) : U32 x / (262144 : Int) = U32 (x >>> 18) := u32_shr_bv x 18 (by decide)
@[go_sem] theorem u32_shl_18 (a : Int) : BitVec.ofInt 32 (a * (262144 : Int)) = BitVec.ofInt 32 a <<< 18 := u32_shl_le a 18 (by decide)
@[go_sem] theorem u32_shr_19 (x : BitVec 32) : U32 x / (524288 : Int) = U32 (x >>> 19) := u32_shr_bv x 19 (by decide)
@[go_sem] theorem u32_shl_19 (a : Int) : BitVec.ofInt 32 (a * (524288 : Int)) = BitVec.ofInt 32 a <<< 19 := u32_shl_le a 19 (by decide)
@[go_sem] theorem u32_shr_20 (x : BitVec 32) : U32 x / (1048576 : Int) = U32 (x >>> 20) := u32_shr_bv x 20 (by decide)
@[go_sem] theorem u32_shl_20 (a : Int) : BitVec.ofInt 32 (a * (1048576 : Int)) = BitVec.ofInt 32 a <<< 20 := u32_shl_le a 20 (by decide)
@[go_sem] theorem u32_shr_21 (x : BitVec 32) : U32 x / (2097152 : Int) = U32 (x >>> 21) := u32_shr_bv x 21 (by decide)
@[go_sem] theorem u32_shl_21 (a : Int) : BitVec.ofInt 32 (a * (2097152 : Int)) = BitVec.ofInt 32 a <<< 21 := u32_shl_le a 21 (by decide)
@[go_sem] theorem u32_shr_22 (x : BitVec 32) : U32 x / (4194304 : Int) = U32 (x >>> 22) := u32_shr_bv x 22 (by decide)
@[go_sem] theorem u32_shl_22 (a : Int) : BitVec.ofInt 32 (a * (4194304 : Int)) = BitVec.ofInt 32 a <<< 22 := u32_shl_le a 22 (by decide)
@[go_sem] theorem u32_shr_23 (x : BitVec 32) : U32 x / (8388608 : Int) = U32 (x >>> 23) := u32_shr_bv x 23 (by decide)
@[go_sem] theorem u32_shl_23 (a : Int) : BitVec.ofInt 32 (a * (8388608 : Int)) = BitVec.ofInt 32 a <<< 23 := u32_shl_le a 23 (by decide)
@[go_sem] theorem u32_shr_24 (x : BitVec 32) : U32 x / (16777216 : Int) = U32 (x >>> 24) := u32_shr_bv x 24 (by decide)
@[go_sem] theorem u32_shl_24 (a : Int) : BitVec.ofInt 32 (a * (16777216 : Int)) = BitVec.ofInt 32 a <<< 24 := u32_shl_le a 24 (by decide)
@[go_sem] theorem u32_shr_25 (x : BitVec 32) : U32 x / (33554432 : Int) = U32 (x >>> 25) := u32_shr_bv x 25 (by decide)
@[go_sem] theorem u32_shl_25 (a : Int) : BitVec.ofInt 32 (a * (33554432 : Int)) = BitVec.ofInt 32 a <<< 25 := u32_shl_le a 25 (by decide)
@[go_sem] theorem u32_shr_26 (x : BitVec 32) : U32 x / (67108864 : Int) = U32 (x >>> 26) := u32_shr_bv x 26 (by decide)
@[go_sem] theorem u32_shl_26 (a : Int) : BitVec.ofInt 32 (a * (67108864 : Int)) = BitVec.ofInt 32 a <<< 26 := u32_shl_le a 26 (by decide)
@[go_sem] theorem u32_shr_27 (x : BitVec 32) : U32 x / (134217728 : Int) = U32 (x >>> 27) := u32_shr_bv x 27 (by decide)
@[go_sem] theorem u32_shl_27 (a : Int) : BitVec.ofInt 32 (a * (134217728 : Int)) = BitVec.ofInt 32 a <<< 27 := u32_shl_le a 27 (by decide)
@[go_sem] theorem u32_shr_28 (x : BitVec 32) : U32 x / (268435456 : Int) = U32 (x >>> 28) := u32_shr_bv x 28 (by decide)
@[go_sem] theorem u32_shl_28 (a : Int) : BitVec.ofInt 32 (a * (268435456 : Int)) = BitVec.ofInt 32 a <<< 28 := u32_shl_le a 28 (by decide)
@[go_sem] theorem u32_shr_29 (x : BitVec 32) : U32 x / (536870912 : Int) = U32 (x >>> 29) := u32_shr_bv x 29 (by decide)
@[go_sem] theorem u32_shl_29 (a : Int) : BitVec.ofInt 32 (a * (536870912 : Int)) = BitVec.ofInt 32 a <<< 29 := u32_shl_le a 29 (by decide)
@[go_sem] theorem u32_shr_30 (x : BitVec 32) : U32 x / (1073741824 : Int) = U32 (x >>> 30) := u32_shr_bv x 30 (by decide)
@[go_sem] theorem u32_shl_30 (a : Int) : BitVec.ofInt 32 (a * (1073741824 : Int)) = BitVec.ofInt 32 a <<< 30 := u32_shl_le a 30 (by decide)
@[go_sem] theorem u32_shr_31 (x : BitVec 32) : U32 x / (2147483648 : Int) = U32 (x >>> 31) := u32_shr_bv x 31 (by decide)
@[go_sem] theorem u32_shl_31 (a : Int) : BitVec.ofInt 32 (a * (2147483648 : Int)) = BitVec.ofInt 32 a <<< 31 := u32_shl_le a 31 (by decide)
@[go_sem] theorem u32_beq_bv (x y : BitVec 32) : (U32 x == U32 y) = (x == y) := by rw [Bool.eq_iff_iff, beq_iff_eq, beq_iff_eq, U32_inj]
@[go_sem] theorem u32_bne_bv (x y : BitVec 32) : (U32 x != U32 y) = (x != y) := by rw [Bool.eq_iff_iff, bne_iff_ne, bne_iff_ne, ne_eq, ne_eq, U32_inj]
theorem U32_bd (x : BitVec 32) : 0 ≤ U32 x ∧ U32 x < 4294967296 := by rw [U32_eq]; have := x.isLt; omega
@[go_sem] theorem u8_and_bv (a b : Int) : bits .and .u8 a b = U8 (BitVec.ofInt 8 a &&& BitVec.ofInt 8 b) := by
  show IntKind.u8.wrap ((BitVec.ofInt 8 a &&& BitVec.ofInt 8 b).toNat : Int) = _
  rw [wrap_u8_bv, ofInt_toNat]
@[go_sem] theorem u8_or_bv (a b : Int) : bits .or .u8 a b = U8 (BitVec.ofInt 8 a ||| BitVec.ofInt 8 b) := by
  show IntKind.u8.wrap ((BitVec.ofInt 8 a ||| BitVec.ofInt 8 b).toNat : Int) = _
  rw [wrap_u8_bv, ofInt_toNat]
@[go_sem] theorem u8_xor_bv (a b : Int) : bits .xor .u8 a b = U8 (BitVec.ofInt 8 a ^^^ BitVec.ofInt 8 b) := by
  show IntKind.u8.wrap ((BitVec.ofInt 8 a ^^^ BitVec.ofInt 8 b).toNat : Int) = _
  rw [wrap_u8_bv, ofInt_toNat]
@[go_sem] theorem u8_andNot_bv (a b : Int) : bits .andNot .u8 a b = U8 (BitVec.ofInt 8 a &&& ~~~BitVec.ofInt 8 b) := by
  show IntKind.u8.wrap ((BitVec.ofInt 8 a &&& ~~~BitVec.ofInt 8 b).toNat : Int) = _
  rw [wrap_u8_bv, ofInt_toNat]
theorem u8_shr_bv (x : BitVec 8) (k : Nat) (h : k ≤ 8) : U8 x / 2 ^ k = U8 (x >>> k) := by
  have := shr_div 8 x.toNat k x.isLt
  rw [Nat.min_eq_left h] at this
  rw [U8_eq, U8_eq, BitVec.toNat_ushiftRight]; exact this
@[go_sem] theorem u8_shr_min (x : BitVec 8) (k : Nat) : U8 x / 2 ^ min k 8 = U8 (x >>> k) := by
  rw [U8_eq, U8_eq, BitVec.toNat_ushiftRight]; exact shr_div 8 x.toNat k x.isLt
@[go_sem] theorem u8_shl_bv (a : Int) (k : Nat) : BitVec.ofInt 8 (a * 2 ^ min k 8) = BitVec.ofInt 8 a <<< k := ofInt_shl 8 a k
theorem u8_shl_le (a : Int) (k : Nat) (h : k ≤ 8) : BitVec.ofInt 8 (a * 2 ^ k) = BitVec.ofInt 8 a <<< k := by rw [← ofInt_shl, Nat.min_eq_left h]
@[go_sem] theorem u8_shr_1 (x : BitVec 8) : U8 x / (2 : Int) = U8 (x >>> 1) := u8_shr_bv x 1 (by decide)
@[go_sem] theorem u8_shl_1 (a : Int) : BitVec.ofInt 8 (a * (2 : Int)) = BitVec.ofInt 8 a <<< 1 := u8_shl_le a 1 (by decide)
@[go_sem] theorem u8_shr_2 (x : BitVec 8) : U8 x / (4 : Int) = U8 (x >>> 2) := u8_shr_bv x 2 (by decide)
@[go_sem] theorem u8_shl_2 (a : Int) : BitVec.ofInt 8 (a * (4 : Int)) = BitVec.ofInt 8 a <<< 2 := u8_shl_le a 2 (by decide)
@[go_sem] theorem u8_shr_3 (x : BitVec 8) : U8 x / (8 : Int) = U8 (x >>> 3) := u8_shr_bv x 3 (by decide)
@[go_sem] theorem u8_shl_3 (a : Int) : BitVec.ofInt 8 (a * (8 : Int)) = BitVec.ofInt 8 a <<< 3 := u8_shl_le a 3 (by decide)
@[go_sem] theorem u8_shr_4 (x : BitVec 8) : U8 x / (16 : Int) = U8 (x >>> 4) := u8_shr_bv x 4 (by decide)
@[go_sem] theorem u8_shl_4 (a : Int) : BitVec.ofInt 8 (a * (16 : Int)) = BitVec.ofInt 8 a <<< 4 := u8_shl_le a 4 (by decide)
@[go_sem] theorem u8_shr_5 (x : BitVec 8) : U8 x / (32 : Int) = U8 (x >>> 5) := u8_shr_bv x 5 (by decide)
@[go_sem] theorem u8_shl_5 (a : Int) : BitVec.ofInt 8 (a * (32 : Int)) = BitVec.ofInt 8 a <<< 5 := u8_shl_le a 5 (by decide)
@[go_sem] theorem u8_shr_6 (x : BitVec 8) : U8 x / (64 : Int) = U8 (x >>> 6) := u8_shr_bv x 6 (by decide)
@[go_sem] theorem u8_shl_6 (a : Int) : BitVec.ofInt 8 (a * (64 : Int)) = BitVec.ofInt 8 a <<< 6 := u8_shl_le a 6 (by decide)
@[go_sem] theorem u8_shr_7 (x : BitVec 8) : U8 x / (128 : Int) = U8 (x >>> 7) := u8_shr_bv x 7 (by decide)
@[go_sem] theorem u8_shl_7 (a : Int) : BitVec.ofInt 8 (a * (128 : Int)) = BitVec.ofInt 8 a <<< 7 := u8_shl_le a 7 (by decide)
@[go_sem] theorem u8_beq_bv (x y : BitVec 8) : (U8 x == U8 y) = (x == y) := by rw [Bool.eq_iff_iff, beq_iff_eq, beq_iff_eq, U8_inj]
@[go_sem] theorem u8_bne_bv (x y : BitVec 8) : (U8 x != U8 y) = (x != y) := by rw [Bool.eq_iff_iff, bne_iff_ne, bne_iff_ne, ne_eq, ne_eq, U8_inj]
theorem U8_bd (x : BitVec 8) : 0 ≤ U8 x ∧ U8 x < 256 := by rw [U8_eq]; have := x.isLt; omega
@[go_sem] theorem u64_and_bv (a b : Int) : bits .and .u64 a b = U64 (BitVec.ofInt 64 a &&& BitVec.ofInt 64 b) := by
  show IntKind.u64.wrap ((BitVec.ofInt 64 a &&& BitVec.ofInt 64 b).toNat : Int) = _
  rw [wrap_u64_bv, ofInt_toNat]
@[go_sem] theorem u64_or_bv (a b : Int) : bits .or .u64 a b = U64 (BitVec.ofInt 64 a ||| BitVec.ofInt 64 b) := by
  show IntKind.u64.wrap ((BitVec.ofInt 64 a ||| BitVec.ofInt 64 b).toNat : Int) = _
  rw [wrap_u64_bv, ofInt_toNat]
@[go_sem] theorem u64_xor_bv (a b : Int) : bits .xor .u64 a b = U64 (BitVec.ofInt 64 a ^^^ BitVec.ofInt 64 b) := by
  show IntKind.u64.wrap ((BitVec.ofInt 64 a ^^^ BitVec.ofInt 64 b).toNat : Int) = _
  rw [wrap_u64_bv, ofInt_toNat]
@[go_sem] theorem u64_andNot_bv (a b : Int) : bits .andNot .u64 a b = U64 (BitVec.ofInt 64 a &&& ~~~BitVec.ofInt 64 b) := by
  show IntKind.u64.wrap ((BitVec.ofInt 64 a &&& ~~~BitVec.ofInt 64 b).toNat : Int) = _
  rw [wrap_u64_bv, ofInt_toNat]
theorem u64_shr_bv (x : BitVec 64) (k : Nat) (h : k ≤ 64) : U64 x / 2 ^ k = U64 (x >>> k) := by
  have := shr_div 64 x.toNat k x.isLt
  rw [Nat.min_eq_left h] at this
  rw [U64_eq, U64_eq, BitVec.toNat_ushiftRight]; exact this
@[go_sem] theorem u64_shr_min (x : BitVec 64) (k : Nat) : U64 x / 2 ^ min k 64 = U64 (x >>> k) := by
  rw [U64_eq, U64_eq, BitVec.toNat_ushiftRight]; exact shr_div 64 x.toNat k x.isLt
@[go_sem] theorem u64_shl_bv (a : Int) (k : Nat) : BitVec.ofInt 64 (a * 2 ^ min k 64) = BitVec.ofInt 64 a <<< k := ofInt_shl 64 a k
theorem u64_shl_le (a : Int) (k : Nat) (h : k ≤ 64) : BitVec.ofInt 64 (a * 2 ^ k) = BitVec.ofInt 64 a <<< k := by rw [← ofInt_shl, Nat.min_eq_left h]
@[go_sem] theorem u64_shr_1 (x : BitVec 64) : U64 x / (2 : Int) = U64 (x >>> 1) := u64_shr_bv x 1 (by decide)
@[go_sem] theorem u64_shl_1 (a : Int) : BitVec.ofInt 64 (a * (2 : Int)) = BitVec.ofInt 64 a <<< 1 := u64_shl_le a 1 (by decide)
@[go_sem] theorem u64_shr_2 (x : BitVec 64) : U64 x / (4 : Int) = U64 (x >>> 2) := u64_shr_bv x 2 (by decide)
@[go_sem] theorem u64_shl_2 (a : Int) : BitVec.ofInt 64 (a * (4 : Int)) = BitVec.ofInt 64 a <<< 2 := u64_shl_le a 2 (by decide)
@[go_sem] theorem u64_shr_3 (x : BitVec 64) : U64 x / (8 : Int) = U64 (x >>> 3) := u64_shr_bv x 3 (by decide)
@[go_sem] theorem u64_shl_3 (a : Int) : BitVec.ofInt 64 (a * (8 : Int)) = BitVec.ofInt 64 a <<< 3 := u64_shl_le a 3 (by decide)
@[go_sem] theorem u64_shr_4 (x : BitVec 64) : U64 x / (16 : Int) = U64 (x >>> 4) := u64_shr_bv x 4 (by decide)
@[go_sem] theorem u64_shl_4 (a : Int) : BitVec.ofInt 64 (a * (16 : Int)) = BitVec.ofInt 64 a <<< 4 := u64_shl_le a 4 (by decide)
@[go_sem] theorem u64_shr_5 (x : BitVec 64) : U64 x / (32 : Int) = U64 (x >>> 5) := u64_shr_bv x 5 (by decide)
@[go_sem] theorem u64_shl_5 (a : Int) : BitVec.ofInt 64 (a * (32 : Int)) = BitVec.ofInt 64 a <<< 5 := u64_shl_le a 5 (by decide)
@[go_sem] theorem u64_shr_6 (x : BitVec 64) : U64 x / (64 : Int) = U64 (x >>> 6) := u64_shr_bv x 6 (by decide)
@[go_sem] theorem u64_shl_6 (a : Int) : BitVec.ofInt 64 (a * (64 : Int)) = BitVec.ofInt 64 a <<< 6 := u64_shl_le a 6 (by decide)
@[go_sem] theorem u64_shr_7 (x : BitVec 64) : U64 x / (128 : Int) = U64 (x >>> 7) := u64_shr_bv x 7 (by decide)
@[go_sem] theorem u64_shl_7 (a : Int) : BitVec.ofInt 64 (a * (128 : Int)) = BitVec.ofInt 64 a <<< 7 := u64_shl_le a 7 (by decide)
@[go_sem] theorem u64_shr_8 (x : BitVec 64) : U64 x / (256 : Int) = U64 (x >>> 8) := u64_shr_bv x 8 (by decide)
@[go_sem] theorem u64_shl_8 (a : Int) : BitVec.ofInt 64 (a * (256 : Int)) = BitVec.ofInt 64 a <<< 8 := u64_shl_le a 8 (by decide)
@[go_sem] theorem u64_shr_9 (x : BitVec 64) : U64 x / (512 : Int) = U64 (x >>> 9) := u64_shr_bv x 9 (by decide)
@[go_sem] theorem u64_shl_9 (a : Int) : BitVec.ofInt 64 (a * (512 : Int)) = BitVec.ofInt 64 a <<< 9 := u64_shl_le a 9 (by decide)
@[go_sem] theorem u64_shr_10 (x : BitVec 64) : U64 x / (1024 : Int) = U64 (x >>> 10) := u64_shr_bv x 10 (by decide)
@[go_sem] theorem u64_shl_10 (a : Int) : BitVec.ofInt 64 (a * (1024 : Int)) = BitVec.ofInt 64 a <<< 10 := u64_shl_le a 10 (by decide)
@[go_sem] theorem u64_shr_11 (x : BitVec 64) : U64 x / (2048 : Int) = U64 (x >>> 11) := u64_shr_bv x 11 (by decide)
@[go_sem] theorem u64_shl_11 (a : Int) : BitVec.ofInt 64 (a * (2048 : Int)) = BitVec.ofInt 64 a <<< 11 := u64_shl_le a 11 (by decide)
@[go_sem] theorem u64_shr_12 (x : BitVec 64) : U64 x / (4096 : Int) = U64 (x >>> 12) := u64_shr_bv x 12 (by decide)
@[go_sem] theorem u64_shl_12 (a : Int) : BitVec.ofInt 64 (a * (4096 : Int)) = BitVec.ofInt 64 a <<< 12 := u64_shl_le a 12 (by decide)
@[go_sem] theorem u64_shr_13 (x : BitVec 64) : U64 x / (8192 : Int) = U64 (x >>> 13) := u64_shr_bv x 13 (by decide)
@[go_sem] theorem u64_shl_13 (a : Int) : BitVec.ofInt 64 (a * (8192 : Int)) = BitVec.ofInt 64 a <<< 13 := u64_shl_le a 13 (by decide)
@[go_sem] theorem u64_shr_14 (x : BitVec 64) : U64 x / (16384 : Int) = U64 (x >>> 14) := u64_shr_bv x 14 (by decide)
@[go_sem] theorem u64_shl_14 (a : Int) : BitVec.ofInt 64 (a * (16384 : Int)) = BitVec.ofInt 64 a <<< 14 := u64_shl_le a 14 (by decide)
@[go_sem] theorem u64_shr_15 (x : BitVec 64) : U64 x / (32768 : Int) = U64 (x >>> 15) := u64_shr_bv x 15 (by decide)
@[go_sem] theorem u64_shl_15 (a : Int) : BitVec.ofInt 64 (a * (32768 : Int)) = BitVec.ofInt 64 a <<< 15 := u64_shl_le a 15 (by decide)
@[go_sem] theorem u64_shr_16 (x : BitVec 64) : U64 x / (65536 : Int) = U64 (x >>> 16) := u64_shr_bv x 16 (by decide)
@[go_sem] theorem u64_shl_16 (a : Int) : BitVec.ofInt 64 (a * (65536 : Int)) = BitVec.ofInt 64 a <<< 16 := u64_shl_le a 16 (by decide)
@[go_sem] theorem u64_shr_17 (x : BitVec 64) : U64 x / (131072 : Int) = U64 (x >>> 17) := u64_shr_bv x 17 (by decide)
@[go_sem] theorem u64_shl_17 (a : Int) : BitVec.ofInt 64 (a * (131072 : Int)) = BitVec.ofInt 64 a <<< 17 := u64_shl_le a 17 (by decide)
@[go_sem] theorem u64_shr_18 (x : BitVec 64) : U64 x / (262144 : Int) = U64 (x >>> 18) := u64_shr_bv x 18 (by decide)
@[go_sem] theorem u64_shl_18 (a : Int) : BitVec.ofInt 64 (a * (262144 : Int)) = BitVec.ofInt 64 a <<< 18 := u64_shl_le a 18 (by decide)
@[go_sem] theorem u64_shr_19 (x : BitVec 64) : U64 x / (524288 : Int) = U64 (x >>> 19) := u64_shr_bv x 19 (by decide)
@[go_sem] theorem u64_shl_19 (a : Int) : BitVec.ofInt 64 (a * (524288 : Int)) = BitVec.ofInt 64 a <<< 19 := u64_shl_le a 19 (by decide)
@[go_sem] theorem u64_shr_20 (x : BitVec 64) : U64 x / (1048576 : Int) = U64 (x >>> 20) := u64_shr_bv x 20 (by decide)
@[go_sem] theorem u64_shl_20 (a : Int) : BitVec.ofInt 64 (a * (1048576 : Int)) = BitVec.ofInt 64 a <<< 20 := u64_shl_le a 20 (by decide)
@[go_sem] theorem u64_shr_21 (x : BitVec 64) : U64 x / (2097152 : Int) = U64 (x >>> 21) := u64_shr_bv x 21 (by decide)
@[go_sem] theorem u64_shl_21 (a : Int) : BitVec.ofInt 64 (a * (2097152 : Int)) = BitVec.ofInt 64 a <<< 21 := u64_shl_le a 21 (by decide)
@[go_sem] theorem u64_shr_22 (x : BitVec 64) : U64 x / (4194304 : Int) = U64 (x >>> 22) := u64_shr_bv x 22 (by decide)
@[go_sem] theorem u64_shl_22 (a : Int) : BitVec.ofInt 64 (a * (4194304 : Int)) = BitVec.ofInt 64 a <<< 22 := u64_shl_le a 22 (by decide)
@[go_sem] theorem u64_shr_23 (x : BitVec 64) : U64 x / (8388608 : Int) = U64 (x >>> 23) := u64_shr_bv x 23 (by decide)
@[go_sem] theorem u64_shl_23 (a : Int) : BitVec.ofInt 64 (a * (8388608 : Int)) = BitVec.ofInt 64 a <<< 23 := u64_shl_le a 23 (by decide)
@[go_sem] theorem u64_shr_24 (x : BitVec 64) : U64 x / (16777216 : Int) = U64 (x >>> 24) := u64_shr_bv x 24 (by decide)
@[go_sem] theorem u64_shl_24 (a : Int) : BitVec.ofInt 64 (a * (16777216 : Int)) = BitVec.ofInt 64 a <<< 24 := u64_shl_le a 24 (by decide)
@[go_sem] theorem u64_shr_25 (x : BitVec 64) : U64 x / (33554432 : Int) = U64 (x >>> 25) := u64_shr_bv x 25 (by decide)
@[go_sem] theorem u64_shl_25 (a : Int) : BitVec.ofInt 64 (a * (33554432 : Int)) = BitVec.ofInt 64 a <<< 25 := u64_shl_le a 25 (by decide)
@[go_sem] theorem u64_shr_26 (x : BitVec 64) : U64 x / (67108864 : Int) = U64 (x >>> 26) := u64_shr_bv x 26 (by decide)
@[go_sem] theorem u64_shl_26 (a : Int) : BitVec.ofInt 64 (a * (67108864 : Int)) = BitVec.ofInt 64 a <<< 26 := u64_shl_le a 26 (by decide)
@[go_sem] theorem u64_shr_27 (x : BitVec 64) : U64 x / (134217728 : Int) = U64 (x >>> 27) := u64_shr_bv x 27 (by decide)
@[go_sem] theorem u64_shl_27 (a : Int) : BitVec.ofInt 64 (a * (134217728 : Int)) = BitVec.ofInt 64 a <<< 27 := u64_shl_le a 27 (by decide)
@[go_sem] theorem u64_shr_28 (x : BitVec 64) : U64 x / (268435456 : Int) = U64 (x >>> 28) := u64_shr_bv x 28 (by decide)
@[go_sem] theorem u64_shl_28 (a : Int) : BitVec.ofInt 64 (a * (268435456 : Int)) = BitVec.ofInt 64 a <<< 28 := u64_shl_le a 28 (by decide)
@[go_sem] theorem u64_shr_29 (x : BitVec 64) : U64 x / (536870912 : Int) = U64 (x >>> 29) := u64_shr_bv x 29 (by decide)
@[go_sem] theorem u64_shl_29 (a : Int) : BitVec.ofInt 64 (a * (536870912 : Int)) = BitVec.ofInt 64 a <<< 29 := u64_shl_le a 29 (by decide)
@[go_sem] theorem u64_shr_30 (x : BitVec 64) : U64 x / (1073741824 : Int) = U64 (x >>> 30) := u64_shr_bv x 30 (by decide)
@[go_sem] theorem u64_shl_30 (a : Int) : BitVec.ofInt 64 (a * (1073741824 : Int)) = BitVec.ofInt 64 a <<< 30 := u64_shl_le a 30 (by decide)
@[go_sem] theorem u64_shr_31 (x : BitVec 64) : U64 x / (2147483648 : Int) = U64 (x >>> 31) := u64_shr_bv x 31 (by decide)
@[go_sem] theorem u64_shl_31 (a : Int) : BitVec.ofInt 64 (a * (2147483648 : Int)) = BitVec.ofInt 64 a <<< 31 := u64_shl_le a 31 (by decide)
@[go_sem] theorem u64_shr_32 (x : BitVec 64) : U64 x / (4294967296 : Int) = U64 (x >>> 32) := u64_shr_bv x 32 (by decide)
@[go_sem] theorem u64_shl_32 (a : Int) : BitVec.ofInt 64 (a * (4294967296 : Int)) = BitVec.ofInt 64 a <<< 32 := u64_shl_le a 32 (by decide)
@[go_sem] theorem u64_shr_33 (x : BitVec 64) : U64 x / (8589934592 : Int) = U64 (x >>> 33) := u64_shr_bv x 33 (by decide)
@[go_sem] theorem u64_shl_33 (a : Int) : BitVec.ofInt 64 (a * (8589934592 : Int)) = BitVec.ofInt 64 a <<< 33 := u64_shl_le a 33 (by decide)
@[go_sem] theorem u64_shr_34 (x : BitVec 64) : U64 x / (17179869184 : Int) = U64 (x >>> 34) := u64_shr_bv x 34 (by decide)
@[go_sem] theorem u64_shl_34 (a : Int) : BitVec.ofInt 64 (a * (17179869184 : Int)) = BitVec.ofInt 64 a <<< 34 := u64_shl_le a 34 (by decide)
@[go_sem] theorem u64_shr_35 (x : BitVec 64) : U64 x / (34359738368 : Int) = U64 (x >>> 35) := u64_shr_bv x 35 (by decide)
@[go_sem] theorem u64_shl_35 (a : Int) : BitVec.ofInt 64 (a * (34359738368 : Int)) = BitVec.ofInt 64 a <<< 35 := u64_shl_le a 35 (by decide)
@[go_sem] theorem u64_shr_36 (x : BitVec 64) : U64 x / (68719476736 : Int) = U64 (x >>> 36) := u64_shr_bv x 36 (by decide)
@[go_sem] theorem u64_shl_36 (a : Int) : BitVec.ofInt 64 (a * (68719476736 : Int)) = BitVec.ofInt 64 a <<< 36 := u64_shl_le a 36 (by decide)
@[go_sem] theorem u64_shr_37 (x : BitVec 64) : U64 x / (137438953472 : Int) = U64 (x >>> 37) := u64_shr_bv x 37 (by decide)
@[go_sem] theorem u64_shl_37 (a : Int) : BitVec.ofInt 64 (a * (137438953472 : Int)) = BitVec.ofInt 64 a <<< 37 := u64_shl_le a 37 (by decide)
@[go_sem] theorem u64_shr_38 (x : BitVec 64) : U64 x / (274877906944 : Int) = U64 (x >>> 38) := u64_shr_bv x 38 (by decide)
@[go_sem] theorem u64_shl_38 (a : Int) : BitVec.ofInt 64 (a * (274877906944 : Int)) = BitVec.ofInt 64 a <<< 38 := u64_shl_le a 38 (by decide)
@[go_sem] theorem u64_shr_39 (x : BitVec 64) : U64 x / (549755813888 : Int) = U64 (x >>> 39) := u64_shr_bv x 39 (by decide)
@[go_sem] theorem u64_shl_39 (a : Int) : BitVec.ofInt 64 (a * (549755813888 : Int)) = BitVec.ofInt 64 a <<< 39 := u64_shl_le a 39 (by decide)
@[go_sem] theorem u64_shr_40 (x : BitVec 64) : U64 x / (1099511627776 : Int) = U64 (x >>> 40) := u64_shr_bv x 40 (by decide)
@[go_sem] theorem u64_shl_40 (a : Int) : BitVec.ofInt 64 (a * (1099511627776 : Int)) = BitVec.ofInt 64 a <<< 40 := u64_shl_le a 40 (by decide)
@[go_sem] theorem u64_shr_41 (x : BitVec 64) : U64 x / (2199023255552 : Int) = U64 (x >>> 41) := u64_shr_bv x 41 (by decide)
@[go_sem] theorem u64_shl_41 (a : Int) : BitVec.ofInt 64 (a * (2199023255552 : Int)) = BitVec.ofInt 64 a <<< 41 := u64_shl_le a 41 (by decide)
@[go_sem] theorem u64_shr_42 (x : BitVec 64) : U64 x / (4398046511104 : Int) = U64 (x >>> 42) := u64_shr_bv x 42 (by decide)
@[go_sem] theorem u64_shl_42 (a : Int) : BitVec.ofInt 64 (a * (4398046511104 : Int)) = BitVec.ofInt 64 a <<< 42 := u64_shl_le a 42 (by decide)
@[go_sem] theorem u64_shr_43 (x : BitVec 64) : U64 x / (8796093022208 : Int) = U64 (x >>> 43) := u64_shr_bv x 43 (by decide)
@[go_sem] theorem u64_shl_43 (a : Int) : BitVec.ofInt 64 (a * (8796093022208 : Int)) = BitVec.ofInt 64 a <<< 43 := u64_shl_le a 43 (by decide)
@[go_sem] theorem u64_shr_44 (x : BitVec 64) : U64 x / (17592186044416 : Int) = U64 (x >>> 44) := u64_shr_bv x 44 (by decide)
@[go_sem] theorem u64_shl_44 (a : Int) : BitVec.ofInt 64 (a * (17592186044416 : Int)) = BitVec.ofInt 64 a <<< 44 := u64_shl_le a 44 (by decide)
@[go_sem] theorem u64_shr_45 (x : BitVec 64) : U64 x / (35184372088832 : Int) = U64 (x >>> 45) := u64_shr_bv x 45 (by decide)
@[go_sem] theorem u64_shl_45 (a : Int) : BitVec.ofInt 64 (a * (35184372088832 : Int)) = BitVec.ofInt 64 a <<< 45 := u64_shl_le a 45 (by decide)
@[go_sem] theorem u64_shr_46 (x : BitVec 64) : U64 x / (70368744177664 : Int) = U64 (x >>> 46) := u64_shr_bv x 46 (by decide)
@[go_sem] theorem u64_shl_46 (a : Int) : BitVec.ofInt 64 (a * (70368744177664 : Int)) = BitVec.ofInt 64 a <<< 46 := u64_shl_le a 46 (by decide)
@[go_sem] theorem u64_shr_47 (x : BitVec 64) : U64 x / (140737488355328 : Int) = U64 (x >>> 47) := u64_shr_bv x 47 (by decide)
@[go_sem] theorem u64_shl_47 (a : Int) : BitVec.ofInt 64 (a * (140737488355328 : Int)) = BitVec.ofInt 64 a <<< 47 := u64_shl_le a 47 (by decide)
@[go_sem] theorem u64_shr_48 (x : BitVec 64) : U64 x / (281474976710656 : Int) = U64 (x >>> 48) := u64_shr_bv x 48 (by decide)
@[go_sem] theorem u64_shl_48 (a : Int) : BitVec.ofInt 64 (a * (281474976710656 : Int)) = BitVec.ofInt 64 a <<< 48 := u64_shl_le a 48 (by decide)
@[go_sem] theorem u64_shr_49 (x : BitVec 64) : U64 x / (562949953421312 : Int) = U64 (x >>> 49) := u64_shr_bv x 49 (by decide)
@[go_sem] theorem u64_shl_49 (a : Int) : BitVec.ofInt 64 (a * (562949953421312 : Int)) = BitVec.ofInt 64 a <<< 49 := u64_shl_le a 49 (by decide)
@[go_sem] theorem u64_shr_50 (x : BitVec 64) : U64 x / (1125899906842624 : Int) = U64 (x >>> 50) := u64_shr_bv x 50 (by decide)
@[go_sem] theorem u64_shl_50 (a : Int) : BitVec.ofInt 64 (a * (1125899906842624 : Int)) = BitVec.ofInt 64 a <<< 50 := u64_shl_le a 50 (by decide)
@[go_sem] theorem u64_shr_51 (x : BitVec 64) : U64 x / (2251799813685248 : Int) = U64 (x >>> 51) := u64_shr_bv x 51 (by decide)
@[go_sem] theorem u64_shl_51 (a : Int) : BitVec.ofInt 64 (a * (2251799813685248 : Int)) = BitVec.ofInt 64 a <<< 51 := u64_shl_le a 51 (by decide)
@[go_sem] theorem u64_shr_52 (x : BitVec 64) : U64 x / (4503599627370496 : Int) = U64 (x >>> 52) := u64_shr_bv x 52 (by decide)
@[go_sem] theorem u64_shl_52 (a : Int) : BitVec.ofInt 64 (a * (4503599627370496 : Int)) = BitVec.ofInt 64 a <<< 52 := u64_shl_le a 52 (by decide)
@[go_sem] theorem u64_shr_53 (x : BitVec 64) : U64 x / (9007199254740992 : Int) = U64 (x >>> 53) := u64_shr_bv x 53 (by decide)
@[go_sem] theorem u64_shl_53 (a : Int) : BitVec.ofInt 64 (a * (9007199254740992 : Int)) = BitVec.ofInt 64 a <<< 53 := u64_shl_le a 53 (by decide)
@[go_sem] theorem u64_shr_54 (x : BitVec 64) : U64 x / (18014398509481984 : Int) = U64 (x >>> 54) := u64_shr_bv x 54 (by decide)
@[go_sem] theorem u64_shl_54 (a : Int) : BitVec.ofInt 64 (a * (18014398509481984 : Int)) = BitVec.ofInt 64 a <<< 54 := u64_shl_le a 54 (by decide)
@[go_sem] theorem u64_shr_55 (x : BitVec 64) : U64 x / (36028797018963968 : Int) = U64 (x >>> 55) := u64_shr_bv x 55 (by decide)
@[go_sem] theorem u64_shl_55 (a : Int) : BitVec.ofInt 64 (a * (36028797018963968 : Int)) = BitVec.ofInt 64 a <<< 55 := u64_shl_le a 55 (by decide)
@[go_sem] theorem u64_shr_56 (x : BitVec 64) : U64 x / (72057594037927936 : Int) = U64 (x >>> 56) := u64_shr_bv x 56 (by decide)
@[go_sem] theorem u64_shl_56 (a : Int) : BitVec.ofInt 64 (a * (72057594037927936 : Int)) = BitVec.ofInt 64 a <<< 56 := u64_shl_le a 56 (by decide)
@[go_sem] theorem u64_shr_57 (x : BitVec 64) : U64 x / (144115188075855872 : Int) = U64 (x >>> 57) := u64_shr_bv x 57 (by decide)
@[go_sem] theorem u64_shl_57 (a : Int) : BitVec.ofInt 64 (a * (144115188075855872 : Int)) = BitVec.ofInt 64 a <<< 57 := u64_shl_le a 57 (by decide)
@[go_sem] theorem u64_shr_58 (x : BitVec 64) : U64 x / (288230376151711744 : Int) = U64 (x >>> 58) := u64_shr_bv x 58 (by decide)
@[go_sem] theorem u64_shl_58 (a : Int) : BitVec.ofInt 64 (a * (288230376151711744 : Int)) = BitVec.ofInt 64 a <<< 58 := u64_shl_le a 58 (by decide)
@[go_sem] theorem u64_shr_59 (x : BitVec 64) : U64 x / (576460752303423488 : Int) = U64 (x >>> 59) := u64_shr_bv x 59 (by decide)
@[go_sem] theorem u64_shl_59 (a : Int) : BitVec.ofInt 64 (a * (576460752303423488 : Int)) = BitVec.ofInt 64 a <<< 59 := u64_shl_le a 59 (by decide)
@[go_sem] theorem u64_shr_60 (x : BitVec 64) : U64 x / (1152921504606846976 : Int) = U64 (x >>> 60) := u64_shr_bv x 60 (by decide)
@[go_sem] theorem u64_shl_60 (a : Int) : BitVec.ofInt 64 (a * (1152921504606846976 : Int)) = BitVec.ofInt 64 a <<< 60 := u64_shl_le a 60 (by decide)
@[go_sem] theorem u64_shr_61 (x : BitVec 64) : U64 x / (2305843009213693952 : Int) = U64 (x >>> 61) := u64_shr_bv x 61 (by decide)
@[go_sem] theorem u64_shl_61 (a : Int) : BitVec.ofInt 64 (a * (2305843009213693952 : Int)) = BitVec.ofInt 64 a <<< 61 := u64_shl_le a 61 (by decide)
@[go_sem] theorem u64_shr_62 (x : BitVec 64) : U64 x / (4611686018427387904 : Int) = U64 (x >>> 62) := u64_shr_bv x 62 (by decide)
@[go_sem] theorem u64_shl_62 (a : Int) : BitVec.ofInt 64 (a * (4611686018427387904 : Int)) = BitVec.ofInt 64 a <<< 62 := u64_shl_le a 62 (by decide)
@[go_sem] theorem u64_shr_63 (x : BitVec 64) : U64 x / (9223372036854775808 : Int) = U64 (x >>> 63) := u64_shr_bv x 63 (by decide)
@[go_sem] theorem u64_shl_63 (a : Int) : BitVec.ofInt 64 (a * (9223372036854775808 : Int)) = BitVec.ofInt 64 a <<< 63 := u64_shl_le a 63 (by decide)
@[go_sem] theorem u64_beq_bv (x y : BitVec 64) : (U64 x == U64 y) = (x == y) := by rw [Bool.eq_iff_iff, beq_iff_eq, beq_iff_eq, U64_inj]
@[go_sem] theorem u64_bne_bv (x y : BitVec 64) : (U64 x != U64 y) = (x != y) := by rw [Bool.eq_iff_iff, bne_iff_ne, bne_iff_ne, ne_eq, ne_eq, U64_inj]
theorem U64_bd (x : BitVec 64) : 0 ≤ U64 x ∧ U64 x < 18446744073709551616 := by rw [U64_eq]; have := x.isLt; omega
theorem u32_lit (n : Nat) (h : n < 4294967296) : U32 (BitVec.ofNat 32 n) = (n : Int) := by rw [U32_eq, BitVec.toNat_ofNat, Nat.mod_eq_of_lt h]
@[go_sem] theorem u32_beq_zero (x : BitVec 32) : (U32 x == 0) = (x == 0#32) := by rw [← u32_beq_bv, u32_lit 0 (by decide)]; rfl
@[go_sem] theorem u32_bne_zero (x : BitVec 32) : (U32 x != 0) = (x != 0#32) := by rw [← u32_bne_bv, u32_lit 0 (by decide)]; rfl
theorem u8_lit (n : Nat) (h : n < 256) : U8 (BitVec.ofNat 8 n) = (n : Int) := by rw [U8_eq, BitVec.toNat_ofNat, Nat.mod_eq_of_lt h]
@[go_sem] theorem u8_beq_zero (x : BitVec 8) : (U8 x == 0) = (x == 0#8) := by rw [← u8_beq_bv, u8_lit 0 (by decide)]; rfl
@[go_sem] theorem u8_bne_zero (x : BitVec 8) : (U8 x != 0) = (x != 0#8) := by rw [← u8_bne_bv, u8_lit 0 (by decide)]; rfl
theorem u64_lit (n : Nat) (h : n < 18446744073709551616) : U64 (BitVec.ofNat 64 n) = (n : Int) := by rw [U64_eq, BitVec.toNat_ofNat, Nat.mod_eq_of_lt h]
@[go_sem] theorem u64_beq_zero (x : BitVec 64) : (U64 x == 0) = (x == 0#64) := by rw [← u64_beq_bv, u64_lit 0 (by decide)]; rfl
@[go_sem] theorem u64_bne_zero (x : BitVec 64) : (U64 x != 0) = (x != 0#64) := by rw [← u64_bne_bv, u64_lit 0 (by decide)]; rfl
attribute [go_sem] wrap_u8_bv wrap_u32_bv wrap_u64_bv BitVec.ofInt_add ofInt_sub'
@[simp, go_sem] theorem ofInt32_U8 (x : BitVec 8) : BitVec.ofInt 32 (U8 x) = x.setWidth 32 := by rw [U8_eq, BitVec.ofInt_natCast, BitVec.ofNat_toNat]
@[simp, go_sem] theorem ofInt64_U8 (x : BitVec 8) : BitVec.ofInt 64 (U8 x) = x.setWidth 64 := by rw [U8_eq, BitVec.ofInt_natCast, BitVec.ofNat_toNat]
@[simp, go_sem] theorem ofInt8_U32 (x : BitVec 32) : BitVec.ofInt 8 (U32 x) = x.setWidth 8 := by rw [U32_eq, BitVec.ofInt_natCast, BitVec.ofNat_toNat]
@[simp, go_sem] theorem ofInt64_U32 (x : BitVec 32) : BitVec.ofInt 64 (U32 x) = x.setWidth 64 := by rw [U32_eq, BitVec.ofInt_natCast, BitVec.ofNat_toNat]
@[simp, go_sem] theorem ofInt8_U64 (x : BitVec 64) : BitVec.ofInt 8 (U64 x) = x.setWidth 8 := by rw [U64_eq, BitVec.ofInt_natCast, BitVec.ofNat_toNat]
@[simp, go_sem] theorem ofInt32_U64 (x : BitVec 64) : BitVec.ofInt 32 (U64 x) = x.setWidth 32 := by rw [U64_eq, BitVec.ofInt_natCast, BitVec.ofNat_toNat]
@[go_sem] theorem wrap_i64_U8 (x : BitVec 8) : IntKind.i64.wrap (U8 x) = (x.toNat : Int) := by rw [U8_eq]; have := x.isLt; simp [IntKind.wrap, IntKind.bits, IntKind.signed]; omega
@[go_sem] theorem wrap_i64_U32 (x : BitVec 32) : IntKind.i64.wrap (U32 x) = (x.toNat : Int) := by rw [U32_eq]; have := x.isLt; simp [IntKind.wrap, IntKind.bits, IntKind.signed]; omega
@[go_sem] theorem wrap64_U8 (x : BitVec 8) : wrap64 (U8 x) = (x.toNat : Int) := by rw [U8_eq]; have := x.isLt; unfold wrap64; omega
@[go_sem] theorem wrap64_U32 (x : BitVec 32) : wrap64 (U32 x) = (x.toNat : Int) := by rw [U32_eq]; have := x.isLt; unfold wrap64; omega

theorem U32_zero : U32 0 = 0 := by rw [U32_eq]; rfl
theorem U8_zero : U8 0 = 0 := by rw [U8_eq]; rfl
theorem U64_zero : U64 0 = 0 := by rw [U64_eq]; rfl

theorem ownsRow_below {w w' : World} {B base : Nat} {e : TypeId} {size : Nat} {v : Value} {n : Nat} {xs : List Value} (h : w.ownsRow base e size v n xs) (hb : Below B w w') (hB : w.heap.size ≤ B) : w'.ownsRow base e size v n xs :=
  h.kept (row := none) ⟨hb.os, hb.tape, hb.output, hb.size, fun k hk _ => hb.block k (by omega)⟩ (by cases v.ownBlock <;> simp)
theorem ownsRow_mono {w : World} {base base' : Nat} {e : TypeId} {size : Nat} {v : Value} {n : Nat} {xs : List Value} (h : w.ownsRow base e size v n xs) (hb : base' ≤ base) : w.ownsRow base' e size v n xs := by
  refine ⟨h.1, ?_⟩
  rcases h.2 with h2 | ⟨g, cap, cur, h1, h2, h3⟩
  · exact .inl h2
  · exact .inr ⟨g, cap, cur, h1, Nat.le_trans hb h2, h3⟩

theorem cell_two_new' (w : World) (x y : Value) (t : TypeId) (n : Nat) (h : n = w.heap.size) (j : Nat) (u : Value) (hj : [x, y][j]? = some u) : (w.alloc (.cells #[x, y] t)).cell? ((⟨n, 0, none⟩ : Addr).add j) = some u := by
  subst h
  have hadd : (⟨w.heap.size, 0, none⟩ : Addr).add j = ⟨w.heap.size, j, none⟩ := by unfold Addr.add; split <;> simp_all
  rw [hadd, World.cell?_alloc_at _ _ _ _ rfl]
  simpa using hj

theorem cell_one_new' (w : World) (x : Value) (t : TypeId) (n : Nat) (h : n = w.heap.size) (j : Nat) (u : Value) (hj : [x][j]? = some u) : (w.alloc (.cells #[x] t)).cell? ((⟨n, 0, none⟩ : Addr).add j) = some u := by
  subst h; exact cell_one_new w x t j u hj

end Go.Proofs.Ytoefaghakjcfcaa
