/- The walks of fuse.Of and otp.Of. -/
import Derived.Test.YtoefaghakjcfcaaOtp6
namespace Go.Proofs.Ytoefaghakjcfcaa
open Go.RowKit

theorem Below.put {B : Nat} {S : Nat → Prop} {a w w' : World} (h : Below B a w) (k : Kept S w w') (hs : ∀ j, S j → B ≤ j) (hB : B ≤ w.heap.size) : Below B a w' :=
  h.trans ⟨k.os, k.tape, k.output, k.size, fun j hj => k.block j (by omega) (fun e => by have := hs j e; omega)⟩

/-- Words as they are, none locked. -/
def offs (l : List (BitVec 32)) : List (BitVec 32 × Bool) := l.map fun x => (x, false)
theorem offs_length (l : List (BitVec 32)) : (offs l).length = l.length := by simp [offs]
theorem vals_offs (l : List (BitVec 32)) : vals (offs l) = l := by simp [vals, offs, Function.comp_def]

set_option maxRecDepth 100000 in
set_option maxHeartbeats 2000000 in
theorem fuse_of (a : Option Addr) (b o n cap : Nat) (l : List (BitVec 32)) (w : World) (hl : l.length = n) (hn : n ≤ 4096) (hb : n = 0 ∨ (a = some ⟨b, o, none⟩ ∧ b < w.heap.size)) (hu : U32At w b o l) :
    Calls Try.prog 49 #[.slice a n cap] w fun e w' =>
      ∃ ba bw, e = .returned (.tuple #[.pointer (some ⟨ba, 0, none⟩), .int .i64 0]) ∧ ArrAt w' ba bw n (offs l) ∧ w.heap.size ≤ ba ∧ w.heap.size ≤ bw ∧ Below w.heap.size w w' := by
  have HL := Lib.hid hl; have HB := Lib.hid hb; have HU := Lib.hid hu
  clear hl hb hu
  go_enter Try.func49, Try.ntmps49
  go_wp2_with fail
  refine (fuse_new n w hn).mono ?_
  rintro e w1 ⟨ba, bw, rfl, ha, h1, h2, hb1⟩
  have hs1 := hb1.size
  have HA := Lib.hid ha; clear ha
  go_wp2_with fail
  go_loopw [19] (fun i wr => ∃ k : Nat, k ≤ n ∧ i = .int .i64 k ∧ ArrAt wr ba bw n ((offs l).take k ++ List.replicate (n - k) (0, false)) ∧ Below w.heap.size w wr) (fun i _ => n - (intOf i).toNat)
  case atStart => exact ⟨0, by omega, rfl, HA.out, hb1⟩
  case round =>
    obtain ⟨k, hk, rfl, hA, hB⟩ := hrel
    by_cases hlt : k < n
    · obtain ⟨rfl, hbl⟩ := HB.out.resolve_left (by omega)
      have hu0 := (HU.out.below hB hbl) k (by rw [HL.out]; exact hlt)
      obtain ⟨x, hx⟩ : ∃ x, l[k]'(by rw [HL.out]; exact hlt) = x := ⟨_, rfl⟩
      rw [hx] at hu0
      have hlen : ((offs l).take k ++ List.replicate (n - k) ((0 : BitVec 32), false)).length = n := by rw [List.length_append, List.length_take, List.length_replicate, offs_length, HL.out]; omega
      have hget : ((offs l).take k ++ List.replicate (n - k) ((0 : BitVec 32), false))[k]? = some (0, false) := fill_get _ _ _ _ (by rw [offs_length]; exact HL.out) hlt
      have hset : ((offs l).take k ++ List.replicate (n - k) ((0 : BitVec 32), false)).set k (x, false) = (offs l).take (k + 1) ++ List.replicate (n - (k + 1)) (0, false) :=
        fill_set _ _ _ _ _ (by rw [offs_length]; exact HL.out) hlt (by rw [offs, List.getElem?_map, List.getElem?_eq_getElem (by rw [HL.out]; exact hlt), hx]; rfl)
      generalize (offs l).take k ++ List.replicate (n - k) ((0 : BitVec 32), false) = Z at *
      have hput := hA.put (i := k) (by omega) x
      have hsnd : (Z[k]'(by omega)).2 = false := by
        rw [List.getElem?_eq_getElem (by omega)] at hget; injection hget with hget; rw [hget]
      rw [hsnd, hset] at hput
      have hc := hA.arr.cell 0
      simp only [List.getElem?_cons_zero] at hc
      have hfv := hA.wrd.free (k * 2)
      have hcv := hA.wrd.cell (k * 2)
      rw [wordCells_v, hget, Option.map_some] at hcv
      have hs := hB.size
      rw [hlen] at hc
      have hbb : Below w.heap.size w (wr.setCell ⟨bw, k * 2, none⟩ (.int .u32 (U32 x))) := Below.put hB (Kept.set1 _ _ _ _) (fun j e => by subst e; exact h2) hs
      have HP := Lib.hid hput; have HBB := Lib.hid hbb
      clear hput hbb hA hget hset hsnd hlen hx
      go_wp2
      go_roundw
      case rel => exact ⟨k + 1, by omega, by go_num, HP.out, HBB.out⟩
      case measure => simp [intOf]; omega
    · have hkn : k = n := by omega
      subst hkn
      rw [Nat.sub_self, List.replicate_zero, List.append_nil, List.take_of_length_le (by rw [offs_length, HL.out]; exact Nat.le_refl _)] at hA
      have HA2 := Lib.hid hA; clear hA
      go_wp2
      go_ret2
      exact ⟨ba, bw, rfl, HA2.out, h1, h2, hB⟩

set_option maxRecDepth 100000 in
set_option maxHeartbeats 1000000 in
theorem otp_of (b o cap : Nat) (l : List (BitVec 32)) (w : World) (hl : l.length = 64) (hb : b < w.heap.size) (hu : U32At w b o l) :
    Calls Try.prog 28 #[.slice (some ⟨b, o, none⟩) 64 cap] w fun e w' =>
      ∃ r : Ref, e = .returned (.tuple #[.pointer (some ⟨r.bc, 0, none⟩), .int .i64 0]) ∧ ChipAt w' r (offs l) false ∧ w.heap.size ≤ r.bc ∧ w.heap.size ≤ r.ba ∧ w.heap.size ≤ r.bw ∧ Below w.heap.size w w' := by
  have HL := Lib.hid hl; clear hl
  go_enter Try.func28, Try.ntmps28
  go_wp2_with fail
  refine (fuse_of _ b o 64 cap l w HL.out (by omega) (.inr ⟨rfl, hb⟩) hu).mono ?_
  rintro e w1 ⟨ba, bw, rfl, ha, h1, h2, hb1⟩
  have HA := Lib.hid ha; clear ha
  go_wp2_with fail
  go_ret2
  have hl1 := HA.out.arr.lt
  have hl2 := HA.out.wrd.lt
  have hs := hb1.size
  refine ⟨⟨w1.heap.size, ba, bw, _⟩, rfl, ⟨Blk.new w1 _ [.pointer (some ⟨ba, 0, none⟩), .bool false], HA.out.below (below_alloc _ _) hl1 hl2, by simp; omega, by simp; omega, by rw [offs_length, HL.out]⟩, by simp; omega, h1, h2, hb1.alloc (by omega) _⟩

set_option maxRecDepth 100000 in
set_option maxHeartbeats 1000000 in
theorem otp_of_arg (a : Option Addr) (n cap : Nat) (w : World) (h : n ≠ 64) :
    Calls Try.prog 28 #[.slice a n cap] w fun e w' => e = .returned (.tuple #[.pointer none, .int .i64 1]) ∧ w' = w := by
  go_enter Try.func28, Try.ntmps28
  go_wp2_with fail
  go_ret2
  exact ⟨rfl, rfl⟩
end Go.Proofs.Ytoefaghakjcfcaa
