/- The walks of the reference's words for all layers: Cut, Value, Same. -/
import Derived.Test.YtoefaghakjcfcaaOtp12
namespace Go.Proofs.Ytoefaghakjcfcaa
open Go.RowKit

theorem Try.infoU8' : (Try.prog.info? 5).map (fun i => (i.zero, i.size, i.bytes)) = some (some (.int .u8 0), 1, 1) := by kernel_rfl

set_option maxRecDepth 100000 in
set_option maxHeartbeats 2000000 in
theorem r1_cut (a : Option Addr) (b o n cap m : Nat) (l : List (BitVec 8)) (w : World) (hl : l.length = n) (hn2 : n ≤ 9223372036854775807) (hm : m ≤ 140737488351232) (hb : n = 0 ∨ (a = some ⟨b, o, none⟩ ∧ b < w.heap.size)) (hu : U8At w b o l) :
    Calls Try.prog 16 #[.slice a n cap, .int .i64 m] w fun e w' => ∃ v, e = .returned v ∧
      w'.ownsRow w.heap.size 5 1 v (min m n) (u8s (l.take m)) ∧ Below w.heap.size w w' := by
  obtain ⟨i0, hi, hz0, hz1, hz2⟩ := info_parts Try.infoU8'
  have HI := Lib.hid hi; have HZ0 := Lib.hid hz0; have HZ1 := Lib.hid hz1; have HZ2 := Lib.hid hz2
  have HL := Lib.hid hl; have HB := Lib.hid hb; have HU := Lib.hid hu
  clear hl hb hu hi hz0 hz1 hz2
  go_enter Try.func16, Try.ntmps16
  go_wp2_with fail
  go_loopw [5, 10] (fun v i wr => ∃ k : Nat, k ≤ n ∧ i = .int .i64 k ∧ wr.ownsRow w.heap.size 5 1 v (min m k) (u8s (l.take (min m k))) ∧ Below w.heap.size w wr) (fun _ i _ => n - (intOf i).toNat)
  case atStart => exact ⟨0, by omega, rfl, by rw [Nat.min_zero]; exact World.ownsRow_nil _ _ _ _, Below.refl _ _⟩
  case round =>
    obtain ⟨k, hk, rfl, hown, hB⟩ := hrel
    have hsB := hB.size
    by_cases hlt : k < n
    · obtain ⟨rfl, hbl⟩ := HB.out.resolve_left (by omega)
      have hu0 := (HU.out.below hB hbl) k (by rw [HL.out]; exact hlt)
      obtain ⟨x, hx⟩ : ∃ x, l[k]'(by rw [HL.out]; exact hlt) = x := ⟨_, rfl⟩
      rw [hx] at hu0
      by_cases hkm : k < m
      · have hT : u8s (l.take (k + 1)) = u8s (l.take k) ++ [.int .u8 (U8 x)] := by
          rw [List.take_add_one, List.getElem?_eq_getElem (by rw [HL.out]; exact hlt), hx, u8s_append]; rfl
        rw [Nat.min_eq_right (by omega)] at hown
        have HT := Lib.hid hT; clear hT hx
        go_wp2_with (at_builtin; refine wpList_append_own _ rfl _ _ 22 rfl w.heap.size 5 i0 (.int .u8 0) 1 1 Try.underlying22 HI.out HZ0.out HZ1.out HZ2.out rfl (by decide) _ k _ rfl (hown.alloc _) ⟨wr.heap.size, 0, none⟩ 1 1 [.int .u8 (U8 x)] rfl rfl ?c1 ?c2 ?c3 ?c4 ?c5 ?_)
        case c2 => simp [Value.oneCell']
        case c3 => unfold maxLen; omega
        case c4 => omega
        case c5 => first | omega | (simp; omega)
        intro v' w5 hown5 hgrow _
        have hb5 : Below w.heap.size w w5 := ((hB.alloc hsB _)).grown hgrow (by simp; omega) (fun j hj => (hown.lt j hj).1)
        have HO5 := Lib.hid hown5
        clear hgrow hown hown5
        go_wp2
        go_roundw
        case rel => exact ⟨k + 1, by omega, by go_num, by rw [Nat.min_eq_right (by omega), HT.out]; exact HO5.out, hb5⟩
        case measure => simp [intOf]; omega
      · have HO := Lib.hid hown; clear hown hx
        go_wp2
        go_roundw
        case rel => exact ⟨k + 1, by omega, by go_num, by have := HO.out; rw [Nat.min_eq_left (by omega)] at this ⊢; exact this, hB⟩
        case measure => simp [intOf]; omega
    · have hkn : k = n := by omega
      subst hkn
      have HO := Lib.hid hown; clear hown
      go_wp2
      go_ret
      refine ⟨_, rfl, ?_, hB⟩
      have := HO.out
      by_cases h : m ≤ k
      · rw [Nat.min_eq_left h] at this ⊢; exact this
      · rw [Nat.min_eq_right (by omega)] at this ⊢
        rw [List.take_of_length_le (by rw [HL.out]; exact Nat.le_refl _)] at this
        rw [List.take_of_length_le (by rw [HL.out]; omega)]
        exact this

/-- Bytes as a number. -/
def valB (l : List (BitVec 8)) : BitVec 64 := l.foldl (fun n b => 256 * n + b.setWidth 64) 0
theorem valB_snoc (l : List (BitVec 8)) (x : BitVec 8) : valB (l ++ [x]) = 256 * valB l + x.setWidth 64 := by simp [valB, List.foldl_append]
theorem valB_nil : valB [] = 0 := rfl
theorem word4_toNat (a b c d : BitVec 8) : (word4 a b c d).toNat = a.toNat * 16777216 + b.toNat * 65536 + c.toNat * 256 + d.toNat := by
  have ha := a.isLt; have hb := b.isLt; have hc := c.isLt; have hd := d.isLt
  have e1 : c.toNat <<< 8 ||| d.toNat = c.toNat <<< 8 + d.toNat := (Nat.shiftLeft_add_eq_or_of_lt (by omega) _).symm
  have e2 : b.toNat <<< 16 ||| (c.toNat <<< 8 + d.toNat) = b.toNat <<< 16 + (c.toNat <<< 8 + d.toNat) := (Nat.shiftLeft_add_eq_or_of_lt (by rw [Nat.shiftLeft_eq]; omega) _).symm
  have e3 : a.toNat <<< 24 ||| (b.toNat <<< 16 + (c.toNat <<< 8 + d.toNat)) = a.toNat <<< 24 + (b.toNat <<< 16 + (c.toNat <<< 8 + d.toNat)) := (Nat.shiftLeft_add_eq_or_of_lt (by rw [Nat.shiftLeft_eq, Nat.shiftLeft_eq]; omega) _).symm
  unfold word4
  simp only [BitVec.toNat_or, BitVec.toNat_shiftLeft, BitVec.toNat_setWidth]
  have m0 : ∀ x : Nat, x < 256 → x % 2 ^ 32 = x := fun x h => Nat.mod_eq_of_lt (by omega)
  rw [m0 _ ha, m0 _ hb, m0 _ hc, m0 _ hd]
  have s1 : a.toNat <<< 24 % 2 ^ 32 = a.toNat <<< 24 := Nat.mod_eq_of_lt (by rw [Nat.shiftLeft_eq]; omega)
  have s2 : b.toNat <<< 16 % 2 ^ 32 = b.toNat <<< 16 := Nat.mod_eq_of_lt (by rw [Nat.shiftLeft_eq]; omega)
  have s3 : c.toNat <<< 8 % 2 ^ 32 = c.toNat <<< 8 := Nat.mod_eq_of_lt (by rw [Nat.shiftLeft_eq]; omega)
  rw [s1, s2, s3, Nat.or_assoc, Nat.or_assoc, e1, e2, e3]
  simp only [Nat.shiftLeft_eq]; omega
theorem valB_four (a b c d : BitVec 8) : (valB [a, b, c, d]).setWidth 32 = word4 a b c d := by
  apply BitVec.eq_of_toNat_eq
  have ha := a.isLt; have hb := b.isLt; have hc := c.isLt; have hd := d.isLt
  rw [word4_toNat]
  simp only [valB, List.foldl, BitVec.toNat_setWidth, BitVec.toNat_add, BitVec.toNat_mul, BitVec.toNat_ofNat, BitVec.ofNat_eq_ofNat]
  omega
attribute [irreducible] valB

theorem u64_mul256 (x : BitVec 64) : IntKind.u64.wrap (256 * U64 x) = U64 (256 * x) := by
  rw [wrap_u64_bv, U64_eq, U64_eq, U64_eq]
  simp
  omega
theorem U8At.heap {w w' : World} {b o : Nat} {l : List (BitVec 8)} (h : U8At w b o l) (e : w'.heap = w.heap) : U8At w' b o l := fun i hi => by
  rw [← h i hi]; unfold World.cell?; rw [e]
theorem same_next {l l' : List (BitVec 8)} {k : Nat} (h : l.take k = l'.take k) (h1 : k < l.length) (h2 : k < l'.length) (e : l[k] = l'[k]) : l.take (k + 1) = l'.take (k + 1) := by
  rw [List.take_add_one, List.take_add_one, h, List.getElem?_eq_getElem h1, List.getElem?_eq_getElem h2, e]
set_option maxRecDepth 100000 in
set_option maxHeartbeats 2000000 in
theorem r1_value (a : Option Addr) (b o n cap : Nat) (l : List (BitVec 8)) (w : World) (hl : l.length = n) (hn2 : n ≤ 9223372036854775807) (hb : n = 0 ∨ (a = some ⟨b, o, none⟩ ∧ b < w.heap.size)) (hu : U8At w b o l) :
    Calls Try.prog 23 #[.slice a n cap] w fun e w' => e = .returned (.int .u64 (U64 (valB l))) ∧ w = w' := by
  have HL := Lib.hid hl; have HB := Lib.hid hb; have HU := Lib.hid hu
  clear hl hb hu
  go_enter Try.func23, Try.ntmps23
  go_wp2_with fail
  go_loopw [3, 8] (fun v i wr => ∃ k : Nat, k ≤ n ∧ i = .int .i64 k ∧ v = .int .u64 (U64 (valB (l.take k))) ∧ wr = w) (fun _ i _ => n - (intOf i).toNat)
  case atStart => exact ⟨0, by omega, rfl, by rw [List.take_zero, valB_nil, U64_eq]; rfl, rfl⟩
  case round =>
    obtain ⟨k, hk, rfl, rfl, rfl⟩ := hrel
    by_cases hlt : k < n
    · obtain ⟨rfl, hbl⟩ := HB.out.resolve_left (by omega)
      have hu0 := HU.out k (by rw [HL.out]; exact hlt)
      obtain ⟨x, hx⟩ : ∃ x, l[k]'(by rw [HL.out]; exact hlt) = x := ⟨_, rfl⟩
      rw [hx] at hu0
      have hT : valB (l.take (k + 1)) = 256 * valB (l.take k) + x.setWidth 64 := by
        rw [List.take_add_one, List.getElem?_eq_getElem (by rw [HL.out]; exact hlt), hx]; exact valB_snoc _ _
      have HT := Lib.hid hT; clear hT hx
      generalize valB (l.take k) = vb at *
      have hmul := u64_mul256 vb
      go_wp2
      go_roundw
      case rel => exact ⟨k + 1, by omega, by go_num, by rw [HT.out]; rfl, by first | rfl | trivial⟩
      case measure => simp [intOf]; omega
    · have hkn : k = n := by omega
      subst hkn
      rw [List.take_of_length_le (by rw [HL.out]; exact Nat.le_refl _)]
      go_wp2
      go_ret
      exact ⟨rfl, rfl⟩

set_option maxRecDepth 100000 in
set_option maxHeartbeats 2000000 in
theorem r1_same (a a' : Option Addr) (b o n cap b' o' n' cap' : Nat) (l l' : List (BitVec 8)) (w : World) (hl : l.length = n) (hl' : l'.length = n') (hn2 : n ≤ 9223372036854775807) (hb : n = 0 ∨ a = some ⟨b, o, none⟩) (hb' : n' = 0 ∨ a' = some ⟨b', o', none⟩) (hu : U8At w b o l) (hu' : U8At w b' o' l') :
    Calls Try.prog 33 #[.slice a n cap, .slice a' n' cap'] w fun e w' => e = .returned (.bool (decide (l = l'))) ∧ Below w.heap.size w w' := by
  obtain ⟨R, hR⟩ : ∃ R : Bool, decide (l = l') = R := ⟨_, rfl⟩
  rw [hR]
  have HR := Lib.hid hR; clear hR
  have HL := Lib.hid hl; have HB := Lib.hid hb; have HU := Lib.hid hu; have HL' := Lib.hid hl'; have HB' := Lib.hid hb'; have HU' := Lib.hid hu'
  clear hl hb hu hl' hb' hu'
  by_cases hnn : n = n'
  · subst hnn
    go_enter Try.func33, Try.ntmps33
    go_wp2_with fail
    go_loopw [13] (fun i wr => ∃ k : Nat, k ≤ n ∧ i = .int .i64 k ∧ l.take k = l'.take k ∧ Below w.heap.size w wr ∧ wr.heap = w.heap) (fun i _ => n - (intOf i).toNat)
    case atStart => exact ⟨0, by omega, rfl, rfl, Below.refl _ _, rfl⟩
    case round =>
      obtain ⟨k, hk, rfl, heq, hB, hheap⟩ := hrel
      by_cases hlt : k < n
      · obtain rfl := HB.out.resolve_left (by omega)
        obtain rfl := HB'.out.resolve_left (by omega)
        have hu0 := (HU.out.heap hheap) k (by rw [HL.out]; exact hlt)
        have hu0' := (HU'.out.heap hheap) k (by rw [HL'.out]; exact hlt)
        obtain ⟨x, hx⟩ : ∃ x, l[k]'(by rw [HL.out]; exact hlt) = x := ⟨_, rfl⟩
        obtain ⟨y, hy⟩ : ∃ y, l'[k]'(by rw [HL'.out]; exact hlt) = y := ⟨_, rfl⟩
        rw [hx] at hu0; rw [hy] at hu0'
        have HEQ := Lib.hid heq; have HX := Lib.hid hx; have HY := Lib.hid hy; have HH := Lib.hid hheap
        clear heq hx hy hheap
        by_cases hxy : x = y
        · have hne : (x != y) = false := by rw [hxy]; simp
          have HXY := Lib.hid hxy; clear hxy
          go_wp2_with fail
          go_quiet (fail)
          go_wp2
          go_roundw
          case rel => exact ⟨k + 1, by omega, by go_num, same_next HEQ.out (by rw [HL.out]; exact hlt) (by rw [HL'.out]; exact hlt) (by rw [HX.out, HY.out, HXY.out]), below_drewN hB _, HH.out⟩
          case measure => simp [intOf]; omega
        · have hne : (x != y) = true := by rw [bne_iff_ne]; exact hxy
          have HXY := Lib.hid hxy; clear hxy
          go_wp2_with fail
          go_quiet (fail)
          go_wp2
          go_ret
          rw [← HR.out]
          refine ⟨?_, below_drewN hB _⟩
          rw [decide_eq_false (fun e => HXY.out (by rw [← HX.out, ← HY.out]; simp only [e]))]
          rfl
      · have hkn : k = n := by omega
        subst hkn
        have HEQ := Lib.hid heq; clear heq
        go_wp2
        go_ret
        rw [← HR.out, decide_eq_true]
        · exact ⟨rfl, hB⟩
        · have := HEQ.out
          rwa [List.take_of_length_le (by rw [HL.out]; exact Nat.le_refl _), List.take_of_length_le (by rw [HL'.out]; exact Nat.le_refl _)] at this
  · go_enter Try.func33, Try.ntmps33
    go_wp2_with fail
    go_ret
    rw [← HR.out, decide_eq_false (fun e => hnn (by rw [← HL.out, ← HL'.out, e]))]
    exact ⟨rfl, Below.refl _ _⟩
end Go.Proofs.Ytoefaghakjcfcaa
