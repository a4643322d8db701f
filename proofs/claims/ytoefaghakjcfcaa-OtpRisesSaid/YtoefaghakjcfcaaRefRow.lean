/- The walks of the reference's Bytes and Row. -/
import Derived.Test.YtoefaghakjcfcaaNum
import Derived.Test.YtoefaghakjcfcaaRef11
import Derived.Test.YtoefaghakjcfcaaPlan11
namespace Go.Proofs.Ytoefaghakjcfcaa
open Go.RowKit

set_option maxRecDepth 100000 in
set_option maxHeartbeats 2000000 in
theorem ref_bytes (b o n cap : Nat) (l : List (BitVec 32)) (w : World) (hn : l.length = n) (hn2 : n ≤ 64) (hb : b < w.heap.size) (hu : U32At w b o l) :
    Calls Try.prog 46 #[.slice (some ⟨b, o, none⟩) n cap] w fun e w' => ∃ v, e = .returned v ∧
      w'.ownsRow w.heap.size 5 1 v (4 * n) (u8s (l.flatMap be4)) ∧ Below w.heap.size w w' := by
  obtain ⟨i0, hi, hz0, hz1, hz2⟩ := info_parts Try.infoU8'
  have HI := Lib.hid hi; have HZ0 := Lib.hid hz0; have HZ1 := Lib.hid hz1; have HZ2 := Lib.hid hz2
  have HN := Lib.hid hn; have HU := Lib.hid hu
  clear hi hz0 hz1 hz2 hn hu
  go_enter Try.func46, Try.ntmps46
  go_wp2_with fail
  go_loopw [3, 8] (fun v i wr => ∃ k : Nat, k ≤ n ∧ i = .int .i64 k ∧ wr.ownsRow w.heap.size 5 1 v (4 * k) (u8s ((l.take k).flatMap be4)) ∧ Below w.heap.size w wr) (fun _ i _ => n - (intOf i).toNat)
  case atStart => exact ⟨0, by omega, rfl, World.ownsRow_nil _ _ _ _, Below.refl _ _⟩
  case round =>
    obtain ⟨k, hk, rfl, hown, hbl⟩ := hrel
    have hs := hbl.size
    by_cases hlt : k < n
    · have hu0 := (HU.out.below hbl hb) k (by rw [HN.out]; exact hlt)
      obtain ⟨x, hx⟩ : ∃ x, l[k]'(by rw [HN.out]; exact hlt) = x := ⟨_, rfl⟩
      rw [hx] at hu0
      have hf := flat_take l k x (by rw [List.getElem?_eq_getElem (by rw [HN.out]; exact hlt), hx])
      have HF := Lib.hid hf
      have hcv : IntKind.u64.wrap (U32 x) = ((x.toNat : Nat) : Int) := by rw [IntKind.wrap_u64, U32_eq]; have := x.isLt; omega
      have hUx : U32 x = (x.toNat : Int) := U32_eq x
      have HUX := Lib.hid hUx
      clear hf hx hUx
      have HOWN := Lib.hid hown; clear hown
      go_wp2_with fail
      refine (r1_num x.toNat 4 wr (by have := x.isLt; omega) (by omega)).mono ?_
      rintro e w1 ⟨rfl, hblk, hb1⟩
      rw [numBytes_word] at hblk
      have hB1 : Below w.heap.size w w1 := hbl.trans (hb1.mono hs)
      have hs1 := hB1.size
      have hown1 := ownsRow_below HOWN.out hb1 (Nat.le_refl _)
      have HBLK := Lib.hid hblk; clear hblk
      go_wp2_with (at_builtin; refine wpList_append_own _ rfl _ _ 22 rfl w.heap.size 5 i0 (.int .u8 0) 1 1 Try.underlying22 HI.out HZ0.out HZ1.out HZ2.out rfl (by decide) _ (4 * k) _ rfl hown1 ⟨wr.heap.size, 0, none⟩ 4 4 (u8s (be4 x)) rfl rfl ?c1 ?c2 ?c3 ?c4 ?c5 ?_)
      case c1 => intro j v hv; rw [addr_add, HBLK.out.cell, Nat.zero_add]; exact hv
      case c2 => exact u8s_one _
      case c3 => unfold maxLen; omega
      case c4 => omega
      case c5 => exact hs1
      intro v' w2 hown2 hgrow _
      have hb2 : Below w.heap.size w w2 := hB1.grown hgrow hs1 (fun j hj => (hown1.lt j hj).1)
      have HO2 := Lib.hid hown2
      clear hgrow hown1 hown2
      go_wp2
      go_roundw
      case rel => exact ⟨k + 1, by omega, by go_num, by rw [HF.out, u8s_append, show 4 * (k + 1) = 4 * k + 4 by omega]; exact HO2.out, hb2⟩
      case measure => simp [intOf]; omega
    · go_wp2
      go_ret
      have : k = n := by omega
      subst this
      rw [List.take_of_length_le (by rw [HN.out]; exact Nat.le_refl _)] at hown
      exact ⟨_, rfl, hown, hbl⟩

theorem getD_hid {L : List (BitVec 32)} (hL : L.length = 64) (k : Nat) (hk : k < 64) : L[k]? = some (L.getD k 0) := by
  rw [List.getD_eq_getElem?_getD, List.getElem?_eq_getElem (by omega)]; rfl

set_option maxRecDepth 100000 in
set_option maxHeartbeats 4000000 in
theorem ref_row (b o cap k : Nat) (L : List (BitVec 32)) (w : World) (hcap : 64 ≤ cap) (hk : k < 4) (hL : L.length = 64) (hb : b < w.heap.size) (hu : U32At w b o L) :
    Calls Try.prog 26 #[.slice (some ⟨b, o, none⟩) 64 cap, .int .i64 k] w fun e w' => e = .returned (.tuple #[.agg (u8s (rowOf (offs L) false k).1).toArray, .int .i64 (rowOf (offs L) false k).2]) ∧ Below w.heap.size w w' := by
  rw [rowOf, if_neg (by omega), vals_offs]
  simp only [Int.toNat_natCast]
  obtain ⟨m, hm⟩ : ∃ m, L.getD (35 + 9 * k) 0 = m := ⟨_, rfl⟩
  have hm2 := getD_hid hL (35 + 9 * k) (by omega)
  rw [hm] at hm2 ⊢
  obtain ⟨K, hK⟩ : ∃ K, (L.drop (27 + 9 * k)).take 8 = K := ⟨_, rfl⟩
  rw [hK]
  have hKl : K.length = 8 := by rw [← hK, List.length_take, List.length_drop, hL]; omega
  have hDl : (u8s (K.flatMap be4)).length = 32 := by rw [u8s_length, flat_be4_length, hKl]
  obtain ⟨o1, ho1⟩ : ∃ x, onB m.toNat 1 = x := ⟨_, rfl⟩
  obtain ⟨o0, ho0⟩ : ∃ x, onB m.toNat 0 = x := ⟨_, rfl⟩
  rw [ho1, ho0]
  have HL := Lib.hid hL; have HK := Lib.hid hK; have HKL := Lib.hid hKl; have HDL := Lib.hid hDl; have HO1 := Lib.hid ho1; have HO0 := Lib.hid ho0
  obtain ⟨W1, hW1, b1, b2, hs⟩ := allocs1 w z32 41
  have hu1 := hu.below b2 hb
  have hum := hu1.at hm2
  have huK := (hu1.sub (27 + 9 * k) 8)
  rw [hK] at huK
  have HW1 := Lib.hid hW1; clear hW1
  have hz : (u8s zero32).length = 32 := by rw [u8s_length]; rfl
  have HZ := Lib.hid hz; have HUK := Lib.hid huK
  clear hL hm hm2 hK hKl hDl ho1 ho0 hz hu hu1 huK
  go_enter Try.func26, Try.ntmps26
  go_upto_region 1 with fail
  have e : w.alloc (.cells z32.toArray 41) = W1 := HW1.out
  change Code.wp _ _ _ _ (w.alloc (.cells z32.toArray 41))
  rw [e]
  clear e
  go_wp2_with fail
  refine (ref_on m 1 _ (by omega)).mono ?_
  rintro e w3 ⟨rfl, rfl⟩
  rw [HO1.out]
  cases o1
  · go_wp2_with fail
    refine (ref_on m 0 _ (by omega)).mono ?_
    rintro e w3 ⟨rfl, rfl⟩
    rw [HO0.out]
    cases o0
    · go_wp2_with ((with_reducible refine at_store 41 ?_); refine wpList_store_blk _ 0 rfl z32 rfl _ _ b1 (by kernel_rfl) (by decide) z32_one ?_; intro w5 h5 k5)
      rw [splice_z32] at h5
      refine bodyPost_ret (v := .tuple #[.agg (u8s zero32).toArray, .int .i64 3]) (results_blk_tmp rfl _ _ _ _ _ _ _ rfl rfl h5 Try.underlying41 rfl (by rw [HZ.out]; kernel_rfl)) rfl ⟨rfl, ?_⟩
      exact b2.trans ⟨k5.os, k5.tape, k5.output, k5.size, fun j hj => k5.block j (by omega) (by omega)⟩
    · have hsl := fun wx => run_piece (P := Try.prog) Try.underlying31 (by kernel_rfl : (Try.prog.info? 36).map (·.size) = some 1) b o 64 cap .i64 .i64 (27 + 9 * (k : Int)) (35 + 9 * (k : Int)) (27 + 9 * k) (35 + 9 * k) (by omega) (by omega) (by omega) (by omega) (by omega) wx
      simp only [Nat.mul_one, show 35 + 9 * k - (27 + 9 * k) = 8 by omega] at hsl
      go_wp2_with fail
      refine (ref_bytes b (o + (27 + 9 * k)) 8 _ K W1 HKL.out (by omega) (by have := b2.size; omega) HUK.out).mono ?_
      rintro e w4 ⟨v4, rfl, hown4, hb4⟩
      obtain ⟨a4, g4, cap4, rfl, hcap4, hg4, hcell4⟩ := own_slice hown4
      obtain ⟨rfl, hg4, hg5⟩ := hg4.resolve_left (by omega)
      have hs4 := hb4.size
      have b1'' := b1.below hb4 (by have := b1.lt; omega)
      have HC4 := Lib.hid hcell4; clear hcell4 hown4
      have har := fun (ad : Addr) (c : Nat) wx => run_arrayAt (P := Try.prog) ad 32 c Try.underlying41 (Nat.le_refl _) wx
      go_wp2_with (first
        | ((with_reducible refine at_load 41 ?_); refine wpList_load_cells _ _ (u8s (K.flatMap be4)) rfl _ (fun j v h => by have := HC4.out j v h; simpa only [Nat.zero_add] using this) Try.underlying41 rfl (by rw [HDL.out]; kernel_rfl) ?_)
        | ((with_reducible refine at_store 41 ?_); refine wpList_store_blk _ 0 rfl (u8s (K.flatMap be4)) rfl _ _ b1'' (by rw [HDL.out]; kernel_rfl) (by rw [HDL.out]; decide) (u8s_one _) ?_; intro w5 h5 k5))
      rw [splice_all _ _ (by rw [HDL.out]; rfl)] at h5
      refine bodyPost_ret (v := .tuple #[.agg (u8s (K.flatMap be4)).toArray, .int .i64 0]) (results_blk_tmp rfl _ _ _ _ _ _ _ rfl rfl h5 Try.underlying41 rfl (by rw [HDL.out]; kernel_rfl)) rfl ⟨rfl, ?_⟩
      exact (b2.trans (hb4.mono (by omega))).trans ⟨k5.os, k5.tape, k5.output, k5.size, fun j hj => k5.block j (by omega) (by omega)⟩
  · go_wp2_with ((with_reducible refine at_store 41 ?_); refine wpList_store_blk _ 0 rfl z32 rfl _ _ b1 (by kernel_rfl) (by decide) z32_one ?_; intro w5 h5 k5)
    rw [splice_z32] at h5
    refine bodyPost_ret (v := .tuple #[.agg (u8s zero32).toArray, .int .i64 17]) (results_blk_tmp rfl _ _ _ _ _ _ _ rfl rfl h5 Try.underlying41 rfl (by rw [HZ.out]; kernel_rfl)) rfl ⟨rfl, ?_⟩
    exact b2.trans ⟨k5.os, k5.tape, k5.output, k5.size, fun j hj => k5.block j (by omega) (by omega)⟩
end Go.Proofs.Ytoefaghakjcfcaa
