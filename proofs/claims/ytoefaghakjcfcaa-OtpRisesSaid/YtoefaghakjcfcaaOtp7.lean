/- The walks of package otp: what is told as bytes. -/
import Derived.Test.YtoefaghakjcfcaaOtp6
import Derived.Test.YtoefaghakjcfcaaSha3
namespace Go.Proofs.Ytoefaghakjcfcaa
open Go.RowKit

theorem flat_take (l : List (BitVec 32)) (k : Nat) (x : BitVec 32) (h : l[k]? = some x) : (l.take (k + 1)).flatMap be4 = (l.take k).flatMap be4 ++ be4 x := by
  rw [List.take_add_one, h]; simp

set_option maxRecDepth 100000 in
set_option maxHeartbeats 2000000 in
theorem otp_octets (b o n cap : Nat) (l : List (BitVec 32)) (w : World) (hn : l.length = n) (hn2 : n ≤ 64) (hb : b < w.heap.size) (hu : U32At w b o l) :
    Calls Try.prog 51 #[.slice (some ⟨b, o, none⟩) n cap] w fun e w' => ∃ v, e = .returned v ∧
      w'.ownsRow w.heap.size 5 1 v (4 * n) (u8s (l.flatMap be4)) ∧ Below w.heap.size w w' := by
  obtain ⟨i0, hi, hz0, hz1, hz2⟩ := info_parts Try.infoU8
  have HI := Lib.hid hi; have HZ0 := Lib.hid hz0; have HZ1 := Lib.hid hz1; have HZ2 := Lib.hid hz2
  have HN := Lib.hid hn; have HU := Lib.hid hu
  clear hi hz0 hz1 hz2 hn hu
  go_enter Try.func51, Try.ntmps51
  go_wp2_with fail
  go_loopw [3, 8] (fun v i wr => ∃ k : Nat, k ≤ n ∧ i = .int .i64 k ∧ wr.ownsRow w.heap.size 5 1 v (4 * k) (u8s ((l.take k).flatMap be4)) ∧ Below w.heap.size w wr) (fun _ i _ => n - (intOf i).toNat)
  case atStart => exact ⟨0, by omega, rfl, World.ownsRow_nil _ _ _ _, Below.refl _ _⟩
  case round =>
    obtain ⟨k, hk, rfl, hown, hbl⟩ := hrel
    have hs := hbl.size
    by_cases hlt : k < n
    · have hu0 := (HU.out.below hbl hb) k (by rw [HN.out]; exact hlt)
      obtain ⟨x, hx⟩ : ∃ x, l[k]'(by rw [HN.out]; exact hlt) = x := ⟨_, rfl⟩
      rw [hx] at hu0
      have hf := flat_take l k x (by rw [List.getElem?_eq_getElem (by rw [HN.out]; exact hlt), hx])
      have HF := Lib.hid hf
      clear hf hx
      go_wp2_with (at_builtin; refine wpList_append_own _ rfl _ _ 22 rfl w.heap.size 5 i0 (.int .u8 0) 1 1 Try.underlying22 HI.out HZ0.out HZ1.out HZ2.out rfl (by decide) _ (4 * k) _ rfl (hown.alloc _) ⟨wr.heap.size, 0, none⟩ 4 4 (u8s (be4 x)) rfl rfl ?c1 ?c2 ?c3 ?c4 ?c5 ?_)
      case c1 => intro j v hv; rw [addr_add, World.cell?_alloc_at _ _ _ _ rfl, Nat.zero_add, List.getElem?_toArray]; exact hv
      case c2 => exact u8s_one _
      case c3 => unfold maxLen; omega
      case c4 => omega
      case c5 => rw [World.size_alloc]; omega
      intro v' w2 hown2 hgrow _
      have hb2 : Below w.heap.size w w2 := (hbl.alloc hs _).grown hgrow (by rw [World.size_alloc]; omega) (fun j hj => (hown.lt j hj).1)
      have HO2 := Lib.hid hown2
      clear hgrow hown hown2
      go_wp2
      go_roundw
      case rel => exact ⟨k + 1, by omega, by go_num, by rw [HF.out, u8s_append, show 4 * (k + 1) = 4 * k + 4 by omega]; exact HO2.out, hb2⟩
      case measure => simp [intOf]; omega
    · go_wp2
      go_ret
      have : k = n := by omega
      subst this
      rw [List.take_of_length_le (by rw [HN.out]; exact Nat.le_refl _)] at hown
      exact ⟨_, rfl, hown, hbl⟩

def keyOf (ws : List (BitVec 32 × Bool)) : List (BitVec 8) := (((vals ws).drop 9).take 14).flatMap be4
def idOf (ws : List (BitVec 32 × Bool)) : List (BitVec 8) := (((vals ws).drop 23).take 4).flatMap be4
theorem keyOf_length (ws : List (BitVec 32 × Bool)) (h : ws.length = 64) : (keyOf ws).length = 56 := by
  rw [keyOf, flat_be4_length, List.length_take, List.length_drop, vals_length, h]; decide
theorem idOf_length (ws : List (BitVec 32 × Bool)) (h : ws.length = 64) : (idOf ws).length = 16 := by
  rw [idOf, flat_be4_length, List.length_take, List.length_drop, vals_length, h]; decide

set_option maxRecDepth 100000 in
set_option maxHeartbeats 1000000 in
theorem otp_key (r : Ref) (ws : List (BitVec 32 × Bool)) (sl : Bool) (w : World) (h : ChipAt w r ws sl) :
    Calls Try.prog 34 #[.pointer (some ⟨r.bc, 0, none⟩)] w fun e w' => ∃ v, e = .returned v ∧ w'.ownsRow w.heap.size 5 1 v 56 (u8s (keyOf ws)) ∧ Below w.heap.size w w' := by
  have hl := h.len
  unfold keyOf
  obtain ⟨L, hL⟩ : ∃ L, vals ws = L := ⟨_, rfl⟩
  have hLl : L.length = 64 := by rw [← hL, vals_length]; exact hl
  rw [hL]
  have HL := Lib.hid hL; have HLL := Lib.hid hLl; clear hL hLl hl
  go_enter Try.func34, Try.ntmps34
  go_wp2_with fail
  refine (otp_all r ws sl _ h).mono ?_
  rintro e w1 ⟨g, cap, rfl, hcap, hg, hg1, hu, hb1⟩
  rw [HL.out] at hu
  have HU := Lib.hid (hu.sub 9 14); clear hu
  go_wp2_with fail
  refine (otp_octets g 9 14 _ ((L.drop 9).take 14) _ (by rw [List.length_take, List.length_drop, HLL.out]; decide) (by omega) hg1 (by have := HU.out; simpa only [Nat.zero_add] using this)).mono ?_
  rintro e w2 ⟨v, rfl, hown, hb2⟩
  go_wp2_with fail
  go_ret
  exact ⟨_, rfl, ownsRow_mono hown hb1.size, hb1.trans (hb2.mono hb1.size)⟩

set_option maxRecDepth 100000 in
set_option maxHeartbeats 2000000 in
theorem otp_id (r : Ref) (ws : List (BitVec 32 × Bool)) (sl : Bool) (w : World) (h : ChipAt w r ws sl) :
    Calls Try.prog 32 #[.pointer (some ⟨r.bc, 0, none⟩)] w fun e w' => e = .returned (.agg (u8s (idOf ws)).toArray) ∧ Below w.heap.size w w' := by
  have hl := h.len
  have hid := idOf_length ws hl
  have hil : (u8s (idOf ws)).length = 16 := by rw [u8s_length]; exact hid
  obtain ⟨I, hI⟩ : ∃ I, idOf ws = I := ⟨_, rfl⟩
  rw [hI] at hil ⊢
  have HIL := Lib.hid hil; clear hil hid
  unfold idOf at hI
  obtain ⟨L, hL⟩ : ∃ L, vals ws = L := ⟨_, rfl⟩
  have hLl : L.length = 64 := by rw [← hL, vals_length]; exact hl
  rw [hL] at hI
  have HL := Lib.hid hL; have HLL := Lib.hid hLl; have HI := Lib.hid hI; clear hL hLl hl hI
  obtain ⟨W1, hW1, b1, b2, hs⟩ := allocs1 w z16 47
  have hW1 := Lib.hid hW1
  go_enter Try.func32, Try.ntmps32
  go_wp2_with fail
  change Calls _ _ _ (w.alloc (.cells z16.toArray 47)) _
  rw [hW1.out]
  refine (otp_all r ws sl _ (h.below b2 (Nat.le_refl _))).mono ?_
  rintro e w1 ⟨g, cap, rfl, hcap, hg, hg1, hu, hb1⟩
  rw [HL.out] at hu
  have HU := Lib.hid (hu.sub 23 4); clear hu
  go_wp2_with fail
  refine (otp_octets g 23 4 _ ((L.drop 23).take 4) _ (by rw [List.length_take, List.length_drop, HLL.out]; decide) (by omega) hg1 (by have := HU.out; simpa only [Nat.zero_add] using this)).mono ?_
  rintro e w2 ⟨v, rfl, hown, hb2⟩
  rw [HI.out] at hown
  have hs1 := hb1.size
  have hs2 := hb2.size
  have hbb : Below w.heap.size w w2 := (b2.trans (hb1.mono (by omega))).trans (hb2.mono (by omega))
  have hr := (b1.below hb1 (by omega)).below hb2 (by omega)
  rcases hown.2 with ⟨_, h0⟩ | ⟨g2, cap2, cur, rfl, hg2, hh, hn, hcm, hcs, ht⟩
  · omega
  have hblk : Blk w2 g2 5 cur.toList := by unfold Blk; rw [hh]
  have hcl : 16 ≤ cur.toList.length := by rw [Array.length_toList, hcs]; omega
  have HT := Lib.hid ht; have HB := Lib.hid hblk; have HR := Lib.hid hr; have HCL := Lib.hid hcl
  clear hown hh hcs ht hblk hr hcl
  have har := fun (ad : Addr) (c : Nat) wx => run_arrayAt (P := Try.prog) ad 16 c Try.underlying47 (Nat.le_refl _) wx
  go_wp2_with (first
    | ((with_reducible refine at_load 47 ?_); refine wpList_load_blk _ 0 16 (u8s I) rfl _ _ _ HB.out Try.underlying47 rfl (by kernel_rfl) (by have := HCL.out; omega) (by rw [List.drop_zero]; exact HT.out) ?_)
    | ((with_reducible refine at_store 47 ?_); refine wpList_store_blk _ 0 rfl (u8s I) rfl _ _ HR.out (by rw [HIL.out]; kernel_rfl) (by rw [HIL.out]; decide) (u8s_one _) ?_; intro w5 h5 k5))
  rw [splice_all _ _ (by rw [HIL.out]; rfl)] at h5
  refine bodyPost_ret (v := .agg (u8s I).toArray) (results_blk rfl _ _ _ _ _ _ rfl h5 Try.underlying47 rfl ?_) rfl ⟨rfl, ?_⟩
  · rw [HIL.out]; kernel_rfl
  · exact hbb.trans ⟨k5.os, k5.tape, k5.output, k5.size, fun j hj => k5.block j (by omega) (by omega)⟩

end Go.Proofs.Ytoefaghakjcfcaa
