/- What a nil chip answers. -/
import Derived.Test.YtoefaghakjcfcaaLawRows
namespace Go.Proofs.Ytoefaghakjcfcaa
open Go.RowKit

theorem otp_all_nil2 (ws : List (BitVec 32 × Bool)) (H0 : Hid (vals ws = List.replicate 64 0)) (w : World) :
    Calls Try.prog 37 #[.pointer none] w fun e w' => ∃ g cap, e = .returned (.slice (some ⟨g, 0, none⟩) 64 cap) ∧ 64 ≤ cap ∧ w.heap.size ≤ g ∧ g < w'.heap.size ∧ U32At w' g 0 (vals ws) ∧ Below w.heap.size w w' := by
  refine (otp_all_nil w).mono ?_
  rintro e w' ⟨g, rfl, h1, h2, h3, h4⟩
  exact ⟨g, 64, rfl, Nat.le_refl _, h1, h2, by rw [H0.out]; exact h3, h4⟩

set_option maxRecDepth 100000 in
set_option maxHeartbeats 1000000 in
theorem otp_life_nil (ws : List (BitVec 32 × Bool)) (w : World) (hws : ws.length = 64) (H0 : Hid (vals ws = List.replicate 64 0)) :
    Calls Try.prog 30 #[.pointer none] w fun e w' => e = .returned (.int .i64 (lifeOf ws)) ∧ Below w.heap.size w w' := by
  have hl := hws
  unfold lifeOf
  obtain ⟨x, hx⟩ : ∃ x, (vals ws).getD 0 0 = x := ⟨_, rfl⟩
  rw [hx]
  have HX := Lib.hid hx; clear hx
  go_enter Try.func30, Try.ntmps30
  go_wp2_with fail
  go_loopw [3, 5] (fun v i wr => ∃ k : Nat, k ≤ 4 ∧ i = .int .i64 k ∧ v = .int .i64 (lifeTo x.toNat k) ∧ Below w.heap.size w wr) (fun _ i _ => 4 - (intOf i).toNat)
  case atStart => exact ⟨0, by omega, rfl, rfl, Below.refl _ _⟩
  case round =>
    obtain ⟨k, hk, rfl, rfl, hb⟩ := hrel
    by_cases hlt : k < 4
    · have hle := lifeTo_le x.toNat k
      cases hon : onB x.toNat k
      all_goals
        have HL0 : lifeTo x.toNat (k + 1) = if onB x.toNat k then k + 1 else lifeTo x.toNat k := rfl
        rw [hon] at HL0
        simp only [if_true, if_false, Bool.false_eq_true] at HL0
        have HL := Lib.hid HL0; clear HL0
        have HO := Lib.hid hon; clear hon
        go_wp2_with fail
        refine (otp_all_nil2 ws H0 _).mono ?_
        rintro e w1 ⟨g, cap, rfl, hcap, hg, hg1, hu, hb1⟩
        have hu0 := hu 0 (by rw [vals_length]; omega)
        have ex : (vals ws)[0]'(by rw [vals_length]; omega) = x := by rw [← HX.out, List.getD_eq_getElem?_getD, List.getElem?_eq_getElem (by rw [vals_length]; omega)]; rfl
        rw [ex] at hu0
        clear ex hu
        simp only [Nat.add_zero] at hu0
        go_wp2_with fail
        refine (otp_on x k _ (by omega)).mono ?_
        rintro e w2 ⟨rfl, rfl⟩
        rw [HO.out]
        go_wp2
        go_roundw
        case rel => exact ⟨k + 1, by omega, by go_num, by first | (rw [HL.out]; done) | (rw [HL.out]; go_num), hb.trans (hb1.mono hb.size)⟩
        case measure => simp [intOf]; omega
    · go_wp2
      go_ret
      have : k = 4 := by omega
      subst this
      exact ⟨rfl, hb⟩

set_option maxRecDepth 100000 in
set_option maxHeartbeats 1000000 in
theorem otp_counter_nil (ws : List (BitVec 32 × Bool)) (w : World) (hws : ws.length = 64) (H0 : Hid (vals ws = List.replicate 64 0)) :
    Calls Try.prog 14 #[.pointer none] w fun e w' => e = .returned (.int .i64 (countOf ws)) ∧ Below w.heap.size w w' := by
  have hl := hws
  unfold countOf
  obtain ⟨l, hl2⟩ : ∃ l, vals ws = l := ⟨_, rfl⟩
  have hll : l.length = 64 := by rw [← hl2, vals_length]; exact hl
  rw [hl2]
  have HL2 := Lib.hid hl2; clear hl2
  go_enter Try.func14, Try.ntmps14
  go_wp2_with fail
  refine (otp_all_nil2 ws H0 _).mono ?_
  rintro e w1 ⟨g, cap, rfl, hcap, hg, hg1, hu, hb1⟩
  go_wp2_with fail
  rw [HL2.out] at hu
  clear hl HL2
  have HU := Lib.hid hu; clear hu
  have HLL := Lib.hid hll; clear hll
  go_loopw [3, 10] (fun v i wr => ∃ k : Nat, k ≤ 8 ∧ i = .int .i64 k ∧ v = .int .i64 (cntTo l k) ∧ ∃ n, wr = w1.drewN n) (fun _ i _ => 8 - (intOf i).toNat)
  case atStart => exact ⟨0, by omega, rfl, rfl, 0, rfl⟩
  case round =>
    obtain ⟨k, hk, rfl, rfl, n, rfl⟩ := hrel
    by_cases hlt : k < 8
    · have hle := cntTo_le l k
      have hu0 := HU.out (1 + k) (by rw [HLL.out]; omega)
      obtain ⟨x, hx⟩ : ∃ x, l[1 + k]'(by rw [HLL.out]; omega) = x := ⟨_, rfl⟩
      have hx2 : l.getD (k + 1) 0 = x := by rw [← hx, List.getD_eq_getElem?_getD, List.getElem?_eq_getElem (by rw [HLL.out]; omega)]; simp only [Nat.add_comm 1 k]; rfl
      rw [hx] at hu0
      simp only [Nat.zero_add] at hu0
      have hc0 : cntTo l (k + 1) = cntTo l k + pc (if k = 7 then 31 else 32) x.toNat := by rw [cntTo, hx2]
      have HC := Lib.hid hc0; clear hc0
      clear hx hx2
      by_cases h7 : k = 7
      · subst h7
        have hp := pc_le 31 x.toNat
        have HP := Lib.hid (clr31 x)
        go_wp2_with fail
        refine (ones32_bv _ _).mono ?_
        rintro e w2 ⟨rfl, n2, rfl⟩
        rw [HP.out]
        go_wp2
        go_roundw
        case rel => exact ⟨8, by omega, by go_num, by rw [HC.out]; simp only [if_true]; go_num, n + n2, by simp⟩
        case measure => simp [intOf]
      · have hp := pc_le 32 x.toNat
        go_wp2_with fail
        refine (ones32_bv _ _).mono ?_
        rintro e w2 ⟨rfl, n2, rfl⟩
        go_wp2
        go_roundw
        case rel => exact ⟨k + 1, by omega, by go_num, by rw [HC.out, if_neg h7]; go_num, n + n2, by simp⟩
        case measure => simp [intOf]; omega
    · go_wp2
      go_ret
      have : k = 8 := by omega
      subst this
      exact ⟨rfl, below_drewN hb1 _⟩

set_option maxRecDepth 100000 in
set_option maxHeartbeats 2000000 in
theorem otp_id_nil (ws : List (BitVec 32 × Bool)) (w : World) (hws : ws.length = 64) (H0 : Hid (vals ws = List.replicate 64 0)) :
    Calls Try.prog 32 #[.pointer none] w fun e w' => e = .returned (.agg (u8s (idOf ws)).toArray) ∧ Below w.heap.size w w' := by
  have hl := hws
  have hid := idOf_length ws hl
  have hil : (u8s (idOf ws)).length = 16 := by rw [u8s_length]; exact hid
  obtain ⟨I, hI⟩ : ∃ I, idOf ws = I := ⟨_, rfl⟩
  rw [hI] at hil ⊢
  have HIL := Lib.hid hil; clear hil hid
  unfold idOf at hI
  obtain ⟨L, hL⟩ : ∃ L, vals ws = L := ⟨_, rfl⟩
  have hLl : L.length = 64 := by rw [← hL, vals_length]; exact hl
  rw [hL] at hI
  have HL := Lib.hid hL; have HLL := Lib.hid hLl; have HI := Lib.hid hI; clear hL hLl hl hI
  obtain ⟨W1, hW1, b1, b2, hs⟩ := allocs1 w z16 47
  have hW1 := Lib.hid hW1
  go_enter Try.func32, Try.ntmps32
  go_wp2_with fail
  change Calls _ _ _ (w.alloc (.cells z16.toArray 47)) _
  rw [hW1.out]
  refine (otp_all_nil2 ws H0 _).mono ?_
  rintro e w1 ⟨g, cap, rfl, hcap, hg, hg1, hu, hb1⟩
  rw [HL.out] at hu
  have HU := Lib.hid (hu.sub 23 4); clear hu
  go_wp2_with fail
  refine (otp_octets g 23 4 _ ((L.drop 23).take 4) _ (by rw [List.length_take, List.length_drop, HLL.out]; decide) (by omega) hg1 (by have := HU.out; simpa only [Nat.zero_add] using this)).mono ?_
  rintro e w2 ⟨v, rfl, hown, hb2⟩
  rw [HI.out] at hown
  have hs1 := hb1.size
  have hs2 := hb2.size
  have hbb : Below w.heap.size w w2 := (b2.trans (hb1.mono (by omega))).trans (hb2.mono (by omega))
  have hr := (b1.below hb1 (by omega)).below hb2 (by omega)
  rcases hown.2 with ⟨_, h0⟩ | ⟨g2, cap2, cur, rfl, hg2, hh, hn, hcm, hcs, ht⟩
  · omega
  have hblk : Blk w2 g2 5 cur.toList := by unfold Blk; rw [hh]
  have hcl : 16 ≤ cur.toList.length := by rw [Array.length_toList, hcs]; omega
  have HT := Lib.hid ht; have HB := Lib.hid hblk; have HR := Lib.hid hr; have HCL := Lib.hid hcl
  clear hown hh hcs ht hblk hr hcl
  have har := fun (ad : Addr) (c : Nat) wx => run_arrayAt (P := Try.prog) ad 16 c Try.underlying47 (Nat.le_refl _) wx
  go_wp2_with (first
    | ((with_reducible refine at_load 47 ?_); refine wpList_load_blk _ 0 16 (u8s I) rfl _ _ _ HB.out Try.underlying47 rfl (by kernel_rfl) (by have := HCL.out; omega) (by rw [List.drop_zero]; exact HT.out) ?_)
    | ((with_reducible refine at_store 47 ?_); refine wpList_store_blk _ 0 rfl (u8s I) rfl _ _ HR.out (by rw [HIL.out]; kernel_rfl) (by rw [HIL.out]; decide) (u8s_one _) ?_; intro w5 h5 k5))
  rw [splice_all _ _ (by rw [HIL.out]; rfl)] at h5
  refine bodyPost_ret (v := .agg (u8s I).toArray) (results_blk rfl _ _ _ _ _ _ rfl h5 Try.underlying47 rfl ?_) rfl ⟨rfl, ?_⟩
  · rw [HIL.out]; kernel_rfl
  · exact hbb.trans ⟨k5.os, k5.tape, k5.output, k5.size, fun j hj => k5.block j (by omega) (by omega)⟩

set_option maxRecDepth 100000 in
set_option maxHeartbeats 1000000 in
theorem otp_row_nil (i : Int) (w : World) :
    Calls Try.prog 27 #[.pointer none, .int .i64 i] w fun e w' => e = .returned (.tuple #[.agg (u8s zero32).toArray, .int .i64 3]) ∧ Below w.heap.size w w' := by
  obtain ⟨k, hk⟩ : ∃ k, (atOf i).1 = k := ⟨_, rfl⟩
  obtain ⟨c, hc⟩ : ∃ c, (atOf i).2 = c := ⟨_, rfl⟩
  have HK := Lib.hid hk; have HC := Lib.hid hc
  clear hk hc
  obtain ⟨W1, hW1, b1, b2, hs⟩ := allocs1 w z32 41
  have HW1 := Lib.hid hW1; clear hW1
  have hz : (u8s zero32).length = 32 := by rw [u8s_length]; rfl
  have HZ := Lib.hid hz; clear hz
  go_enter Try.func27, Try.ntmps27
  go_wp2_with fail
  change Calls _ _ _ (w.alloc (.cells z32.toArray 41)) _
  rw [HW1.out]
  refine (otp_at _ _).mono ?_
  rintro e w1 ⟨rfl, rfl⟩
  rw [HK.out, HC.out]
  go_wp2_with ((with_reducible refine at_store 41 ?_); refine wpList_store_blk _ 0 rfl z32 rfl _ _ b1 (by kernel_rfl) (by decide) z32_one ?_; intro w5 h5 k5)
  rw [splice_z32] at h5
  refine bodyPost_ret (v := .tuple #[.agg (u8s zero32).toArray, .int .i64 3]) (results_blk_tmp rfl _ _ _ _ _ _ _ rfl rfl h5 Try.underlying41 rfl ?_) rfl ⟨rfl, ?_⟩
  · rw [HZ.out]; kernel_rfl
  exact b2.trans ⟨k5.os, k5.tape, k5.output, k5.size, fun j hj => k5.block j (by omega) (by omega)⟩

set_option maxRecDepth 100000 in
set_option maxHeartbeats 1000000 in
theorem otp_toLife_nil (n : Int) (w : World) :
    Calls Try.prog 17 #[.pointer none, .int .i64 n] w fun e w' => e = .returned (.tuple #[.slice none 0 0, .int .i64 3]) ∧ Below w.heap.size w w' := by
  go_enter Try.func17, Try.ntmps17
  go_wp2_with fail
  go_ret2
  exact ⟨rfl, Below.refl _ _⟩

set_option maxRecDepth 100000 in
set_option maxHeartbeats 1000000 in
theorem otp_toCounter_nil (n : Int) (w : World) :
    Calls Try.prog 11 #[.pointer none, .int .i64 n] w fun e w' => e = .returned (.tuple #[.slice none 0 0, .int .i64 3]) ∧ Below w.heap.size w w' := by
  go_enter Try.func11, Try.ntmps11
  go_wp2_with fail
  go_ret2
  exact ⟨rfl, Below.refl _ _⟩

set_option maxRecDepth 100000 in
set_option maxHeartbeats 1000000 in
theorem otp_toKey_nil (a : Option Addr) (n cap : Nat) (kv : List Value) (w : World) :
    Calls Try.prog 18 #[.pointer none, .slice a n cap, .agg kv.toArray] w fun e w' => e = .returned (.tuple #[.slice none 0 0, .int .i64 3]) ∧ Below w.heap.size w w' := by
  go_enter Try.func18, Try.ntmps18
  go_wp2_with fail
  go_ret2
  exact ⟨rfl, below_alloc _ _⟩

set_option maxRecDepth 100000 in
set_option maxHeartbeats 1000000 in
theorem otp_toRow_nil (i : Int) (kv : List Value) (w : World) :
    Calls Try.prog 19 #[.pointer none, .int .i64 i, .agg kv.toArray] w fun e w' => e = .returned (.tuple #[.slice none 0 0, .int .i64 3]) ∧ Below w.heap.size w w' := by
  go_enter Try.func19, Try.ntmps19
  go_wp2_with fail
  refine (otp_at _ _).mono ?_
  rintro e w1 ⟨rfl, rfl⟩
  obtain ⟨k, hk⟩ : ∃ k, (atOf i).1 = k := ⟨_, rfl⟩
  obtain ⟨c, hc⟩ : ∃ c, (atOf i).2 = c := ⟨_, rfl⟩
  rw [hk, hc]
  clear hk hc
  go_wp2_with fail
  go_ret2
  exact ⟨rfl, below_alloc _ _⟩

set_option maxRecDepth 100000 in
set_option maxHeartbeats 1000000 in
theorem otp_kill_nil (i : Int) (w : World) :
    Calls Try.prog 20 #[.pointer none, .int .i64 i] w fun e w' => e = .returned (.tuple #[.slice none 0 0, .int .i64 3]) ∧ Below w.heap.size w w' := by
  go_enter Try.func20, Try.ntmps20
  go_wp2_with fail
  refine (otp_at _ _).mono ?_
  rintro e w1 ⟨rfl, rfl⟩
  obtain ⟨k, hk⟩ : ∃ k, (atOf i).1 = k := ⟨_, rfl⟩
  obtain ⟨c, hc⟩ : ∃ c, (atOf i).2 = c := ⟨_, rfl⟩
  rw [hk, hc]
  clear hk hc
  go_wp2_with fail
  go_ret2
  exact ⟨rfl, Below.refl _ _⟩

set_option maxRecDepth 100000 in
set_option maxHeartbeats 1000000 in
theorem otp_seal_nil (w : World) :
    Calls Try.prog 29 #[.pointer none] w fun e w' => e = .returned (.tuple #[]) ∧ Below w.heap.size w w' := by
  go_enter Try.func29, Try.ntmps29
  go_wp2_with fail
  (try simp only [Exit.inBlock, Exit.then])
  exact bodyPost_ret (results_none rfl _ _ _) rfl ⟨rfl, Below.refl _ _⟩

set_option maxRecDepth 100000 in
set_option maxHeartbeats 1000000 in
theorem otp_do_nil (a : Option Addr) (n cap : Nat) (w : World) :
    Calls Try.prog 12 #[.pointer none, .slice a n cap] w fun e w' => e = .returned (.int .i64 3) ∧ Below w.heap.size w w' := by
  go_enter Try.func12, Try.ntmps12
  go_wp2_with fail
  go_ret
  exact ⟨rfl, Below.refl _ _⟩

set_option maxRecDepth 100000 in
set_option maxHeartbeats 1000000 in
theorem otp_tear_nil (i v g : Int) (w : World) :
    Calls Try.prog 25 #[.pointer none, .agg #[.int .i64 i, .int .u32 v], .int .u32 g] w fun e w' => e = .returned (.int .i64 3) ∧ Below w.heap.size w w' := by
  go_enter Try.func25, Try.ntmps25
  go_wp2_with fail
  go_ret
  exact ⟨rfl, by first | exact Below.refl _ _ | exact below_alloc _ _⟩

set_option maxRecDepth 100000 in
set_option maxHeartbeats 1000000 in
theorem otp_key_nil (w : World) :
    Calls Try.prog 34 #[.pointer none] w fun e w' => e = .returned (.slice none 0 0) ∧ Below w.heap.size w w' := by
  go_enter Try.func34, Try.ntmps34
  go_wp2_with fail
  go_ret
  exact ⟨rfl, Below.refl _ _⟩

end Go.Proofs.Ytoefaghakjcfcaa
