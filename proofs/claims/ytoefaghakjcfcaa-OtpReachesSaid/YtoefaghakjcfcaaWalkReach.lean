/- The walk of curtilagelaw11.OtpReaches. -/
import Derived.Test.YtoefaghakjcfcaaAct11
import Derived.Test.YtoefaghakjcfcaaHeld
import Derived.Test.YtoefaghakjcfcaaRef01
import Derived.Deep.DeepCutAuto
import Derived.Deep.CutBlock
namespace Go.Proofs.Ytoefaghakjcfcaa
open Go.RowKit

theorem rowOf_len (ws : List (BitVec 32 × Bool)) (sl : Bool) (i : Int) (h : ws.length = 64) : (rowOf ws sl i).1.length = 32 := by
  unfold rowOf
  split
  · rfl
  · split
    · rfl
    · split
      · rfl
      · split
        · rfl
        · rw [flat_be4_length, List.length_take, List.length_drop, vals_length, h]; omega

set_option maxRecDepth 100000 in
set_option maxHeartbeats 20000000 in
theorem reaches_walk (V : List (BitVec 32)) (blank : Bool) (A : Act11) (w : World) (hV : V.length = 64) (hA : A.Ok) :
    Calls Try.prog 7 #[.agg (u32s V).toArray, .bool blank, .agg (actCells A).toArray] w fun e w' => e = .returned (.bool true) ∧ Below w.heap.size w w' := by
  have hkl : (u32s V).length = 64 := by rw [u32s_length]; exact hV
  obtain ⟨kv, hkv⟩ : ∃ kv, u32s V = kv := ⟨_, rfl⟩
  obtain ⟨ka, hka⟩ : ∃ ka, actCells A = ka := ⟨_, rfl⟩
  have hal : ka.length = 37 := by rw [← hka]; exact actCells_length hA
  have hk0 : ka[0]? = some (.int .u8 (U8 A.op)) := by rw [← hka]; rfl
  have hk1 : ka[1]? = some (.int .i64 A.n) := by rw [← hka]; rfl
  have hkey : (ka.drop 2).take 32 = u8s A.key := by rw [← hka]; exact actCells_key hA
  rw [hkv] at hkl
  rw [hkv, hka]
  obtain ⟨W1, hW1, b1, b2, b3, hs⟩ := allocs2 w kv ka 39 43
  have HV := Lib.hid hV; have HKV := Lib.hid hkv; have HKA := Lib.hid hka; have HKL := Lib.hid hkl; have HAL := Lib.hid hal; have HW1 := Lib.hid hW1; have HK0 := Lib.hid hk0; have HK1 := Lib.hid hk1; have HKEY := Lib.hid hkey
  have B1 := Lib.hid b1; have B2 := Lib.hid b2; have HA := Lib.hid hA
  clear hV hkv hka hkl hal hW1 hk0 hk1 hkey b1 b2 hA
  go_enter Try.func7, Try.ntmps7
  go_wp2_with fail
  change Calls _ _ _ ((w.alloc (.cells kv.toArray 39)).alloc (.cells ka.toArray 43)) _
  rw [HW1.out]
  refine (awake11 W1).mono ?_
  rintro e w2 ⟨rfl, hb2⟩
  have hB2 : Below w.heap.size w w2 := b3.trans (hb2.mono (by omega))
  have hs2 := hb2.size
  have C1 := Lib.hid (B1.out.below hb2 (by omega)); have C2 := Lib.hid (B2.out.below hb2 (by omega))
  clear hb2 b3
  go_wp2_with ((with_reducible refine at_load 39 ?_); refine wpList_load_blk _ 0 64 kv rfl _ _ _ C1.out Try.underlying39 rfl (by kernel_rfl) (by rw [HKL.out]; omega) (by rw [List.drop_zero, List.take_of_length_le (by rw [HKL.out]; omega)]) ?_)
  rw [← HKV.out]
  refine (lay11 V _ HV.out).mono ?_
  rintro e w3 ⟨r, rfl, hch, h1, h2, h3, hb3⟩
  have hX3 : Below w2.heap.size w2 w3 := hb3
  have HC3 := Lib.hid hch; clear hch hb3
  have hs3 := hX3.size
  go_upto_if 27 with fail
  go_cut [7] (fun s7 wx => ∃ (r : Ref) (ws : List (BitVec 32 × Bool)), s7 = .pointer (some ⟨r.bc, 0, none⟩) ∧ ChipAt wx r ws false ∧ w2.heap.size ≤ r.bc ∧ w2.heap.size ≤ r.ba ∧ w2.heap.size ≤ r.bw ∧ Below w2.heap.size w2 wx)
  case first =>
    cases blank with
    | true =>
      go_wp2_with fail
      refine (otp_new w3).mono ?_
      rintro e w4 ⟨r', rfl, hch', h1', h2', h3', hb'⟩
      go_wp2_with fail
      go_meet
      exact ⟨r', _, rfl, hch', by omega, by omega, by omega, hX3.trans (hb'.mono hs3)⟩
    | false =>
      go_wp2_with fail
      go_meet
      exact ⟨r, _, rfl, HC3.out, h1, h2, h3, hX3⟩
  case rest =>
  clear HC3 h1 h2 h3 hX3 hs3
  obtain ⟨r, ws, rfl, hch, h1, h2, h3, hX4⟩ := hcut
  rename World => w4
  have hs4 := hX4.size
  have hln := hch.len
  have HC4 := Lib.hid hch
  have hcw := hch.chip.cell 0
  simp only [List.getElem?_cons_zero] at hcw
  clear hch
  go_wp2_with fail
  refine (chip_words r ws false w4 HC4.out).mono ?_
  rintro e w5 ⟨g5, cap5, rfl, hc5, hg5, hg5', hu5, hb5⟩
  have hX5 : Below w2.heap.size w2 w5 := hX4.trans (hb5.mono hs4)
  have hs5 := hX5.size
  have HC5 := Lib.hid (HC4.out.below hb5 (Nat.le_refl _))
  have HU5 := Lib.hid hu5
  have D5 := Lib.hid (C2.out.below hX5 (by have := C2.out.lt; omega))
  have hlb := HC4.out.arr.wrd.lt
  have hs45 := hb5.size
  clear hu5 hb5 hcw
  go_wp2_with ((with_reducible refine at_load 43 ?_); refine wpList_load_blk _ 0 37 ka rfl _ _ _ D5.out Try.underlying43 rfl (by kernel_rfl) (by rw [HAL.out]; omega) (by rw [List.drop_zero, List.take_of_length_le (by rw [HAL.out]; omega)]) ?_)
  rw [← HKA.out]
  refine (plan11_at r ws false A w5 HC5.out HA.out).mono ?_
  rintro e w6 ⟨p, pe, a6, b6, n6, cap6, hpl, rfl, hn6, hw6, hb6⟩
  have hX6 : Below w2.heap.size w2 w6 := hX5.trans (hb6.mono hs5)
  have hs6 := hX6.size
  have hs56 := hb6.size
  obtain ⟨f1, f2, _, _⟩ := planned_facts ws A (p, pe) HC5.out.len hpl
  have HC6 := Lib.hid (HC5.out.below hb6 (Nat.le_refl _))
  have HU6 := Lib.hid (HU5.out.below hb6 hg5')
  have HW6 := Lib.hid hw6; have HPL := Lib.hid hpl; have F1 := Lib.hid f1
  clear hb6 hw6 hpl f1
  by_cases hpe : pe = 0
  · subst hpe
    clear f2
    go_wp2_with fail
    have hnw := HW6.out.len
    have htk : p.take n6 = p := List.take_of_length_le (by omega)
    have hd6 := do_at r ws false p a6 w5.heap.size b6 n6 n6 cap6 cap6 w6 HC6.out HW6.out (Nat.le_refl _) hn6 (by omega) (by rw [htk]; exact F1.out)
    rw [htk] at hd6
    clear hnw htk
    refine hd6.mono ?_
    clear hd6
    rintro e w7 ⟨rfl, hch7, hk7⟩
    obtain ⟨ws', hws'⟩ : ∃ ws', (doAll ws p).1 = ws' := ⟨_, rfl⟩
    rw [hws'] at hch7
    have hX7 : Below w2.heap.size w2 w7 := hX6.trans ⟨hk7.os, hk7.tape, hk7.output, hk7.size, fun j hj => hk7.block j (by omega) (by omega)⟩
    have hs7 := hX7.size
    have hs67 := hk7.size
    have HC7 := Lib.hid hch7
    have HU7 := Lib.hid (HU6.out.kept hk7 (by omega) (by omega))
    have HWS := Lib.hid hws'
    have hcw := hch7.chip.cell 0
    simp only [List.getElem?_cons_zero] at hcw
    clear hch7 hk7 hws'
    go_wp2_with fail
    refine (chip_words r ws' false w7 HC7.out).mono ?_
    rintro e w8 ⟨g8, cap8, rfl, hc8, hg8, hg8', hu8, hb8⟩
    have hX8 : Below w2.heap.size w2 w8 := hX7.trans (hb8.mono hs7)
    have hs8 := hX8.size
    have hs78 := hb8.size
    have HC8 := Lib.hid (HC7.out.below hb8 (Nat.le_refl _))
    have HU8 := Lib.hid hu8
    have HV8 := Lib.hid (HU7.out.below hb8 (by omega))
    have D8 := Lib.hid (C2.out.below hX8 (by have := C2.out.lt; omega))
    clear hu8 hb8 hcw HU7 HC7 HU6 HC6 HW6 D5 HU5 HC5 HC4
    have hc0 := (D8.out.cell 0).trans HK0.out
    have hc1 := (D8.out.cell 1).trans HK1.out
    obtain ⟨hR, hArea, hAgain⟩ := reaches ws A (p, 0) hln HA.out HPL.out rfl
    simp only [HWS.out] at hR hArea hAgain
    obtain ⟨m, hm⟩ : ∃ m, A.op.toNat % 5 = m := ⟨_, rfl⟩
    have hrem := u8_rem5 A.op
    rw [hm] at hrem
    have hm5 : m < 5 := by omega
    have hc1s : ∀ wx, Below w8.heap.size w8 wx → wx.cell? ⟨w.heap.size + 1, 1, none⟩ = some (.int .i64 A.n) := fun wx hx => (hx.cell (p := ⟨w.heap.size + 1, 1, none⟩) D8.out.lt).trans hc1
    have HC1S := Lib.hid hc1s
    obtain ⟨fr, hfr⟩ : ∃ x, (areaOf A).1 = x := ⟨_, rfl⟩
    obtain ⟨tt, hto⟩ : ∃ x, (areaOf A).2 = x := ⟨_, rfl⟩
    rw [hfr, hto] at hArea
    have HAR := Lib.hid hArea; have HAG := Lib.hid hAgain
    unfold Reached at hR
    unfold areaOf at hfr hto
    rw [hm] at hR hfr hto
    have HM := Lib.hid hm
    clear hArea hAgain hc1s hm
    generalize U8 A.op = ux at *
    go_upto_block 0 with fail
    go_cut [12, 13, 14] (fun s12 s13 s14 wx => s12 = .int .i64 fr ∧ s13 = .int .i64 tt ∧ s14 = .bool true ∧ Below w8.heap.size w8 wx)
    case first =>
      obtain rfl | rfl | rfl | rfl | rfl : m = 0 ∨ m = 1 ∨ m = 2 ∨ m = 3 ∨ m = 4 := by omega
      · simp only at hR hfr hto
        subst hfr hto
        have HR := Lib.hid hR; clear hR
        go_upto_region 22 with fail
        refine wp_region_held_drew (S := fun wx => Below w8.heap.size w8 wx) (by kernel_rfl) (Below.refl _ _).drew (fun hHeld => ?_)
        refine held_take 0 (v := ?_) rfl rfl (by kernel_rfl) (by kernel_rfl) (by kernel_rfl) (fun _ _ _ h => h) (by rfl) ?_ (by assumption) ?_
        rotate_left
        · intro wx hSw; clear hSw; go_simp; try with_reducible rfl
        simp only [List.set_cons_zero, List.set_cons_succ]
        refine held_take 2 (v := ?_) rfl rfl (by kernel_rfl) (by kernel_rfl) (by kernel_rfl) (fun _ _ _ h => h) (by rfl) ?_ (by assumption) ?_
        rotate_left
        · intro wx hSw; clear hSw; go_simp; try with_reducible rfl
        simp only [List.set_cons_zero, List.set_cons_succ]
        refine held_take 3 (v := ?_) rfl rfl (by kernel_rfl) (by kernel_rfl) (by kernel_rfl) (fun _ _ _ h => h) (by rfl) ?_ (by assumption) ?_
        rotate_left
        · intro wx hSw; have cx := HC1S.out wx hSw; clear hSw; go_simp; try with_reducible rfl
        simp only [List.set_cons_zero, List.set_cons_succ]
        refine held_call 1 (f := ?_) (args := ?_) rfl rfl (by kernel_rfl) (by rfl) ?_ ?_
        rotate_left 2
        · go_simp; first | done | with_reducible rfl | (refine And.intro ?_ ?_ <;> with_reducible rfl) | (refine And.intro ?_ (And.intro ?_ ?_) <;> with_reducible rfl)
        refine (otp_life r ws' false _ (HC8.out.below (Below.refl _ _).drew (Nat.le_refl _))).mono ?_
        rintro e w9 ⟨rfl, hb9⟩
        have hX9 : Below w8.heap.size w8 w9 := (Below.refl _ _).drew.trans hb9
        rw [HR.out]
        refine ⟨_, rfl, hX9, ?_⟩
        have hHeld := hX9
        simp only [List.set_cons_zero, List.set_cons_succ]
        refine held_take 4 (v := ?_) rfl rfl (by kernel_rfl) (by kernel_rfl) (by kernel_rfl) (fun _ _ _ h => h) (by rfl) ?_ (by assumption) ?_
        rotate_left
        · intro wx hSw; clear hSw; go_simp; try with_reducible rfl
        simp only [List.set_cons_zero, List.set_cons_succ]
        refine held_take 5 (v := ?_) rfl rfl (by kernel_rfl) (by kernel_rfl) (by kernel_rfl) (fun _ _ _ h => h) (by rfl) ?_ (by assumption) ?_
        rotate_left
        · intro wx hSw; clear hSw; go_simp; try with_reducible rfl
        simp only [List.set_cons_zero, List.set_cons_succ]
        refine held_take 6 (v := ?_) rfl rfl (by kernel_rfl) (by kernel_rfl) (by kernel_rfl) (fun _ _ _ h => h) (by rfl) ?_ (by assumption) ?_
        rotate_left
        · intro wx hSw; clear hSw; go_simp; try with_reducible rfl
        simp only [List.set_cons_zero, List.set_cons_succ]
        refine wpAnyH_done (by kernel_rfl) ?_ _
        go_wp2_with fail
        go_meet
        exact ⟨rfl, rfl, rfl, hX9⟩
      · simp only at hR hfr hto
        subst hfr hto
        have HR := Lib.hid hR.1; have HF := Lib.hid hR.2; clear hR
        go_upto_region 25 with fail
        refine wp_region_held_drew (S := fun wx => Below w8.heap.size w8 wx) (by kernel_rfl) (Below.refl _ _).drew (fun hHeld => ?_)
        refine held_take 0 (v := ?_) rfl rfl (by kernel_rfl) (by kernel_rfl) (by kernel_rfl) (fun _ _ _ h => h) (by rfl) ?_ (by assumption) ?_
        rotate_left
        · intro wx hSw; clear hSw; go_simp; try with_reducible rfl
        simp only [List.set_cons_zero, List.set_cons_succ]
        refine held_take 2 (v := ?_) rfl rfl (by kernel_rfl) (by kernel_rfl) (by kernel_rfl) (fun _ _ _ h => h) (by rfl) ?_ (by assumption) ?_
        rotate_left
        · intro wx hSw; clear hSw; go_simp; try with_reducible rfl
        simp only [List.set_cons_zero, List.set_cons_succ]
        refine held_take 3 (v := ?_) rfl rfl (by kernel_rfl) (by kernel_rfl) (by kernel_rfl) (fun _ _ _ h => h) (by rfl) ?_ (by assumption) ?_
        rotate_left
        · intro wx hSw; have cx := HC1S.out wx hSw; clear hSw; go_simp; try with_reducible rfl
        simp only [List.set_cons_zero, List.set_cons_succ]
        refine held_call 1 (f := ?_) (args := ?_) rfl rfl (by kernel_rfl) (by rfl) ?_ ?_
        rotate_left 2
        · go_simp; first | done | with_reducible rfl | (refine And.intro ?_ ?_ <;> with_reducible rfl) | (refine And.intro ?_ (And.intro ?_ ?_) <;> with_reducible rfl)
        refine (otp_counter r ws' false _ (HC8.out.below (Below.refl _ _).drew (Nat.le_refl _))).mono ?_
        rintro e w9 ⟨rfl, hb9⟩
        have hX9 : Below w8.heap.size w8 w9 := (Below.refl _ _).drew.trans hb9
        have hx9 := hX9.size
        rw [HR.out]
        refine ⟨_, rfl, hX9, ?_⟩
        have hHeld := hX9
        simp only [List.set_cons_zero, List.set_cons_succ]
        refine held_take 4 (v := ?_) rfl rfl (by kernel_rfl) (by kernel_rfl) (by kernel_rfl) (fun _ _ _ h => h) (by rfl) ?_ (by assumption) ?_
        rotate_left
        · intro wx hSw; clear hSw; go_simp; try with_reducible rfl
        simp only [List.set_cons_zero, List.set_cons_succ]
        refine held_take 5 (v := ?_) rfl rfl (by kernel_rfl) (by kernel_rfl) (by kernel_rfl) (fun _ _ _ h => h) (by rfl) ?_ (by assumption) ?_
        rotate_left
        · intro wx hSw; clear hSw; go_simp; try with_reducible rfl
        simp only [List.set_cons_zero, List.set_cons_succ]
        refine held_take 6 (v := ?_) rfl rfl (by kernel_rfl) (by kernel_rfl) (by kernel_rfl) (fun _ _ _ h => h) (by rfl) ?_ (by assumption) ?_
        rotate_left
        · intro wx hSw; clear hSw; go_simp; try with_reducible rfl
        simp only [List.set_cons_zero, List.set_cons_succ]
        refine held_take 7 (v := ?_) rfl rfl (by kernel_rfl) (by kernel_rfl) (by kernel_rfl) (fun _ _ _ h => h) (by rfl) ?_ (by assumption) ?_
        rotate_left
        · intro wx hSw; clear hSw; go_simp; try with_reducible rfl
        simp only [List.set_cons_zero, List.set_cons_succ]
        refine held_call 8 (f := ?_) (args := ?_) rfl rfl (by kernel_rfl) (by rfl) ?_ ?_
        rotate_left 2
        · go_simp; first | done | with_reducible rfl | (refine And.intro ?_ ?_ <;> with_reducible rfl) | (refine And.intro ?_ (And.intro ?_ ?_) <;> with_reducible rfl)
        refine (first11 g5 0 cap5 g8 0 cap8 (vals ws) (vals ws') w9 (by rw [vals_length]; exact hln) (by rw [vals_length]; exact HC8.out.len) (HV8.out.below hX9 (by omega)) (HU8.out.below hX9 hg8') (by omega) (by omega) HF.out).mono ?_
        rintro e wA ⟨rfl, hbA⟩
        have hXA : Below w8.heap.size w8 wA := hX9.trans (hbA.mono hx9)
        refine ⟨_, rfl, hXA, ?_⟩
        have hHeld := hXA
        simp only [List.set_cons_zero, List.set_cons_succ]
        refine held_take 9 (v := ?_) rfl rfl (by kernel_rfl) (by kernel_rfl) (by kernel_rfl) (fun _ _ _ h => h) (by rfl) ?_ (by assumption) ?_
        rotate_left
        · intro wx hSw; clear hSw; go_simp; try with_reducible rfl
        simp only [List.set_cons_zero, List.set_cons_succ]
        refine held_take 10 (v := ?_) rfl rfl (by kernel_rfl) (by kernel_rfl) (by kernel_rfl) (fun _ _ _ h => h) (by rfl) ?_ (by assumption) ?_
        rotate_left
        · intro wx hSw; clear hSw; go_simp; try with_reducible rfl
        simp only [List.set_cons_zero, List.set_cons_succ]
        refine wpAnyH_done (by kernel_rfl) ?_ _
        go_wp2_with fail
        go_meet
        exact ⟨rfl, rfl, rfl, hXA⟩
      · simp only at hR hfr hto
        subst hfr hto
        obtain ⟨idb, hidb⟩ : ∃ x, idOf ws' = x := ⟨_, rfl⟩
        have hil : (u8s idb).length = 16 := by rw [← hidb, u8s_length]; exact idOf_length ws' HC8.out.len
        rw [hidb] at hR
        have HR1 := Lib.hid hR.1; have HR2 := Lib.hid hR.2; have HIL := Lib.hid hil; have HIDB := Lib.hid hidb
        clear hR hil hidb
        have HKEYL := Lib.hid (keyOf_length ws' HC8.out.len)
        have HAK := Lib.hid HA.out.key
        go_wp2_with fail
        refine (otp_id r ws' false w8 HC8.out).mono ?_
        rintro e w9 ⟨rfl, hb9⟩
        have hX9 : Below w8.heap.size w8 w9 := hb9
        have hx9 := hX9.size
        clear hb9
        rw [HIDB.out]
        go_upto_region 29 with ((with_reducible refine at_store 47 ?_); refine wpList_store_blk _ 0 rfl (u8s idb) rfl _ _ (Blk.new w9 47 z16) (by rw [HIL.out]; kernel_rfl) (by rw [HIL.out]; decide) (u8s_one _) ?_; intro w10 h10 j10; have hj := below_stored j10; rw [splice_all _ _ (by rw [HIL.out]; rfl)] at h10; have hX10 : Below w8.heap.size w8 w10 := hX9.trans (hj.mono hx9); have H10 := Lib.hid h10; have hx10 := hX10.size; have hj10 := hj.size; clear h10 j10 hj)
        have E10 := Lib.hid (D8.out.below hX10 D8.out.lt)
        have HC10 := Lib.hid (HC8.out.below hX10 (Nat.le_refl _))
        have hlt10 := E10.out.lt
        have hltid := H10.out.lt
        refine wp_region_held_drew (S := fun wx => Below w10.heap.size w10 wx) (by kernel_rfl) (Below.refl _ _).drew (fun hHeld => ?_)
        refine held_take 0 (v := ?_) rfl rfl (by kernel_rfl) (by kernel_rfl) (by kernel_rfl) (fun _ _ _ h => h) (by rfl) ?_ (by assumption) ?_
        rotate_left
        · intro wx hSw; clear hSw; go_simp; try with_reducible rfl
        simp only [List.set_cons_zero, List.set_cons_succ]
        refine held_take 2 (v := ?_) rfl rfl (by kernel_rfl) (by kernel_rfl) (by kernel_rfl) (fun _ _ _ h => h) (by rfl) ?_ (by assumption) ?_
        rotate_left
        · intro wx hSw; clear hSw; go_simp; try with_reducible rfl
        simp only [List.set_cons_zero, List.set_cons_succ]
        refine held_take 3 (v := ?_) rfl rfl (by kernel_rfl) (by kernel_rfl) (by kernel_rfl) (fun _ _ _ h => h) (by rfl) ?_ (by assumption) ?_
        rotate_left
        · intro wx hSw; clear hSw; go_simp; try with_reducible rfl
        simp only [List.set_cons_zero, List.set_cons_succ]
        refine held_take 4 (v := ?_) rfl rfl (by kernel_rfl) (by kernel_rfl) (by kernel_rfl) (fun _ _ _ h => h) (by rfl) ?_ (by assumption) ?_
        rotate_left
        · intro wx hSw; clear hSw; go_simp; try with_reducible rfl
        simp only [List.set_cons_zero, List.set_cons_succ]
        refine held_take 5 (v := ?_) rfl rfl (by kernel_rfl) (by kernel_rfl) (by kernel_rfl) (fun _ _ _ h => h) (by rfl) ?_ (by assumption) ?_
        rotate_left
        · intro wx hSw; clear hSw; go_simp; try with_reducible rfl
        simp only [List.set_cons_zero, List.set_cons_succ]
        refine held_two (i := 1) (j := 6) (by kernel_rfl) ?_ ?_
        · refine step_call 1 (f := ?_) (args := ?_) rfl rfl (by rfl) ?_ ?_
          rotate_left 2
          · go_simp; first | done | with_reducible rfl | (refine And.intro ?_ ?_ <;> with_reducible rfl) | (refine And.intro ?_ (And.intro ?_ ?_) <;> with_reducible rfl)
          refine (otp_key r ws' false _ (HC10.out.below (Below.refl _ _).drew (Nat.le_refl _))).mono ?_
          rintro e w11 ⟨v11, rfl, hown11, hb11⟩
          rw [HR1.out] at hown11
          obtain ⟨a11, g11, cap11, rfl, hcap11, hg11, hu11⟩ := own_u8s hown11
          have hX11 : Below w10.heap.size w10 w11 := (Below.refl _ _).drew.trans hb11
          have hx11 := hX11.size
          have HU11 := Lib.hid hu11
          clear hown11 hu11 hb11
          refine ⟨_, rfl, hX11, ?_⟩
          have hHeld := hX11
          simp only [List.set_cons_zero, List.set_cons_succ]
          refine held_op 6 (v := ?_) (w' := ?_) rfl rfl (by kernel_rfl) (by rfl) ?_ ?_ ?_
          rotate_left 2
          · go_simp; first | done | with_reducible rfl | (refine And.intro ?_ ?_ <;> with_reducible rfl) | (refine And.intro ?_ (And.intro ?_ ?_) <;> with_reducible rfl)
          · exact hX11.alloc hx11 _
          simp only [List.set_cons_zero, List.set_cons_succ]
          obtain ⟨w12, hw12⟩ : ∃ wx, w11.alloc (.cells #[.slice (some ⟨w.heap.size + 1, 2, none⟩) 32 32, .slice (some ⟨w.heap.size + 1, 2, none⟩) 24 32] 22) = wx := ⟨_, rfl⟩
          rw [hw12]
          have hX12 : Below w10.heap.size w10 w12 := by rw [← hw12]; exact hX11.alloc hx11 _
          have hgl11 : g11 < w11.heap.size := by have := hg11.resolve_left (by omega); omega
          have hB12 := Blk.new w11 22 [.slice (some ⟨w.heap.size + 1, 2, none⟩) 32 32, .slice (some ⟨w.heap.size + 1, 2, none⟩) 24 32]
          rw [hw12] at hB12
          have hU12 : U8At w12 g11 0 (A.key ++ A.key.take 24) := by
            rw [← hw12]; exact HU11.out.below (below_alloc _ _) hgl11
          have hgl12 : g11 < w12.heap.size := by rw [← hw12, World.size_alloc]; omega
          clear hw12
          have hHeld := hX12
          have hx12 := hX12.size
          have hbl12 := hB12.lt
          have HB12 := Lib.hid hB12; have HU12 := Lib.hid hU12
          clear hB12 hU12
          refine held_call 7 (f := ?_) (args := ?_) rfl rfl (by kernel_rfl) (by rfl) ?_ ?_
          rotate_left 2
          · go_simp; first | done | with_reducible rfl | (refine And.intro ?_ ?_ <;> with_reducible rfl) | (refine And.intro ?_ (And.intro ?_ ?_) <;> with_reducible rfl)
          refine (r1_join _ w11.heap.size 0 2 2 [⟨some ⟨w.heap.size + 1, 2, none⟩, w.heap.size + 1, 2, 32, 32, A.key.take 32⟩, ⟨some ⟨w.heap.size + 1, 2, none⟩, w.heap.size + 1, 2, 24, 32, A.key.take 24⟩] w12 rfl (by omega) (.inr ⟨rfl, hbl12⟩) ?_ ?_ ?_).mono ?_
          · intro i hi
            match i, hi with
            | 0, _ => exact HB12.out.cell 0
            | 1, _ => exact HB12.out.cell 1
          · intro i hi
            match i, hi with
            | 0, _ => exact key_pieces (w := w10) E10.out (by rw [HKEY.out]) HAK.out hX12 32 (by omega)
            | 1, _ => exact key_pieces (w := w10) E10.out (by rw [HKEY.out]) HAK.out hX12 24 (by omega)
          · simp [joined, HAK.out]
          rintro e w13 ⟨v13, rfl, hown13, hb13⟩
          have hJl : (joined [⟨some ⟨w.heap.size + 1, 2, none⟩, w.heap.size + 1, 2, 32, 32, A.key.take 32⟩, ⟨some ⟨w.heap.size + 1, 2, none⟩, w.heap.size + 1, 2, 24, 32, A.key.take 24⟩]) = A.key ++ A.key.take 24 := by
            simp only [joined, List.flatMap_cons, List.flatMap_nil, List.append_nil]
            rw [List.take_of_length_le (by rw [HAK.out]; exact Nat.le_refl _)]
          rw [hJl] at hown13
          obtain ⟨a13, g13, cap13, rfl, hcap13, hg13, hu13⟩ := own_u8s hown13
          have hX13 : Below w10.heap.size w10 w13 := hX12.trans (hb13.mono hx12)
          have hx13 := hX13.size
          have HU13 := Lib.hid (HU12.out.below hb13 (by omega))
          have HV13 := Lib.hid hu13
          have hkl2 : (A.key ++ A.key.take 24).length = 56 := by rw [List.length_append, List.length_take, HAK.out]; rfl
          rw [hkl2] at hcap13 hg13 ⊢
          clear hown13 hu13 hb13 hJl
          refine ⟨_, rfl, hX13, ?_⟩
          have hHeld := hX13
          simp only [List.set_cons_zero, List.set_cons_succ]
          refine held_call 8 (f := ?_) (args := ?_) rfl rfl (by kernel_rfl) (by rfl) ?_ ?_
          rotate_left 2
          · go_simp; first | done | with_reducible rfl | (refine And.intro ?_ ?_ <;> with_reducible rfl) | (refine And.intro ?_ (And.intro ?_ ?_) <;> with_reducible rfl)
          refine (r1_same _ _ g11 0 56 _ g13 0 56 _ (A.key ++ A.key.take 24) (A.key ++ A.key.take 24) w13 hkl2 hkl2 (by omega) (hg11.imp id fun h => h.1) (hg13.imp id fun h => h.1) HU13.out HV13.out).mono ?_
          rintro e w14 ⟨rfl, hb14⟩
          rw [decide_eq_true rfl]
          have hX14 : Below w10.heap.size w10 w14 := hX13.trans (hb14.mono hx13)
          have hx14 := hX14.size
          refine ⟨_, rfl, hX14, ?_⟩
          have hHeld := hX14
          simp only [List.set_cons_zero, List.set_cons_succ]
          refine held_take 9 (v := ?_) rfl rfl (by kernel_rfl) (by kernel_rfl) (by kernel_rfl) (fun _ _ _ h => h) (by rfl) ?_ (by assumption) ?_
          rotate_left
          · intro wx hSw; clear hSw; go_simp; try with_reducible rfl
          simp only [List.set_cons_zero, List.set_cons_succ]
          refine held_take 10 (v := ?_) rfl rfl (by kernel_rfl) (by kernel_rfl) (by kernel_rfl) (fun _ _ _ h => h) (by rfl) ?_ (by assumption) ?_
          rotate_left
          · intro wx hSw; clear hSw; go_simp; try with_reducible rfl
          simp only [List.set_cons_zero, List.set_cons_succ]
          refine held_take 11 (v := ?_) rfl rfl (by kernel_rfl) (by kernel_rfl) (by kernel_rfl) (fun _ _ _ h => h) (by rfl) ?_ (by assumption) ?_
          rotate_left
          · intro wx hSw; clear hSw; go_simp; try with_reducible rfl
          simp only [List.set_cons_zero, List.set_cons_succ]
          refine held_take 12 (v := ?_) rfl rfl (by kernel_rfl) (by kernel_rfl) (by kernel_rfl) (fun _ _ _ h => h) (by rfl) ?_ (by assumption) ?_
          rotate_left
          · intro wx hSw; clear hSw; go_simp; try with_reducible rfl
          simp only [List.set_cons_zero, List.set_cons_succ]
          refine held_call 13 (f := ?_) (args := ?_) rfl rfl (by kernel_rfl) (by rfl) ?_ ?_
          rotate_left 2
          · go_simp; first | done | with_reducible rfl | (refine And.intro ?_ ?_ <;> with_reducible rfl) | (refine And.intro ?_ (And.intro ?_ ?_) <;> with_reducible rfl)
          have hp16 := key_pieces (w := w10) E10.out (by rw [HKEY.out]) HAK.out hX14 16 (by omega)
          refine (r1_same _ _ w9.heap.size 0 16 _ (w.heap.size + 1) 2 16 _ idb (A.key.take 16) w14 (by rw [← u8s_length]; exact HIL.out) (by rw [List.length_take, HAK.out]; rfl) (by omega) (.inr rfl) (.inr rfl) ((U8At.blk H10.out).below hX14 hltid) hp16.row).mono ?_
          rintro e w15 ⟨rfl, hb15⟩
          rw [decide_eq_true HR2.out]
          have hX15 : Below w10.heap.size w10 w15 := hX14.trans (hb15.mono hx14)
          refine ⟨_, rfl, hX15, ?_⟩
          have hHeld := hX15
          simp only [List.set_cons_zero, List.set_cons_succ]
          refine held_take 14 (v := ?_) rfl rfl (by kernel_rfl) (by kernel_rfl) (by kernel_rfl) (fun _ _ _ h => h) (by rfl) ?_ (by assumption) ?_
          rotate_left
          · intro wx hSw; clear hSw; go_simp; try with_reducible rfl
          simp only [List.set_cons_zero, List.set_cons_succ]
          refine held_take 15 (v := ?_) rfl rfl (by kernel_rfl) (by kernel_rfl) (by kernel_rfl) (fun _ _ _ h => h) (by rfl) ?_ (by assumption) ?_
          rotate_left
          · intro wx hSw; clear hSw; go_simp; try with_reducible rfl
          simp only [List.set_cons_zero, List.set_cons_succ]
          refine wpAnyH_done (by kernel_rfl) ?_ _
          go_wp2_with fail
          go_meet
          exact ⟨rfl, rfl, rfl, hX10.trans (hX15.mono hx10)⟩
        · refine step_op 6 (v := ?_) (w' := ?_) rfl rfl (by rfl) ?_ ?_ ?_
          rotate_left 2
          · go_simp; first | done | with_reducible rfl | (refine And.intro ?_ ?_ <;> with_reducible rfl)
          · exact ((Below.refl _ _).drew).alloc (Nat.le_refl _) _
          simp only [List.set_cons_zero, List.set_cons_succ]
          obtain ⟨w11, hw11⟩ : ∃ wx, w10.drew.alloc (.cells #[.slice (some ⟨w.heap.size + 1, 2, none⟩) 32 32, .slice (some ⟨w.heap.size + 1, 2, none⟩) 24 32] 22) = wx := ⟨_, rfl⟩
          have hw11' : (w10.alloc (.cells #[.slice (some ⟨w.heap.size + 1, 2, none⟩) 32 32, .slice (some ⟨w.heap.size + 1, 2, none⟩) 24 32] 22)).drew = w11 := hw11
          rw [hw11']
          have hX11 : Below w10.heap.size w10 w11 := by rw [← hw11]; exact ((Below.refl _ _).drew).alloc (Nat.le_refl _) _
          have hHeld := hX11
          have hx11 := hX11.size
          have hB11 : Blk w11 w10.heap.size 22 [.slice (some ⟨w.heap.size + 1, 2, none⟩) 32 32, .slice (some ⟨w.heap.size + 1, 2, none⟩) 24 32] := by
            rw [← hw11]; exact Blk.new w10.drew 22 _
          clear hw11 hw11'
          refine held_call 1 (f := ?_) (args := ?_) rfl rfl (by kernel_rfl) (by rfl) ?_ ?_
          rotate_left 2
          · go_simp; first | done | with_reducible rfl | (refine And.intro ?_ ?_ <;> with_reducible rfl) | (refine And.intro ?_ (And.intro ?_ ?_) <;> with_reducible rfl)
          refine (otp_key r ws' false _ (HC10.out.below hX11 (Nat.le_refl _))).mono ?_
          rintro e w12 ⟨v11, rfl, hown11, hb11⟩
          rw [HR1.out] at hown11
          obtain ⟨a11, g11, cap11, rfl, hcap11, hg11, hU12⟩ := own_u8s hown11
          have hX12 : Below w10.heap.size w10 w12 := hX11.trans (hb11.mono hx11)
          have hgl11 : g11 < w12.heap.size := by have := hg11.resolve_left (by omega); omega
          have hB12 := hB11.below hb11 hB11.lt
          clear hown11 hB11 hb11
          have hgl12 := hgl11
          refine ⟨_, rfl, hX12, ?_⟩
          simp only [List.set_cons_zero, List.set_cons_succ]
          have hHeld := hX12
          have hx12 := hX12.size
          have hbl12 := hB12.lt
          have HB12 := Lib.hid hB12; have HU12 := Lib.hid hU12
          clear hB12 hU12
          refine held_call 7 (f := ?_) (args := ?_) rfl rfl (by kernel_rfl) (by rfl) ?_ ?_
          rotate_left 2
          · go_simp; first | done | with_reducible rfl | (refine And.intro ?_ ?_ <;> with_reducible rfl) | (refine And.intro ?_ (And.intro ?_ ?_) <;> with_reducible rfl)
          refine (r1_join _ w10.heap.size 0 2 2 [⟨some ⟨w.heap.size + 1, 2, none⟩, w.heap.size + 1, 2, 32, 32, A.key.take 32⟩, ⟨some ⟨w.heap.size + 1, 2, none⟩, w.heap.size + 1, 2, 24, 32, A.key.take 24⟩] w12 rfl (by omega) (.inr ⟨rfl, hbl12⟩) ?_ ?_ ?_).mono ?_
          · intro i hi
            match i, hi with
            | 0, _ => exact HB12.out.cell 0
            | 1, _ => exact HB12.out.cell 1
          · intro i hi
            match i, hi with
            | 0, _ => exact key_pieces (w := w10) E10.out (by rw [HKEY.out]) HAK.out hX12 32 (by omega)
            | 1, _ => exact key_pieces (w := w10) E10.out (by rw [HKEY.out]) HAK.out hX12 24 (by omega)
          · simp [joined, HAK.out]
          rintro e w13 ⟨v13, rfl, hown13, hb13⟩
          have hJl : (joined [⟨some ⟨w.heap.size + 1, 2, none⟩, w.heap.size + 1, 2, 32, 32, A.key.take 32⟩, ⟨some ⟨w.heap.size + 1, 2, none⟩, w.heap.size + 1, 2, 24, 32, A.key.take 24⟩]) = A.key ++ A.key.take 24 := by
            simp only [joined, List.flatMap_cons, List.flatMap_nil, List.append_nil]
            rw [List.take_of_length_le (by rw [HAK.out]; exact Nat.le_refl _)]
          rw [hJl] at hown13
          obtain ⟨a13, g13, cap13, rfl, hcap13, hg13, hu13⟩ := own_u8s hown13
          have hX13 : Below w10.heap.size w10 w13 := hX12.trans (hb13.mono hx12)
          have hx13 := hX13.size
          have HU13 := Lib.hid (HU12.out.below hb13 (by omega))
          have HV13 := Lib.hid hu13
          have hkl2 : (A.key ++ A.key.take 24).length = 56 := by rw [List.length_append, List.length_take, HAK.out]; rfl
          rw [hkl2] at hcap13 hg13 ⊢
          clear hown13 hu13 hb13 hJl
          refine ⟨_, rfl, hX13, ?_⟩
          have hHeld := hX13
          simp only [List.set_cons_zero, List.set_cons_succ]
          refine held_call 8 (f := ?_) (args := ?_) rfl rfl (by kernel_rfl) (by rfl) ?_ ?_
          rotate_left 2
          · go_simp; first | done | with_reducible rfl | (refine And.intro ?_ ?_ <;> with_reducible rfl) | (refine And.intro ?_ (And.intro ?_ ?_) <;> with_reducible rfl)
          refine (r1_same _ _ g11 0 56 _ g13 0 56 _ (A.key ++ A.key.take 24) (A.key ++ A.key.take 24) w13 hkl2 hkl2 (by omega) (hg11.imp id fun h => h.1) (hg13.imp id fun h => h.1) HU13.out HV13.out).mono ?_
          rintro e w14 ⟨rfl, hb14⟩
          rw [decide_eq_true rfl]
          have hX14 : Below w10.heap.size w10 w14 := hX13.trans (hb14.mono hx13)
          have hx14 := hX14.size
          refine ⟨_, rfl, hX14, ?_⟩
          have hHeld := hX14
          simp only [List.set_cons_zero, List.set_cons_succ]
          refine held_take 9 (v := ?_) rfl rfl (by kernel_rfl) (by kernel_rfl) (by kernel_rfl) (fun _ _ _ h => h) (by rfl) ?_ (by assumption) ?_
          rotate_left
          · intro wx hSw; clear hSw; go_simp; try with_reducible rfl
          simp only [List.set_cons_zero, List.set_cons_succ]
          refine held_take 10 (v := ?_) rfl rfl (by kernel_rfl) (by kernel_rfl) (by kernel_rfl) (fun _ _ _ h => h) (by rfl) ?_ (by assumption) ?_
          rotate_left
          · intro wx hSw; clear hSw; go_simp; try with_reducible rfl
          simp only [List.set_cons_zero, List.set_cons_succ]
          refine held_take 11 (v := ?_) rfl rfl (by kernel_rfl) (by kernel_rfl) (by kernel_rfl) (fun _ _ _ h => h) (by rfl) ?_ (by assumption) ?_
          rotate_left
          · intro wx hSw; clear hSw; go_simp; try with_reducible rfl
          simp only [List.set_cons_zero, List.set_cons_succ]
          refine held_take 12 (v := ?_) rfl rfl (by kernel_rfl) (by kernel_rfl) (by kernel_rfl) (fun _ _ _ h => h) (by rfl) ?_ (by assumption) ?_
          rotate_left
          · intro wx hSw; clear hSw; go_simp; try with_reducible rfl
          simp only [List.set_cons_zero, List.set_cons_succ]
          refine held_call 13 (f := ?_) (args := ?_) rfl rfl (by kernel_rfl) (by rfl) ?_ ?_
          rotate_left 2
          · go_simp; first | done | with_reducible rfl | (refine And.intro ?_ ?_ <;> with_reducible rfl) | (refine And.intro ?_ (And.intro ?_ ?_) <;> with_reducible rfl)
          have hp16 := key_pieces (w := w10) E10.out (by rw [HKEY.out]) HAK.out hX14 16 (by omega)
          refine (r1_same _ _ w9.heap.size 0 16 _ (w.heap.size + 1) 2 16 _ idb (A.key.take 16) w14 (by rw [← u8s_length]; exact HIL.out) (by rw [List.length_take, HAK.out]; rfl) (by omega) (.inr rfl) (.inr rfl) ((U8At.blk H10.out).below hX14 hltid) hp16.row).mono ?_
          rintro e w15 ⟨rfl, hb15⟩
          rw [decide_eq_true HR2.out]
          have hX15 : Below w10.heap.size w10 w15 := hX14.trans (hb15.mono hx14)
          refine ⟨_, rfl, hX15, ?_⟩
          have hHeld := hX15
          simp only [List.set_cons_zero, List.set_cons_succ]
          refine held_take 14 (v := ?_) rfl rfl (by kernel_rfl) (by kernel_rfl) (by kernel_rfl) (fun _ _ _ h => h) (by rfl) ?_ (by assumption) ?_
          rotate_left
          · intro wx hSw; clear hSw; go_simp; try with_reducible rfl
          simp only [List.set_cons_zero, List.set_cons_succ]
          refine held_take 15 (v := ?_) rfl rfl (by kernel_rfl) (by kernel_rfl) (by kernel_rfl) (fun _ _ _ h => h) (by rfl) ?_ (by assumption) ?_
          rotate_left
          · intro wx hSw; clear hSw; go_simp; try with_reducible rfl
          simp only [List.set_cons_zero, List.set_cons_succ]
          refine wpAnyH_done (by kernel_rfl) ?_ _
          go_wp2_with fail
          go_meet
          exact ⟨rfl, rfl, rfl, hX10.trans (hX15.mono hx10)⟩
      · simp only at hR hfr hto
        obtain ⟨hn0, hn4, hrow⟩ := hR
        have HR := Lib.hid hrow; clear hrow
        have hak := HA.out.key
        have heK := equal_octets 41 5 32 Try.underlying41 Try.underlying5 (by kernel_rfl) A.key A.key hak hak
        simp only [decide_true] at heK
        obtain ⟨kk, hkk⟩ : ∃ kk, u8s A.key = kk := ⟨_, rfl⟩
        have hkkl : kk.length = 32 := by rw [← hkk, u8s_length]; exact hak
        have hko : ∀ v ∈ kk, v.oneCell' = true := by rw [← hkk]; exact u8s_one _
        rw [hkk] at heK
        have HEK := Lib.hid heK; have HKK := Lib.hid hkk; have HKL2 := Lib.hid hkkl; have HKO := Lib.hid hko
        clear heK hkk hkkl hko hak
        go_upto_region 31 with fail
        go_quiet (fail)
        have hcq := HC1S.out _ (below_drewN (Below.refl w8.heap.size w8) nq)
        go_wp2_with fail
        refine (otp_row r ws' false A.n _ (HC8.out.below (below_drewN (Below.refl w8.heap.size w8) _) (Nat.le_refl _))).mono ?_
        rintro e w9 ⟨rfl, hb9⟩
        rw [HR.out]
        rw [HKK.out]
        have hX9 : Below w8.heap.size w8 w9 := (below_drewN (Below.refl w8.heap.size w8) _).trans hb9
        have hx9 := hX9.size
        clear hb9 hcq
        go_wp2_with (first
          | ((with_reducible refine at_load_g 41 ?_); first | refine wpList_load_blk_g rfl _ 0 32 kk rfl _ _ _ H10.out Try.underlying41 rfl (by kernel_rfl) (by rw [HKL2.out]; omega) (by rw [List.drop_zero, List.take_of_length_le (by rw [HKL2.out]; omega)]) ?_ | refine wpList_load_blk_g rfl _ 2 32 kk rfl _ _ _ D10.out Try.underlying41 rfl (by kernel_rfl) (by rw [HAL.out]; omega) (by rw [HKEY.out, HKK.out]) ?_)
          | ((with_reducible refine at_store 41 ?_); refine wpList_store_blk _ 0 rfl kk rfl _ _ (Blk.new w9 41 z32) (by rw [HKL2.out]; kernel_rfl) (by rw [HKL2.out]; decide) HKO.out ?_; intro w10 h10 j10; have hj := below_stored j10; rw [splice_all _ _ (by rw [HKL2.out]; rfl)] at h10; have hX10 : Below w8.heap.size w8 w10 := hX9.trans (hj.mono hx9); have H10 := Lib.hid h10; have D10 := Lib.hid (D8.out.below hX10 D8.out.lt); clear h10 j10 hj; have E10 := HEK.out w10))
        go_meet
        exact ⟨by rw [← hfr], by rw [← hto], rfl, hX10⟩
      · simp only at hR hfr hto
        obtain ⟨hn0, hn4, hrow⟩ := hR
        have HR := Lib.hid hrow; clear hrow
        have hrl := rowOf_len ws' false A.n HC8.out.len
        obtain ⟨Z, hZ⟩ : ∃ Z, u8s (rowOf ws' false A.n).1 = Z := ⟨_, rfl⟩
        have hZl : Z.length = 32 := by rw [← hZ, u8s_length]; exact hrl
        have hZo : ∀ v ∈ Z, v.oneCell' = true := by rw [← hZ]; exact u8s_one _
        have HZ := Lib.hid hZ; have HZL := Lib.hid hZl; have HZO := Lib.hid hZo
        clear hrl hZ hZl hZo
        go_upto_region 18 with fail
        go_quiet (fail)
        have hcq := HC1S.out _ (below_drewN (Below.refl w8.heap.size w8) nq)
        go_wp2_with fail
        refine (otp_row r ws' false A.n _ (HC8.out.below (below_drewN (Below.refl w8.heap.size w8) _) (Nat.le_refl _))).mono ?_
        rintro e w9 ⟨rfl, hb9⟩
        rw [HR.out, HZ.out]
        have hX9 : Below w8.heap.size w8 w9 := (below_drewN (Below.refl w8.heap.size w8) _).trans hb9
        have hx9 := hX9.size
        clear hb9 hcq
        go_wp2_with ((with_reducible refine at_store 41 ?_); refine wpList_store_blk _ 0 rfl Z rfl _ _ (Blk.new w9 41 z32) (by rw [HZL.out]; kernel_rfl) (by rw [HZL.out]; decide) HZO.out ?_; intro w10 h10 j10; have hj := below_stored j10; have hX10 : Below w8.heap.size w8 w10 := hX9.trans (hj.mono hx9); clear h10 j10 hj)
        go_meet
        exact ⟨by rw [← hfr], by rw [← hto], rfl, hX10⟩
    case rest =>
    obtain ⟨rfl, rfl, rfl, hX9⟩ := hcut
    rename World => w9
    clear hR hfr hto hc0 hc1 HC1S
    have hx9 := hX9.size
    go_wp2_with fail
    go_loopw [141] (fun i wr => ∃ j : Nat, j ≤ 64 ∧ i = .int .i64 j ∧ Below w8.heap.size w8 wr) (fun i _ => 64 - (intOf i).toNat)
    case atStart => exact ⟨0, by omega, rfl, hX9⟩
    case round =>
      obtain ⟨j, hj, rfl, hB⟩ := hrel
      rename World => wr
      by_cases hlt : j < 64
      · obtain ⟨x, hx⟩ : ∃ x, (vals ws').getD j 0 = x := ⟨_, rfl⟩
        have hx2 := getD_some hx (by rw [vals_length, HC8.out.len]; exact hlt)
        have hux := (HU8.out.below hB hg8').at hx2
        obtain ⟨y, hy⟩ : ∃ y, (vals ws).getD j 0 = y := ⟨_, rfl⟩
        have hy2 := getD_some hy (by rw [vals_length, hln]; exact hlt)
        have huy := (HV8.out.below hB (by omega)).at hy2
        have hxy : ((j : Int) < fr ∨ tt ≤ (j : Int)) → x = y := fun h => by rw [← hx, ← hy]; exact HAR.out j h
        rw [Nat.zero_add] at hux huy
        clear hx hx2 hy hy2
        go_upto_region 37 with fail
        by_cases hlo : (j : Int) < fr
        · obtain rfl := hxy (.inl hlo)
          clear hxy
          go_quiet (fail)
          go_wp2_with fail
          go_roundw
          case rel => exact ⟨j + 1, by omega, by go_num, below_drewN hB _⟩
          case measure => simp [intOf]; omega
        · by_cases hhi : tt ≤ (j : Int)
          · obtain rfl := hxy (.inr hhi)
            clear hxy
            go_quiet (fail)
            go_wp2_with fail
            go_roundw
            case rel => exact ⟨j + 1, by omega, by go_num, below_drewN hB _⟩
            case measure => simp [intOf]; omega
          · clear hxy
            go_quiet (fail)
            go_wp2_with fail
            go_roundw
            case rel => exact ⟨j + 1, by omega, by go_num, below_drewN hB _⟩
            case measure => simp [intOf]; omega
      · obtain rfl : j = 64 := by omega
        have hsB := hB.size
        have DB := Lib.hid (D8.out.below hB D8.out.lt)
        go_wp2_with ((with_reducible refine at_load 43 ?_); refine wpList_load_blk _ 0 37 ka rfl _ _ _ DB.out Try.underlying43 rfl (by kernel_rfl) (by rw [HAL.out]; omega) (by rw [List.drop_zero, List.take_of_length_le (by rw [HAL.out]; omega)]) ?_)
        rw [← HKA.out]
        refine (plan11_at r ws' false A wr (HC8.out.below hB (Nat.le_refl _)) HA.out).mono ?_
        rintro e wA ⟨p', pe', a', b', n', cap', hpl', rfl, _, hw', hbA⟩
        have hXA : Below w8.heap.size w8 wA := hB.trans (hbA.mono hsB)
        have hnn : m ≠ 0 → m ≠ 3 → n' = 0 := by
          intro h0 h3
          have := HAG.out (by rw [HM.out]; exact h0) (by rw [HM.out]; exact h3) _ hpl'
          change p' = [] at this
          have hl := hw'.len
          rw [this] at hl; simpa using hl.symm
        have hc0 := ((D8.out.below hXA D8.out.lt).cell 0).trans HK0.out
        clear hpl' hw' hbA
        have hfin : Below w.heap.size w wA := hB2.trans ((hX8.trans (hXA.mono hs8)).mono hB2.size)
        obtain rfl | rfl | rfl | rfl | rfl : m = 0 ∨ m = 1 ∨ m = 2 ∨ m = 3 ∨ m = 4 := by omega
        · clear hnn
          go_wp2_with fail
          go_ret
          exact ⟨rfl, hfin⟩
        · obtain rfl := hnn (by decide) (by decide)
          clear hnn
          go_wp2_with fail
          go_ret
          exact ⟨rfl, hfin⟩
        · obtain rfl := hnn (by decide) (by decide)
          clear hnn
          go_wp2_with fail
          go_ret
          exact ⟨rfl, hfin⟩
        · clear hnn
          go_wp2_with fail
          go_ret
          exact ⟨rfl, hfin⟩
        · obtain rfl := hnn (by decide) (by decide)
          clear hnn
          go_wp2_with fail
          go_ret
          exact ⟨rfl, hfin⟩
  · have hp0 := f2 hpe
    have hn0 : n6 = 0 := by
      have := HW6.out.len
      change p = [] at hp0
      rw [hp0] at this; simpa using this.symm
    subst hn0
    have hpn : ((pe : Int) == 0) = false := by simp; omega
    clear f2 hp0
    go_wp2_with fail
    go_ret
    exact ⟨rfl, hB2.trans (hX6.mono hB2.size)⟩
end Go.Proofs.Ytoefaghakjcfcaa
