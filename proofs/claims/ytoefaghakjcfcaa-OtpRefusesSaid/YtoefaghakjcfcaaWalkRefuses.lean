/- The walk of curtilagelaw11.OtpRefuses. -/
import Derived.Test.YtoefaghakjcfcaaPlan11
import Derived.Deep.CutBlock
namespace Go.Proofs.Ytoefaghakjcfcaa
open Go.RowKit

set_option maxRecDepth 100000 in
set_option maxHeartbeats 4000000 in
theorem refuses_walk (V : List (BitVec 32)) (A : Act11) (a : Option Addr) (b o n cap : Nat) (l : List (BitVec 8)) (w : World) (hV : V.length = 64) (hA : A.Ok) (hl : l.length = n) (hn2 : n ≤ 9223372036854775807) (hb : n = 0 ∨ (a = some ⟨b, o, none⟩ ∧ b < w.heap.size)) (hu : U8At w b o l) :
    Calls Try.prog 4 #[.agg (u32s V).toArray, .agg (actCells A).toArray, .slice a n cap] w fun e w' => e = .returned (.bool true) ∧ Below w.heap.size w w' := by
  have hkl : (u32s V).length = 64 := by rw [u32s_length]; exact hV
  obtain ⟨kv, hkv⟩ : ∃ kv, u32s V = kv := ⟨_, rfl⟩
  obtain ⟨ka, hka⟩ : ∃ ka, actCells A = ka := ⟨_, rfl⟩
  have hal : ka.length = 37 := by rw [← hka]; exact actCells_length hA
  rw [hkv] at hkl
  rw [hkv, hka]
  obtain ⟨W1, hW1, b1, b2, b3, hs⟩ := allocs2 w kv ka 39 43
  have hn1 : ka[1]? = some (.int .i64 A.n) := by rw [← hka]; rfl
  have hkey : (ka.drop 2).take 32 = u8s A.key := by rw [← hka]; exact actCells_key hA
  obtain ⟨N, hN⟩ : ∃ N, A.n = N := ⟨_, rfl⟩
  rw [hN] at hn1
  obtain ⟨K, hK⟩ : ∃ K, A.key = K := ⟨_, rfl⟩
  rw [hK] at hkey
  have hKl : K.length = 32 := by rw [← hK]; exact hA.key
  have hNlo : -9223372036854775808 ≤ N := by rw [← hN]; exact hA.lo
  have hNhi : N ≤ 9223372036854775807 := by rw [← hN]; exact hA.hi
  have HV := Lib.hid hV; have HL := Lib.hid hl; have HB := Lib.hid hb; have HU := Lib.hid hu; have HKV := Lib.hid hkv; have HKL := Lib.hid hkl; have HAL := Lib.hid hal; have HW1 := Lib.hid hW1; have HN1 := Lib.hid hn1; have HKEY := Lib.hid hkey; have HKK := Lib.hid hKl
  have B1 := Lib.hid b1; have B2 := Lib.hid b2
  clear hV hl hb hu hkv hka hkl hal hW1 hn1 hkey hN hK hKl b1 b2 hA
  go_enter Try.func4, Try.ntmps4
  go_wp2_with fail
  change Calls _ _ _ ((w.alloc (.cells kv.toArray 39)).alloc (.cells ka.toArray 43)) _
  rw [HW1.out]
  refine (awake11 W1).mono ?_
  rintro e w2 ⟨rfl, hb2⟩
  have hB2 : Below w.heap.size w w2 := b3.trans (hb2.mono (by omega))
  have c1 := B1.out.below hb2 (by omega)
  have c2 := B2.out.below hb2 (by omega)
  have C1 := Lib.hid c1; have C2 := Lib.hid c2
  clear c1 c2 hb2 b3
  go_wp2_with ((with_reducible refine at_load 39 ?_); refine wpList_load_blk _ 0 64 kv rfl _ _ _ C1.out Try.underlying39 rfl (by kernel_rfl) (by rw [HKL.out]; omega) (by rw [List.drop_zero, List.take_of_length_le (by rw [HKL.out]; omega)]) ?_)
  rw [← HKV.out]
  refine (lay11 V _ HV.out).mono ?_
  rintro e w3 ⟨r, rfl, hch, h1, h2, h3, hb3⟩
  have hX3 : Below w2.heap.size w2 w3 := hb3
  have hnc : ∀ wx, Below w2.heap.size w2 wx → wx.cell? ⟨w.heap.size + 1, 1, none⟩ = some (.int .i64 N) := fun wx hx => (C2.out.below hx (by have := C2.out.lt; omega)).cell 1 |>.trans HN1.out
  have HNC := Lib.hid hnc
  have hup : U8At w3 b o l ∨ n = 0 := by
    rcases HB.out with h | ⟨_, h⟩
    · exact .inr h
    · exact .inl (HU.out.below (hB2.trans (hb3.mono hB2.size)) h)
  have HC3 := Lib.hid hch; clear hch hb3
  have hs3 := hX3.size
  go_wp2_with fail
  have hbc : n = 0 ∨ (a = some ⟨b, o, none⟩ ∧ b < w3.heap.size) := by
    rcases HB.out with h | ⟨h, h'⟩
    · exact .inl h
    · exact .inr ⟨h, by have := hB2.size; omega⟩
  have huc : U8At w3 b o l := by
    rcases hup with h | h
    · exact h
    · intro i hi; rw [HL.out] at hi; omega
  refine (r1_cut a b o n cap 60 l w3 HL.out hn2 (by omega) hbc huc).mono ?_
  rintro e w4 ⟨v4, rfl, hown4, hb4⟩
  obtain ⟨P, hP⟩ : ∃ P, l.take 60 = P := ⟨_, rfl⟩
  rw [hP] at hown4
  obtain ⟨m, hm⟩ : ∃ m, min 60 n = m := ⟨_, rfl⟩
  rw [hm] at hown4
  have hPl : P.length = m := by rw [← hP, List.length_take, HL.out, hm]
  have hm60 : m ≤ 60 := by omega
  obtain ⟨a4, g4, cap4, rfl, hcap4, hg4, hup4⟩ := own_u8s hown4
  have HPL := Lib.hid hPl; have HG4 := Lib.hid hg4; have HUP4 := Lib.hid hup4
  clear hP hm hPl hg4 hup4 hown4 hup
  have HC4 := Lib.hid (HC3.out.below hb4 (Nat.le_refl _))
  have hX4 : Below w2.heap.size w2 w4 := hX3.trans (hb4.mono hs3)
  have hn4 := HNC.out w4 hX4
  have hs4 := hX4.size
  go_wp2_with fail
  refine (otp_toLife r (offs V) false N w4 HC4.out).mono ?_
  rintro e w5 ⟨v5, rfl, hown5, hb5⟩
  obtain ⟨E5, hE5⟩ : ∃ E5, (toLife (offs V) N).2 = E5 := ⟨_, rfl⟩
  rw [hE5]
  have HE5 := Lib.hid hE5
  clear hown5 hn4 hE5
  have HC5 := Lib.hid (HC4.out.below hb5 (Nat.le_refl _))
  have hX5 : Below w2.heap.size w2 w5 := hX4.trans (hb5.mono hs4)
  have hn5 := HNC.out w5 hX5
  have hs5 := hX5.size
  go_wp2_with fail
  refine (otp_toCounter_all r (offs V) false N w5 HC5.out).mono ?_
  rintro e w6 ⟨p6, hp6, v6, rfl, hown6, hb6⟩
  have hE6 := hp6.code
  rw [hE6]
  obtain ⟨E6, hE6⟩ : ∃ E6, countCode N (countOf (offs V)) = E6 := ⟨_, rfl⟩
  rw [hE6]
  have HE6 := Lib.hid hE6
  clear hown6 hn5 hE6 hp6
  have HC6 := Lib.hid (HC5.out.below hb6 (Nat.le_refl _))
  have hX6 : Below w2.heap.size w2 w6 := hX5.trans (hb6.mono hs5)
  have hn6 := HNC.out w6 hX6
  have hs6 := hX6.size
  go_wp2_with fail
  change Calls _ _ #[_, _, .agg z16.toArray] _ _
  rw [z16_eq]
  have HG6 : Hid (m = 0 ∨ (a4 = some ⟨g4, 0, none⟩ ∧ g4 < w6.heap.size)) := Lib.hid (by
    rcases HG4.out with h | ⟨h, _, h'⟩
    · exact .inl h
    · exact .inr ⟨h, by have := hb5.size; have := hb6.size; omega⟩)
  have HUP6 : Hid (U8At w6 g4 0 P) := Lib.hid (by
    rcases HG4.out with h | ⟨h, _, h'⟩
    · intro i hi; rw [HPL.out] at hi; omega
    · exact (HUP4.out.below hb5 h').below hb6 (by have := hb5.size; omega))
  refine (otp_toKey_all r (offs V) false a4 g4 m cap4 P (List.replicate 16 0) w6 HC6.out HPL.out hcap4 (by simp) HG6.out HUP6.out).mono ?_
  rintro e w7 ⟨v7, rfl, hown7, hb7⟩
  obtain ⟨E7, hE7⟩ : ∃ E7, (toKey (offs V) P (List.replicate 16 0)).2 = E7 := ⟨_, rfl⟩
  rw [hE7]
  have HE7 := Lib.hid hE7
  clear hown7 hn6 hE7
  have HC7 := Lib.hid (HC6.out.below hb7 (Nat.le_refl _))
  have hX7 : Below w2.heap.size w2 w7 := hX6.trans (hb7.mono hs6)
  have hn7 := HNC.out w7 hX7
  have hs7 := hX7.size
  have c7 := C2.out.below hX7 C2.out.lt
  have C7 := Lib.hid c7; clear c7
  go_wp2_with ((with_reducible refine at_load 41 ?_); refine wpList_load_blk _ 2 32 (u8s K) rfl _ _ _ C7.out Try.underlying41 rfl (by kernel_rfl) (by rw [HAL.out]; omega) HKEY.out ?_)
  refine (otp_toRow r (offs V) false N K HKK.out w7 HC7.out).mono ?_
  rintro e w8 ⟨v8, rfl, hown8, hb8⟩
  obtain ⟨E8, hE8⟩ : ∃ E8, (toRow (offs V) N K).2 = E8 := ⟨_, rfl⟩
  rw [hE8]
  have HE8 := Lib.hid hE8
  clear hown8 hn7 hE8
  have HC8 := Lib.hid (HC7.out.below hb8 (Nat.le_refl _))
  have hX8 : Below w2.heap.size w2 w8 := hX7.trans (hb8.mono hs7)
  have hn8 := HNC.out w8 hX8
  have hs8 := hX8.size
  go_wp2_with fail
  refine (otp_kill r (offs V) false N w8 HC8.out).mono ?_
  rintro e w9 ⟨v9, rfl, hown9, hb9⟩
  obtain ⟨E9, hE9⟩ : ∃ E9, (killOf (offs V) N).2 = E9 := ⟨_, rfl⟩
  rw [hE9]
  have HE9 := Lib.hid hE9
  clear hown9 hn8 hE9
  have hX9 : Below w2.heap.size w2 w9 := hX8.trans (hb9.mono hs8)
  have hn9 := HNC.out w9 hX9
  have hs9 := hX9.size
  have HUP9 : Hid (U8At w9 g4 0 P) := Lib.hid (by
    rcases HG6.out with h | ⟨h, h'⟩
    · intro i hi; rw [HPL.out] at hi; omega
    · exact ((HUP6.out.below hb7 h').below hb8 (by have := hb7.size; omega)).below hb9 (by have := hb7.size; have := hb8.size; omega))
  have HG9 : Hid (m = 0 ∨ (a4 = some ⟨g4, 0, none⟩ ∧ g4 < w9.heap.size)) := Lib.hid (by
    rcases HG6.out with h | ⟨h, h'⟩
    · exact .inl h
    · exact .inr ⟨h, by have := hb7.size; have := hb8.size; have := hb9.size; omega⟩)
  have c9 := C1.out.below hX9 C1.out.lt
  have hua : U32At w9 w.heap.size 0 V := by rw [← HKV.out] at c9; exact U32At.blk c9
  have HUA := Lib.hid hua
  have hB9 : Below w.heap.size w w9 := hB2.trans (hX9.mono hB2.size)
  clear HC3 HC4 HC5 HC6 HC7 HC8 hX3 hX4 hX5 hX6 hX7 hX8 hb4 hb5 hb6 hb7 hb8 hb9 hs3 hs4 hs5 hs6 hs7 hs8 HG4 HG6 HUP4 HUP6 C7 c9 hua h1 h2 h3
  go_upto_block 0 with fail
  go_cut [19] (fun s wx => s = .int .i64 E5 ∧ Below w9.heap.size w9 wx)
  case first =>
    have hE := HE5.out
    rw [toLife_code] at hE
    by_cases h1 : N < 1
    · rw [if_pos (.inl h1)] at hE; subst hE
      go_wp2_with fail
      go_meet
      exact ⟨rfl, Below.refl _ _⟩
    by_cases h4 : 4 < N
    · rw [if_pos (.inr h4)] at hE; subst hE
      go_wp2_with fail
      go_meet
      exact ⟨rfl, Below.refl _ _⟩
    rw [if_neg (by omega), lifeOf, vals_offs] at hE
    obtain ⟨L, hL⟩ : ∃ L, lifeTo (V.getD 0 0).toNat 4 = L := ⟨_, rfl⟩
    rw [hL] at hE
    have hq := fun d => (ref_life w.heap.size 0 64 64 V (w9.drewN d) (by omega) HV.out HUA.out).mono (R' := fun e w' => e = .returned (.int .i64 L) ∧ w' = w9.drewN d) (by rintro e w' ⟨rfl, rfl⟩; exact ⟨by rw [hL], rfl⟩)
    have HQ := Lib.hid hq; clear hL hq
    by_cases hle : N ≤ L
    · rw [if_pos hle] at hE; subst hE
      go_wp2_with fail
      go_quiet ((go_at_call 21; exact Calls.quiet_of_same (HQ.out _)))
      go_wp2_with fail
      go_meet
      exact ⟨rfl, below_drewN (Below.refl _ _) _⟩
    · rw [if_neg hle] at hE; subst hE
      go_wp2_with fail
      go_quiet ((go_at_call 21; exact Calls.quiet_of_same (HQ.out _)))
      go_wp2_with fail
      go_meet
      exact ⟨rfl, below_drewN (Below.refl _ _) _⟩
  case rest =>
  obtain ⟨rfl, hb10⟩ := hcut
  rename World => wa
  have hX10 : Below w2.heap.size w2 wa := hX9.trans (hb10.mono hs9)
  have hn10 := HNC.out wa hX10
  have hs10 : w9.heap.size ≤ wa.heap.size := hb10.size
  have hlt9 : w.heap.size < w9.heap.size := by have := C2.out.lt; have := hX9.size; omega
  have HUA10 := Lib.hid (HUA.out.below hb10 hlt9)
  have HUP10 : Hid (U8At wa g4 0 P) := Lib.hid (by
    rcases HG9.out with h | ⟨h, h'⟩
    · intro i hi; rw [HPL.out] at hi; omega
    · exact HUP9.out.below hb10 h')
  have hB10 : Below w.heap.size w wa := hB9.trans (hb10.mono hB9.size)
  clear hn9 HUA HUP9
  go_upto_block 1 with fail
  go_cut [20] (fun s wx => s = .int .i64 E6 ∧ Below wa.heap.size wa wx)
  case first =>
    have hE := HE6.out
    rw [countCode] at hE
    by_cases h1 : N < 0
    · rw [if_pos (.inl h1)] at hE; subst hE
      go_wp2_with fail
      go_meet
      exact ⟨rfl, Below.refl _ _⟩
    by_cases h4 : 255 < N
    · rw [if_pos (.inr h4)] at hE; subst hE
      go_wp2_with fail
      go_meet
      exact ⟨rfl, Below.refl _ _⟩
    rw [if_neg (by omega), countOf, vals_offs] at hE
    obtain ⟨L, hL⟩ : ∃ L, cntTo V 8 = L := ⟨_, rfl⟩
    rw [hL] at hE
    have hq := fun d => (ref_counter w.heap.size 0 64 64 V (wa.drewN d) (by omega) HV.out HUA10.out).mono (R' := fun e w' => e = .returned (.int .i64 L) ∧ w' = wa.drewN d) (by rintro e w' ⟨rfl, rfl⟩; exact ⟨by rw [hL], rfl⟩)
    have HQ := Lib.hid hq; clear hL hq
    by_cases hle : N < L
    · rw [if_pos hle] at hE; subst hE
      go_wp2_with fail
      go_quiet ((go_at_call 22; exact Calls.quiet_of_same (HQ.out _)))
      go_wp2_with fail
      go_meet
      exact ⟨rfl, below_drewN (Below.refl _ _) _⟩
    · rw [if_neg hle] at hE; subst hE
      go_wp2_with fail
      go_quiet ((go_at_call 22; exact Calls.quiet_of_same (HQ.out _)))
      go_wp2_with fail
      go_meet
      exact ⟨rfl, below_drewN (Below.refl _ _) _⟩
  case rest =>
  obtain ⟨rfl, hb11⟩ := hcut
  rename World => wb
  have hX11 : Below w2.heap.size w2 wb := hX10.trans (hb11.mono (by omega))
  have hn11 := HNC.out wb hX11
  have hs11 : wa.heap.size ≤ wb.heap.size := hb11.size
  have HUA11 := Lib.hid (HUA10.out.below hb11 (by omega))
  have HUP11 : Hid (U8At wb g4 0 P) := Lib.hid (by
    rcases HG9.out with h | ⟨h, h'⟩
    · intro i hi; rw [HPL.out] at hi; omega
    · exact HUP10.out.below hb11 (by omega))
  have hB11 : Below w.heap.size w wb := hB10.trans (hb11.mono hB10.size)
  clear hn10 HUA10 HUP10
  go_upto_block 2 with fail
  go_cut [21] (fun s wx => s = .int .i64 E7 ∧ wb = wx)
  case first =>
    have hE := HE7.out
    rw [toKey_code, HPL.out, lifeOf, vals_offs] at hE
    by_cases h56 : m = 56
    · subst h56
      rw [if_neg (by decide)] at hE
      obtain ⟨rfl, hg9⟩ := HG9.out.resolve_left (by omega)
      obtain ⟨L, hL⟩ : ∃ L, lifeTo (V.getD 0 0).toNat 4 = L := ⟨_, rfl⟩
      rw [hL] at hE
      have hq := (ref_life w.heap.size 0 64 64 V wb (by omega) HV.out HUA11.out).mono (R' := fun e w' => e = .returned (.int .i64 L) ∧ wb = w') (by rintro e w' ⟨rfl, rfl⟩; exact ⟨by rw [hL], rfl⟩)
      have HQ := Lib.hid hq; clear hL hq
      by_cases hL0 : L = 0
      · subst hL0
        rw [if_neg (by decide)] at hE
        have hE2 : code2 (keyOk V (wordsOf P ++ wordsOf (List.replicate 16 0)) 18) 11 = E7 := by rw [← hE]; unfold code2; rfl
        have hkw := fun k => key_word P (List.replicate 16 0) k HPL.out
        have hkz := fun k => key_zero P k HPL.out
        generalize wordsOf P ++ wordsOf (List.replicate 16 0) = Lw at *
        have HKW := Lib.hid hkw; have HKZ := Lib.hid hkz; have HE := Lib.hid hE2
        clear hkw hkz hE hE2
        have hpa := run_piece_arr (P := Try.prog) Try.underlying39 (by kernel_rfl : (Try.prog.info? 36).map (·.size) = some 1) w.heap.size 0 .i64 .i64 (9 : Int) (27 : Int) 9 27 rfl rfl (by omega) (by omega) (by omega)
        rw [Nat.zero_add, Nat.mul_one] at hpa
        go_wp2_with fail
        refine (HQ.out).mono ?_
        rintro e w' ⟨rfl, rfl⟩
        go_wp2_with fail
        go_loopw [21, 106] (fun kc i wr => ∃ k : Nat, k ≤ 18 ∧ i = .int .i64 k ∧ kc = .int .i64 (code2 (keyOk V Lw k) 11) ∧ wr = wb) (fun _ i _ => 18 - (intOf i).toNat)
        case atStart => exact ⟨0, by omega, rfl, by rw [keyOk_zero]; unfold code2; rfl, rfl⟩
        case round =>
          obtain ⟨k, hk, rfl, rfl, rfl⟩ := hrel
          by_cases hlt : k < 18
          · obtain ⟨x, hx⟩ : ∃ x, V.getD (9 + k) 0 = x := ⟨_, rfl⟩
            have hx2 := getD_some hx (by rw [HV.out]; omega)
            have hux := HUA11.out.at hx2
            rw [Nat.zero_add] at hux
            obtain ⟨y, hy⟩ : ∃ y, Lw.getD k 0 = y := ⟨_, rfl⟩
            have hF := keyOk_next V Lw k
            rw [hx, hy] at hF
            have hF2 : code2 (keyOk V Lw (k + 1)) 11 = if (x &&& ~~~y == 0) then code2 (keyOk V Lw k) 11 else 11 := by rw [hF, code2_and]
            obtain ⟨cc, hcc⟩ : ∃ cc, code2 (keyOk V Lw k) 11 = cc := ⟨_, rfl⟩
            rw [hcc] at hF2 ⊢
            have HF2 := Lib.hid hF2
            by_cases h14 : k < 14
            · have hkw := HKW.out k h14
              rw [hy] at hkw
              have hpc := run_piece (P := Try.prog) Try.underlying22 (by kernel_rfl : (Try.prog.info? 5).map (·.size) = some 1) g4 0 56 cap4 .i64 .i64 (4 * (k : Int)) (4 * (k : Int) + 4) (4 * k) (4 * k + 4) (by omega) (by omega) (by omega) (by omega) (by omega)
              rw [Nat.mul_one, Nat.add_sub_cancel_left] at hpc
              have hus := HUP11.out.sub (4 * k) 4
              have huv := r1_value (some ⟨g4, 0 + 4 * k, none⟩) g4 (0 + 4 * k) 4 (cap4 - 4 * k) _ wr (by rw [List.length_take, List.length_drop, HPL.out]; omega) (by omega) (.inr ⟨rfl, by omega⟩) hus
              obtain ⟨vb, hvb⟩ : ∃ vb, valB ((P.drop (4 * k)).take 4) = vb := ⟨_, rfl⟩
              rw [hvb] at huv hkw
              have HUV := Lib.hid huv
              clear hus huv hvb hx hx2 hy hF hF2 hcc
              generalize 0 + 4 * k = k4 at *
              by_cases hz : x &&& ~~~y = 0
              · have hzb : (x &&& ~~~(vb.setWidth 32) != 0#32) = false := by rw [hkw, hz]; rfl
                have HZ := Lib.hid hz; clear hz hkw
                go_wp2_with fail
                refine (HUV.out).mono ?_
                rintro e w' ⟨rfl, rfl⟩
                go_wp2
                go_roundw
                case rel => exact ⟨k + 1, by omega, by go_num, by rw [HF2.out, HZ.out]; rfl, by first | rfl | trivial⟩
                case measure => simp [intOf]; omega
              · have hzb : (x &&& ~~~(vb.setWidth 32) != 0#32) = true := by rw [hkw, bne_iff_ne]; exact hz
                have HZ := Lib.hid hz; clear hz hkw
                go_wp2_with fail
                refine (HUV.out).mono ?_
                rintro e w' ⟨rfl, rfl⟩
                go_wp2
                go_roundw
                case rel => exact ⟨k + 1, by omega, by go_num, by rw [HF2.out, if_neg (by simpa using HZ.out)]; rfl, by first | rfl | trivial⟩
                case measure => simp [intOf]; omega
            · have hkz := HKZ.out k (by omega)
              rw [hy] at hkz
              subst hkz
              have hand : x &&& 4294967295#32 = x := by rw [show 4294967295#32 = BitVec.allOnes 32 from rfl, BitVec.and_allOnes]
              rw [show x &&& ~~~(0 : BitVec 32) = x from hand] at HF2
              clear hx hx2 hy hF hF2 hcc
              by_cases hz : x = 0
              · subst hz
                rw [U32_zero] at hux
                go_wp2
                go_roundw
                case rel => exact ⟨k + 1, by omega, by go_num, by rw [HF2.out]; rfl, by first | rfl | trivial⟩
                case measure => simp [intOf]; omega
              · have hzb : (x != 0#32) = true := by rw [bne_iff_ne]; exact hz
                have HZ := Lib.hid hz; clear hz
                go_wp2
                go_roundw
                case rel => exact ⟨k + 1, by omega, by go_num, by rw [HF2.out, if_neg (by simpa using HZ.out)]; rfl, by first | rfl | trivial⟩
                case measure => simp [intOf]; omega
          · have h18 : k = 18 := by omega
            subst h18
            rw [HE.out]
            go_wp2
            go_meet
            exact ⟨rfl, rfl⟩
      · rw [if_pos hL0] at hE; subst hE
        go_wp2_with fail
        refine (HQ.out).mono ?_
        rintro e w' ⟨rfl, rfl⟩
        go_wp2_with fail
        go_meet
        exact ⟨rfl, rfl⟩
    · rw [if_pos h56] at hE; subst hE
      go_wp2_with fail
      go_meet
      exact ⟨rfl, rfl⟩
  case rest =>
  obtain ⟨rfl, rfl⟩ := hcut
  have hE8 := HE8.out
  have hE9 := HE9.out
  rw [toRow_code] at hE8
  rw [killOf_code] at hE9
  by_cases hN0 : N < 0
  · rw [if_pos (.inl hN0)] at hE8 hE9
    subst hE8; subst hE9
    go_wp2_with fail
    go_ret
    exact ⟨rfl, hB11⟩
  by_cases hN3 : 3 < N
  · rw [if_pos (.inr (by omega))] at hE8 hE9
    subst hE8; subst hE9
    go_wp2_with fail
    go_ret
    exact ⟨rfl, hB11⟩
  rw [if_neg (by omega)] at hE8 hE9
  subst hE9
  obtain ⟨k, rfl⟩ := Int.eq_ofNat_of_zero_le (show 0 ≤ N by omega)
  have hk : k < 4 := by omega
  rw [vals_offs, show (27 + 9 * (k : Int).toNat) = 27 + 9 * k from rfl] at hE8
  obtain ⟨fr, hfr⟩ : ∃ fr, 27 + 9 * k = fr := ⟨_, rfl⟩
  rw [hfr] at hE8
  have hE2 : code2 (rowFree V fr 9) 14 = E8 := by rw [← hE8]; unfold code2; rfl
  have HE := Lib.hid hE2
  have hpa := run_piece_arr (P := Try.prog) Try.underlying39 (by kernel_rfl : (Try.prog.info? 36).map (·.size) = some 1) w.heap.size 0 .i64 .i64 (27 + 9 * (k : Int)) (36 + 9 * (k : Int)) fr (fr + 9) (by omega) (by omega) (by omega) (by omega) (by omega)
  rw [Nat.zero_add, Nat.mul_one, Nat.add_sub_cancel_left] at hpa
  clear hE8 hE2
  go_wp2_with fail
  go_loopw [25, 153] (fun kc i wr => ∃ j : Nat, j ≤ 9 ∧ i = .int .i64 j ∧ kc = .int .i64 (code2 (rowFree V fr j) 14) ∧ wb = wr) (fun _ i _ => 9 - (intOf i).toNat)
  case atStart => exact ⟨0, by omega, rfl, by rw [rowFree_zero]; unfold code2; rfl, rfl⟩
  case round =>
    obtain ⟨j, hj, rfl, rfl, rfl⟩ := hrel
    by_cases hlt : j < 9
    · obtain ⟨x, hx⟩ : ∃ x, V.getD (fr + j) 0 = x := ⟨_, rfl⟩
      have hx2 := getD_some hx (by rw [HV.out]; omega)
      have hux := HUA11.out.at hx2
      rw [Nat.zero_add] at hux
      have hF := rowFree_next V fr j
      rw [hx] at hF
      have hF2 : code2 (rowFree V fr (j + 1)) 14 = if (x == 0) then code2 (rowFree V fr j) 14 else 14 := by rw [hF, code2_and]
      obtain ⟨cc, hcc⟩ : ∃ cc, code2 (rowFree V fr j) 14 = cc := ⟨_, rfl⟩
      rw [hcc] at hF2 ⊢
      have HF2 := Lib.hid hF2
      clear hx hx2 hF hF2 hcc
      by_cases hz : x = 0
      · subst hz
        rw [U32_zero] at hux
        go_wp2
        go_roundw
        case rel => exact ⟨j + 1, by omega, by go_num, by rw [HF2.out]; rfl, by first | rfl | trivial⟩
        case measure => simp [intOf]; omega
      · have hzb : (x != 0#32) = true := by rw [bne_iff_ne]; exact hz
        have HZ := Lib.hid hz; clear hz
        go_wp2
        go_roundw
        case rel => exact ⟨j + 1, by omega, by go_num, by rw [HF2.out, if_neg (by simpa using HZ.out)]; rfl, by first | rfl | trivial⟩
        case measure => simp [intOf]; omega
    · have h9 : j = 9 := by omega
      subst h9
      rw [HE.out]
      go_wp2
      go_ret
      exact ⟨rfl, hB11⟩
end Go.Proofs.Ytoefaghakjcfcaa
