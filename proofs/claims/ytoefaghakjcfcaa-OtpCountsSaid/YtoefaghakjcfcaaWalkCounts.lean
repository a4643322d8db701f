/- The walk of curtilagelaw11.OtpCounts. -/
import Derived.Test.YtoefaghakjcfcaaLawCounts
namespace Go.Proofs.Ytoefaghakjcfcaa
open Go.RowKit

theorem bit_tmod (x : BitVec 32) (t : Nat) : (U32 (x >>> t)).tmod 2 = (((if x.getLsbD t then 1 else 0) : Nat) : Int) := by
  rw [U32_eq, Int.tmod_eq_emod_of_nonneg (by omega), BitVec.toNat_ushiftRight]
  have e : x.getLsbD t = x.toNat.testBit t := rfl
  rw [e, Nat.testBit_eq_decide_div_mod_eq, Nat.shiftRight_eq_div_pow]
  have e2 : ((x.toNat / 2 ^ t : Nat) : Int) % 2 = ((x.toNat / 2 ^ t % 2 : Nat) : Int) := by omega
  rw [e2]
  rcases Nat.mod_two_eq_zero_or_one (x.toNat / 2 ^ t) with h | h
  · rw [h]; rfl
  · rw [h]; rfl

theorem do_nil (ws : List (BitVec 32 × Bool)) : doAll ws [] = (ws, 0) := rfl

set_option maxRecDepth 100000 in
set_option maxHeartbeats 4000000 in
theorem counts_walk (a : Option Addr) (b o n cap : Nat) (l : List (BitVec 8)) (w : World) (hl : l.length = n) (hn2 : n ≤ 9223372036854775807) (hb : n = 0 ∨ (a = some ⟨b, o, none⟩ ∧ b < w.heap.size)) (hu : U8At w b o l) :
    Calls Try.prog 3 #[.slice a n cap] w fun e w' => e = .returned (.bool true) ∧ Below w.heap.size w w' := by
  have HL := Lib.hid hl; have HB := Lib.hid hb; have HU := Lib.hid hu
  clear hl hb hu
  go_enter Try.func3, Try.ntmps3
  go_wp2_with fail
  refine (awake11 w).mono ?_
  rintro e w1 ⟨rfl, hb1⟩
  have hs1 := hb1.size
  go_wp2_with fail
  refine (otp_new w1).mono ?_
  rintro e w2 ⟨r, rfl, hch, hbc, hba, hbw, hb2⟩
  have H0 := Lib.hid (show ChipAt w2 r ws0 false from hch)
  have hB2 : Below w.heap.size w w2 := hb1.trans (hb2.mono hs1)
  clear hch
  go_wp2_with fail
  go_loopw [4, 18] (fun at_ i wr => ∃ (k A : Nat) (ws : List (BitVec 32 × Bool)), k ≤ n ∧ A ≤ 255 ∧ i = .int .i64 k ∧ at_ = .int .i64 A ∧ Raised ws A ∧ ChipAt wr r ws false ∧ Below w.heap.size w wr) (fun _ i _ => n - (intOf i).toNat)
  case atStart => exact ⟨0, 0, ws0, by omega, by omega, rfl, rfl, raised0, H0.out, hB2⟩
  case round =>
    obtain ⟨k, A, ws, hk, hA, rfl, rfl, hR, hch, hB⟩ := hrel
    by_cases hlt : k < n
    · obtain ⟨rfl, hbl⟩ := HB.out.resolve_left (by omega)
      have hu0 := (HU.out.below hB hbl) k (by rw [HL.out]; exact hlt)
      obtain ⟨s, hs⟩ : ∃ s, l[k]'(by rw [HL.out]; exact hlt) = s := ⟨_, rfl⟩
      rw [hs] at hu0
      clear hs
      by_cases h20 : k < 20
      · have hsl := s.isLt
        obtain ⟨sn, hsn⟩ : ∃ sn, s.toNat = sn := ⟨_, rfl⟩
        have hsl2 : sn ≤ 255 := by omega
        have hsz := hB.size
        have hcw := hch.chip.cell 0
        simp only [List.getElem?_cons_zero] at hcw
        by_cases hge : A ≤ sn
        · -- it is raised
          have hmax : max (A : Int) (sn : Int) = sn := by omega
          have hz := hR.zeros
          have HC := Lib.hid hch; have HR := Lib.hid hR
          clear hch hR hcw
          go_wp2_with fail
          refine (otp_toCounter r ws false sn _ HC.out (by rw [HR.out.count]; exact hge) hsl2 (by have := HR.out.count; have : zerosTo (((vals ws).drop 1).take 8) 255 + A = 255 := hz; omega)).mono ?_
          rintro e w3 ⟨I, hI, hIz, v, rfl, hown, hb3⟩
          rw [HR.out.count] at hIz
          have hR3 := HR.out.next hge hI hIz
          have hD := (do_plan ws 1 (fillTo (ctr (vals ws)) I) 8 (by rw [HR.out.len]; omega)).1
          have hpl : (planTo (vals ws) 1 (fillTo (ctr (vals ws)) I) 8).length ≤ 8 := planTo_len _ _ _ _
          change w3.ownsRow _ _ _ v (planTo (vals ws) 1 (fillTo (ctr (vals ws)) I) 8).length (writeCells (planTo (vals ws) 1 (fillTo (ctr (vals ws)) I) 8)) at hown
          generalize planTo (vals ws) 1 (fillTo (ctr (vals ws)) I) 8 = p at *
          obtain ⟨ws3, hws3⟩ : ∃ ws3, (doAll ws p).1 = ws3 := ⟨_, rfl⟩
          rw [hws3] at hR3
          have HD := Lib.hid hD; have HW3 := Lib.hid hws3; have HR3 := Lib.hid hR3
          clear hD hws3 hR3 hIz hz
          obtain ⟨a4, b4, cap4, rfl, ha4, hbb4, hcells4⟩ := Plans.slice hown
          have hs3 := hb3.size
          have HC3 := Lib.hid (HC.out.below hb3 (Nat.le_refl _))
          have H4 := Lib.hid ha4; have HBB4 := Lib.hid hbb4; have HCE := Lib.hid hcells4
          have hB3 : Below w.heap.size w w3 := hB.trans (hb3.mono hsz)
          clear ha4 hbb4 hcells4 hown hb3 hB
          have hm4 : p.length = p.length := rfl
          obtain ⟨m4, hm4⟩ : ∃ m4, p.length = m4 := ⟨_, rfl⟩
          rw [hm4]
          have hm48 : m4 ≤ 8 := by omega
          have HM := Lib.hid hm4
          clear hpl hm4
          go_wp2_with fail
          refine (otp_do r ws false p b4 0 cap4 m4 _ HC3.out HM.out (by omega) (by have := HBB4.out; have := HM.out; omega) (by have := HBB4.out; have := HM.out; have := HC.out.arr.wrd.lt; omega) HCE.out a4 (by rw [← HM.out]; exact H4.out)).mono ?_
          rintro e w5 ⟨rfl, hch5, hk5⟩
          rw [HD.out]
          rw [HW3.out] at hch5
          have HC5 := Lib.hid hch5
          have hB5 : Below w.heap.size w w5 := hB3.trans ⟨hk5.os, hk5.tape, hk5.output, hk5.size, fun j hj => hk5.block j (by have := hB3.size; omega) (by omega)⟩
          have hcw5 := hch5.chip.cell 0
          simp only [List.getElem?_cons_zero] at hcw5
          clear hch5 hk5 HCE H4 HBB4
          go_wp2_with fail
          refine (fuse_words _ _ _ _ _ HC5.out.arr).mono ?_
          rintro e w6 ⟨v6, rfl, hown6, hb6⟩
          have hs5 := hB5.size
          have hB6 : Below w.heap.size w w6 := hB5.trans (hb6.mono hs5)
          have HC6 := Lib.hid (HC5.out.below hb6 (Nat.le_refl _))
          have hl6 := HC5.out.len
          rcases hown6.2 with ⟨_, h0⟩ | ⟨g6, cap6, cur6, rfl, hg6, hh6, hn6, hcm6, hcs6, ht6⟩
          · omega
          rw [hl6] at hown6 hn6
          have HU6 := Lib.hid (U32At.own hown6)
          have hg6l : g6 < w6.heap.size := (Array.getElem?_eq_some_iff.1 hh6).1
          have HB6 := Lib.hid HR3.out.bits
          rw [hl6]
          clear hown6 hh6 hcm6 hcs6 ht6 hl6 hb6
          go_wp2_with fail
          go_loopw [9, 67] (fun bits i wq => ∃ j : Nat, j ≤ 8 ∧ i = .int .i64 j ∧ bits = .int .i64 (cnt (bitAt (ctr (vals ws3))) (32 * j)) ∧ wq = w6) (fun _ i _ => 8 - (intOf i).toNat)
          case atStart => exact ⟨0, by omega, rfl, rfl, rfl⟩
          case round =>
            obtain ⟨j, hj, rfl, rfl, rfl⟩ := hrel
            by_cases hj8 : j < 8
            · obtain ⟨x, hx⟩ : ∃ x, (vals ws3).getD (1 + j) 0 = x := ⟨_, rfl⟩
              have hx2 := getD_some hx (by rw [vals_length, HC5.out.len]; omega)
              have hux := HU6.out.at hx2
              rw [Nat.zero_add] at hux
              have hxb : ∀ t, t < 32 → bitAt (ctr (vals ws3)) (32 * j + t) = x.getLsbD t := fun t ht => by
                rw [bitAt_ctr _ _ (by omega), ← hx, show (32 * j + t) / 32 + 1 = 1 + j by omega, show (32 * j + t) % 32 = t by omega]
              have HXB := Lib.hid hxb
              clear hx hx2 hxb
              go_wp2_with fail
              go_loop [9, 71] (fun bits i => ∃ t : Nat, t ≤ 32 ∧ i = .int .i64 t ∧ bits = .int .i64 (cnt (bitAt (ctr (vals ws3))) (32 * j + t))) (fun _ i => 32 - (intOf i).toNat)
              case atStart => exact ⟨0, by omega, rfl, rfl⟩
              case round =>
                obtain ⟨t, ht, rfl, rfl⟩ := hrel
                by_cases ht32 : t < 32
                · have hsh := u32_shr_bv x t (by omega)
                  have hbt := bit_tmod x t
                  have hcl := cnt_le (bitAt (ctr (vals ws3))) (32 * j + t)
                  obtain ⟨bv, hbv⟩ : ∃ bv : Nat, (if x.getLsbD t then 1 else 0) = bv := ⟨_, rfl⟩
                  have hbv1 : bv ≤ 1 := by rw [← hbv]; split <;> omega
                  rw [hbv] at hbt
                  have hcn : cnt (bitAt (ctr (vals ws3))) (32 * j + (t + 1)) = cnt (bitAt (ctr (vals ws3))) (32 * j + t) + bv := by
                    rw [← Nat.add_assoc, cnt, HXB.out t ht32, hbv]
                  have HCN := Lib.hid hcn
                  clear hbv hcn
                  generalize cnt (bitAt (ctr (vals ws3))) (32 * j + t) = cv at *
                  go_wp2
                  go_round
                  case rel => exact ⟨t + 1, by omega, by go_num, by rw [HCN.out]; go_num⟩
                  case measure => simp [intOf]; omega
                · have ht32 : t = 32 := by omega
                  subst ht32
                  go_wp2
                  go_roundw
                  case rel => exact ⟨j + 1, by omega, by go_num, by rw [show 32 * (j + 1) = 32 * j + 32 by omega], by first | rfl | trivial⟩
                  case measure => simp [intOf]; omega
            · have hj8 : j = 8 := by omega
              subst hj8
              rw [show 32 * 8 = 256 from rfl, HB6.out]
              go_wp2_with fail
              refine (otp_counter r _ false _ HC6.out).mono ?_
              rintro e w7 ⟨rfl, hb7⟩
              rw [HR3.out.count]
              have hs6 := hB6.size
              go_wp2
              go_roundw
              case rel => exact ⟨k + 1, sn, ws3, by omega, by omega, by go_num, by first | rfl | go_num, HR3.out, HC6.out.below hb7 (Nat.le_refl _), hB6.trans (hb7.mono hs6)⟩
              case measure => simp [intOf]; omega
        · -- it is refused
          have hmax : max (A : Int) (sn : Int) = A := by omega
          have HC := Lib.hid hch; have HR := Lib.hid hR
          clear hch hR hcw
          go_wp2_with fail
          refine (otp_toCounter_old r ws false sn _ HC.out (by omega) (by omega) (by rw [HR.out.count]; omega)).mono ?_
          rintro e w3 ⟨v, rfl, hown, hb3⟩
          obtain ⟨p, hp⟩ : ∃ p : List (Nat × BitVec 32), p = [] := ⟨_, rfl⟩
          have hpl : p.length ≤ 8 := by rw [hp]; simp
          have hpl0 : p.length = 0 := by rw [hp]; rfl
          obtain ⟨ws3, hws3⟩ : ∃ ws3, (doAll ws p).1 = ws3 := ⟨_, rfl⟩
          have hR3 : Raised ws3 A := by rw [← hws3, hp]; exact HR.out
          have hD : (doAll ws p).2 = 0 := by rw [hp]; rfl
          change w3.ownsRow _ _ _ v ([] : List (Nat × BitVec 32)).length (writeCells []) at hown
          rw [← hp] at hown
          have HD := Lib.hid hD; have HW3 := Lib.hid hws3; have HR3 := Lib.hid hR3; have HP0 := Lib.hid hpl0
          clear hD hws3 hR3 hp hpl0
          obtain ⟨a4, b4, cap4, rfl, ha4, hbb4, hcells4⟩ := Plans.slice hown
          have hs3 := hb3.size
          have HC3 := Lib.hid (HC.out.below hb3 (Nat.le_refl _))
          have H4 := Lib.hid ha4; have HBB4 := Lib.hid hbb4; have HCE := Lib.hid hcells4
          have hB3 : Below w.heap.size w w3 := hB.trans (hb3.mono hsz)
          clear ha4 hbb4 hcells4 hown hb3 hB
          obtain ⟨m4, hm4⟩ : ∃ m4, p.length = m4 := ⟨_, rfl⟩
          have hm48 : m4 ≤ 8 := by omega
          have HM := Lib.hid hm4
          have hm0 : m4 = 0 := by rw [← HP0.out]; exact HM.out.symm
          rw [hm4]
          clear hpl hm4
          subst hm0
          go_wp2_with fail
          refine (otp_do r ws false p b4 0 cap4 0 _ HC3.out HM.out (by omega) (by have := HBB4.out; have := HM.out; omega) (by have := HBB4.out; have := HM.out; have := HC.out.arr.wrd.lt; omega) HCE.out a4 (.inl rfl)).mono ?_
          rintro e w5 ⟨rfl, hch5, hk5⟩
          rw [HD.out]
          rw [HW3.out] at hch5
          have HC5 := Lib.hid hch5
          have hB5 : Below w.heap.size w w5 := hB3.trans ⟨hk5.os, hk5.tape, hk5.output, hk5.size, fun j hj => hk5.block j (by have := hB3.size; omega) (by omega)⟩
          have hcw5 := hch5.chip.cell 0
          simp only [List.getElem?_cons_zero] at hcw5
          clear hch5 hk5 HCE H4 HBB4
          go_wp2_with fail
          refine (fuse_words _ _ _ _ _ HC5.out.arr).mono ?_
          rintro e w6 ⟨v6, rfl, hown6, hb6⟩
          have hs5 := hB5.size
          have hB6 : Below w.heap.size w w6 := hB5.trans (hb6.mono hs5)
          have HC6 := Lib.hid (HC5.out.below hb6 (Nat.le_refl _))
          have hl6 := HC5.out.len
          rcases hown6.2 with ⟨_, h0⟩ | ⟨g6, cap6, cur6, rfl, hg6, hh6, hn6, hcm6, hcs6, ht6⟩
          · omega
          rw [hl6] at hown6 hn6
          have HU6 := Lib.hid (U32At.own hown6)
          have hg6l : g6 < w6.heap.size := (Array.getElem?_eq_some_iff.1 hh6).1
          have HB6 := Lib.hid HR3.out.bits
          rw [hl6]
          clear hown6 hh6 hcm6 hcs6 ht6 hl6 hb6
          go_wp2_with fail
          go_loopw [9, 67] (fun bits i wq => ∃ j : Nat, j ≤ 8 ∧ i = .int .i64 j ∧ bits = .int .i64 (cnt (bitAt (ctr (vals ws3))) (32 * j)) ∧ wq = w6) (fun _ i _ => 8 - (intOf i).toNat)
          case atStart => exact ⟨0, by omega, rfl, rfl, rfl⟩
          case round =>
            obtain ⟨j, hj, rfl, rfl, rfl⟩ := hrel
            by_cases hj8 : j < 8
            · obtain ⟨x, hx⟩ : ∃ x, (vals ws3).getD (1 + j) 0 = x := ⟨_, rfl⟩
              have hx2 := getD_some hx (by rw [vals_length, HC5.out.len]; omega)
              have hux := HU6.out.at hx2
              rw [Nat.zero_add] at hux
              have hxb : ∀ t, t < 32 → bitAt (ctr (vals ws3)) (32 * j + t) = x.getLsbD t := fun t ht => by
                rw [bitAt_ctr _ _ (by omega), ← hx, show (32 * j + t) / 32 + 1 = 1 + j by omega, show (32 * j + t) % 32 = t by omega]
              have HXB := Lib.hid hxb
              clear hx hx2 hxb
              go_wp2_with fail
              go_loop [9, 71] (fun bits i => ∃ t : Nat, t ≤ 32 ∧ i = .int .i64 t ∧ bits = .int .i64 (cnt (bitAt (ctr (vals ws3))) (32 * j + t))) (fun _ i => 32 - (intOf i).toNat)
              case atStart => exact ⟨0, by omega, rfl, rfl⟩
              case round =>
                obtain ⟨t, ht, rfl, rfl⟩ := hrel
                by_cases ht32 : t < 32
                · have hsh := u32_shr_bv x t (by omega)
                  have hbt := bit_tmod x t
                  have hcl := cnt_le (bitAt (ctr (vals ws3))) (32 * j + t)
                  obtain ⟨bv, hbv⟩ : ∃ bv : Nat, (if x.getLsbD t then 1 else 0) = bv := ⟨_, rfl⟩
                  have hbv1 : bv ≤ 1 := by rw [← hbv]; split <;> omega
                  rw [hbv] at hbt
                  have hcn : cnt (bitAt (ctr (vals ws3))) (32 * j + (t + 1)) = cnt (bitAt (ctr (vals ws3))) (32 * j + t) + bv := by
                    rw [← Nat.add_assoc, cnt, HXB.out t ht32, hbv]
                  have HCN := Lib.hid hcn
                  clear hbv hcn
                  generalize cnt (bitAt (ctr (vals ws3))) (32 * j + t) = cv at *
                  go_wp2
                  go_round
                  case rel => exact ⟨t + 1, by omega, by go_num, by rw [HCN.out]; go_num⟩
                  case measure => simp [intOf]; omega
                · have ht32 : t = 32 := by omega
                  subst ht32
                  go_wp2
                  go_roundw
                  case rel => exact ⟨j + 1, by omega, by go_num, by rw [show 32 * (j + 1) = 32 * j + 32 by omega], by first | rfl | trivial⟩
                  case measure => simp [intOf]; omega
            · have hj8 : j = 8 := by omega
              subst hj8
              rw [show 32 * 8 = 256 from rfl, HB6.out]
              go_wp2_with fail
              refine (otp_counter r _ false _ HC6.out).mono ?_
              rintro e w7 ⟨rfl, hb7⟩
              rw [HR3.out.count]
              have hs6 := hB6.size
              go_wp2
              go_roundw
              case rel => exact ⟨k + 1, A, ws3, by omega, by omega, by go_num, by first | rfl | go_num, HR3.out, HC6.out.below hb7 (Nat.le_refl _), hB6.trans (hb7.mono hs6)⟩
              case measure => simp [intOf]; omega
      · have h20 : 20 ≤ k := by omega
        go_wp2
        all_goals (go_ret; exact ⟨rfl, hB⟩)
    · go_wp2
      go_ret
      exact ⟨rfl, hB⟩

end Go.Proofs.Ytoefaghakjcfcaa
