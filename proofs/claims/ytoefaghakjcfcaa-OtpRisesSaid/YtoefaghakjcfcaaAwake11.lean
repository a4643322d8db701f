/- The walk of curtilagelaw11.awake. -/
import Derived.Test.YtoefaghakjcfcaaOtp6
namespace Go.Proofs.Ytoefaghakjcfcaa
open Go.RowKit

/-- What a call that plans has left: a slice of writes. -/
theorem Plans.slice {w' : World} {base : Nat} {v : Value} {p : List (Nat × BitVec 32)} (h : w'.ownsRow base 57 2 v p.length (writeCells p)) :
    ∃ (a : Option Addr) (b cap : Nat), v = .slice a p.length cap ∧ (p.length = 0 ∨ a = some ⟨b, 0, none⟩) ∧ (p.length = 0 ∨ (base ≤ b ∧ b < w'.heap.size)) ∧
      (∀ i, (h : i < p.length) → w'.cell? ⟨b, 0 + i * 2, none⟩ = some (.int .i64 p[i].1) ∧ w'.cell? ⟨b, 0 + i * 2 + 1, none⟩ = some (.int .u32 (U32 p[i].2))) := by
  rcases h.2 with ⟨rfl, h0⟩ | ⟨g, cap, cur, rfl, hg, hh, hn, hcm, hcs, ht⟩
  · exact ⟨none, 0, 0, by rw [h0], .inl h0, .inl h0, fun i hi => by omega⟩
  · refine ⟨some ⟨g, 0, none⟩, g, cap, rfl, .inr rfl, .inr ⟨hg, (Array.getElem?_eq_some_iff.1 hh).1⟩, fun i hi => ?_⟩
    constructor
    · rw [Nat.zero_add, h.cellAt (i * 2) (by omega), writeCells_0, List.getElem?_eq_getElem hi]; rfl
    · rw [Nat.zero_add, h.cellAt (i * 2 + 1) (by omega), writeCells_1, List.getElem?_eq_getElem hi]; rfl

def ws0 : List (BitVec 32 × Bool) := List.replicate 64 (0, false)
theorem ws0_count : countOf ws0 = 0 := by decide +kernel
theorem ws0_zeros : zerosTo (((vals ws0).drop 1).take 8) 255 = 255 := by decide +kernel
theorem ws0_zerosTo (i : Nat) (h : i ≤ 255) : zerosTo (((vals ws0).drop 1).take 8) i = i := by
  have : ∀ i : Fin 256, zerosTo (((vals ws0).drop 1).take 8) i.val = i.val := by decide +kernel
  exact this ⟨i, by omega⟩
theorem ws0_plan3 : planTo (vals ws0) 1 (fillTo (((vals ws0).drop 1).take 8) 3) 8 = [(1, 7)] := by decide +kernel
theorem ws0_do3 : doAll ws0 [(1, 7)] = (ws0.set 1 (7, false), 0) := by decide +kernel
theorem ws3_count : countOf (ws0.set 1 (7, false)) = 3 := by decide +kernel
theorem ws3_life : lifeOf (ws0.set 1 (7, false)) = 0 := by decide +kernel

set_option maxRecDepth 100000 in
set_option maxHeartbeats 2000000 in
theorem awake11 (w : World) :
    Calls Try.prog 9 #[] w fun e w' => e = .returned (.bool true) ∧ Below w.heap.size w w' := by
  have hc0 := Lib.hid ws0_count
  have hz0 := Lib.hid ws0_zeros
  have hp3 := Lib.hid ws0_plan3
  go_enter Try.func9, Try.ntmps9
  go_wp2_with fail
  refine (otp_new w).mono ?_
  rintro e w1 ⟨r, rfl, hch, hbc, hba, hbw, hb1⟩
  have hch : ChipAt w1 r ws0 false := hch
  have H1 := Lib.hid hch; clear hch
  have hs1 := hb1.size
  go_wp2_with fail
  refine (otp_toCounter r ws0 false 3 w1 H1.out (by rw [hc0.out]; omega) (by omega) (by rw [hc0.out, hz0.out]; omega)).mono ?_
  rintro e w2 ⟨I, hI, hIz, v, rfl, hown, hb2⟩
  rw [ws0_zerosTo I hI, hc0.out] at hIz
  obtain rfl : I = 3 := by omega
  rw [hp3.out] at hown
  obtain ⟨a, b, cap, rfl, ha, hbb, hcells⟩ := Plans.slice hown
  obtain rfl : a = some ⟨b, 0, none⟩ := ha.resolve_left (by simp)
  have hcc := hcells 0 (by simp)
  simp only [List.getElem_cons_zero, Nat.zero_mul, Nat.add_zero, Nat.zero_add] at hcc
  obtain ⟨hcc1, hcc2⟩ := hcc
  rw [show U32 7 = 7 from u32_lit 7 (by decide)] at hcc2
  have HC := Lib.hid hcells; clear hcells hown ha
  have hs2 := hb2.size
  have H2 := Lib.hid (H1.out.below hb2 (Nat.le_refl _))
  go_wp2_with fail
  have hbb := hbb.resolve_left (by simp)
  refine (otp_do r ws0 false [(1, 7)] b 0 cap 1 _ H2.out rfl (by omega) (.inr hbb.2) (.inr (by have := H1.out.arr.wrd.lt; omega)) HC.out _ (.inr rfl)).mono ?_
  rintro e w3 ⟨rfl, hch3, hk3⟩
  rw [ws0_do3] at hch3
  rw [ws0_do3]
  have H3 := Lib.hid hch3
  have hb3 : Below w.heap.size w w3 := (hb1.trans (hb2.mono hs1)).trans ⟨hk3.os, hk3.tape, hk3.output, hk3.size, fun j hj => hk3.block j (by omega) (by omega)⟩
  clear hch3 hk3 HC
  have hs3 := hb3.size
  go_wp2_with fail
  refine (otp_counter r _ false _ H3.out).mono ?_
  rintro e w4 ⟨rfl, hb4⟩
  rw [ws3_count]
  go_wp2_with fail
  refine (otp_life r _ false _ (H3.out.below hb4 (Nat.le_refl _))).mono ?_
  rintro e w5 ⟨rfl, hb5⟩
  rw [ws3_life]
  have hs4 := hb4.size
  go_wp2_with fail
  go_ret
  exact ⟨rfl, (hb3.trans (hb4.mono hs3)).trans (hb5.mono (by omega))⟩

end Go.Proofs.Ytoefaghakjcfcaa
