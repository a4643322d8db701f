/- The walk of otp.number. -/
import Derived.Test.YtoefaghakjcfcaaOtp8
import Derived.Deep.RegionHeld3
import Derived.Deep.AppendLies
namespace Go.Proofs.Ytoefaghakjcfcaa
open Go.RowKit

theorem wordsOf_take (l : List (BitVec 8)) (k : Nat) (h : 4 * k + 4 ≤ l.length) :
    wordsOf (l.take (4 * (k + 1))) = wordsOf (l.take (4 * k)) ++ [word4 (l[4 * k]'(by omega)) (l[4 * k + 1]'(by omega)) (l[4 * k + 2]'(by omega)) (l[4 * k + 3]'(by omega))] := by
  apply List.ext_getElem
  · rw [List.length_append, wordsOf_length, wordsOf_length, List.length_take, List.length_take, List.length_singleton]; omega
  · intro i h1 h2
    have hl1 : (wordsOf (l.take (4 * (k + 1)))).length = k + 1 := by rw [wordsOf_length, List.length_take]; omega
    have hl2 : (wordsOf (l.take (4 * k))).length = k := by rw [wordsOf_length, List.length_take]; omega
    rw [wordsOf_get _ i (by rw [List.length_take]; omega)]
    by_cases hi : i < k
    · rw [List.getElem_append_left (by omega), wordsOf_get _ i (by rw [List.length_take]; omega)]
      simp only [List.getElem_take]
    · have hik : i = k := by omega
      subst hik
      rw [List.getElem_append_right (by omega)]
      simp only [List.getElem_take, hl2, Nat.sub_self, List.getElem_cons_zero]
theorem wordsOf_rest (l : List (BitVec 8)) (k : Nat) (h : l.length < 4 * k + 4) (h2 : 4 * k ≤ l.length) : wordsOf (l.take (4 * k)) = wordsOf l := by
  apply List.ext_getElem
  · rw [wordsOf_length, wordsOf_length, List.length_take]; omega
  · intro i h1 h3
    have hl : i < k := by rw [wordsOf_length, List.length_take] at h1; omega
    rw [wordsOf_get _ i (by rw [List.length_take]; omega), wordsOf_get _ i (by omega)]
    simp only [List.getElem_take]

def sliceLen : Value → Nat | .slice _ m _ => m | _ => 0

set_option maxRecDepth 100000 in
set_option maxHeartbeats 2000000 in
theorem otp_number (b o n cap : Nat) (l : List (BitVec 8)) (w : World) (hn : l.length = n) (hn2 : n ≤ 1000) (hc : n ≤ cap) (hb : b < w.heap.size) (hu : U8At w b o l) :
    Calls Try.prog 41 #[.slice (some ⟨b, o, none⟩) n cap] w fun e w' => ∃ v, e = .returned v ∧
      w'.ownsRow w.heap.size 36 1 v (n / 4) (u32s (wordsOf l)) ∧ Below w.heap.size w w' := by
  obtain ⟨i0, hi, hz0, hz1, hz2⟩ := info_parts Try.infoU32
  have HI := Lib.hid hi; have HZ0 := Lib.hid hz0; have HZ1 := Lib.hid hz1; have HZ2 := Lib.hid hz2
  have HN := Lib.hid hn; have HU := Lib.hid hu
  clear hi hz0 hz1 hz2 hn hu
  go_enter Try.func41, Try.ntmps41
  go_wp2_with fail
  go_loopw [0, 3] (fun p v wr => ∃ (k : Nat) (a : Option Addr), 4 * k ≤ n ∧ p = .slice a (n - 4 * k) (cap - 4 * k) ∧ (4 * k < cap → a = some ⟨b, o + 4 * k, none⟩) ∧ wr.ownsRow w.heap.size 36 1 v k (u32s (wordsOf (l.take (4 * k)))) ∧ Below w.heap.size w wr) (fun p _ _ => sliceLen p)
  case atStart => exact ⟨0, _, by omega, rfl, fun _ => rfl, World.ownsRow_nil _ _ _ _, Below.refl _ _⟩
  case round =>
    obtain ⟨k, a, hk, rfl, ha, hown, hbl⟩ := hrel
    have hs := hbl.size
    by_cases hlt : 4 * k + 4 ≤ n
    · obtain rfl := ha (by omega)
      have hU := HU.out.below hbl hb
      have hw := wordsOf_take l k (by rw [HN.out]; exact hlt)
      have u0 := hU (4 * k) (by rw [HN.out]; omega)
      have u1 := hU (4 * k + 1) (by rw [HN.out]; omega)
      have u2 := hU (4 * k + 2) (by rw [HN.out]; omega)
      have u3 := hU (4 * k + 3) (by rw [HN.out]; omega)
      have c0 := HU.out (4 * k) (by rw [HN.out]; omega)
      have c1 := HU.out (4 * k + 1) (by rw [HN.out]; omega)
      have c2 := HU.out (4 * k + 2) (by rw [HN.out]; omega)
      have c3 := HU.out (4 * k + 3) (by rw [HN.out]; omega)
      generalize l[4 * k]'(by rw [HN.out]; omega) = x0 at *
      generalize l[4 * k + 1]'(by rw [HN.out]; omega) = x1 at *
      generalize l[4 * k + 2]'(by rw [HN.out]; omega) = x2 at *
      generalize l[4 * k + 3]'(by rw [HN.out]; omega) = x3 at *
      simp only [← Nat.add_assoc] at u1 u2 u3 c1 c2 c3
      have HC0 := Lib.hid c0; have HC1 := Lib.hid c1; have HC2 := Lib.hid c2; have HC3 := Lib.hid c3
      clear c0 c1 c2 c3
      have HW := Lib.hid hw; clear hw hU
      obtain ⟨a', hpa, hpb⟩ := run_piece_from_any (P := Try.prog) Try.underlying22 (by kernel_rfl : (Try.prog.info? 5).map (·.size) = some 1) (some ⟨b, o + 4 * k, none⟩) (n - 4 * k) (cap - 4 * k) .i64 4 4 rfl (by omega) (by omega)
      have HPB := Lib.hid hpb; clear hpb
      generalize hm : n - 4 * k = m at *
      generalize hcm : cap - 4 * k = cm at *
      have e0 : 0 < m := by omega
      have e1 : (1 : Int) < m := by omega
      have e2 : (2 : Int) < m := by omega
      have e3 : (3 : Int) < m := by omega
      have hm4 : m = n - 4 * k := hm.symm
      have hcm4 : cm = cap - 4 * k := hcm.symm
      have HM := Lib.hid hm4; have HCM := Lib.hid hcm4
      clear hm hcm hm4 hcm4
      have HA := Lib.hid ha; clear ha
      go_wp2_with fail
      have hk2 : k ≤ 1000 := by omega
      have c0 := HC0.out; have c1 := HC1.out; have c2 := HC2.out; have c3 := HC3.out
      have C0 := Lib.hid c0; have C1 := Lib.hid c1; have C2 := Lib.hid c2; have C3 := Lib.hid c3
      clear c0 c1 c2 c3
      go_region_held3 (fun w' => w'.cell? ⟨b, o + 4 * k, none⟩ = some (.int .u8 (U8 x0)) ∧ w'.cell? ⟨b, o + 4 * k + 1, none⟩ = some (.int .u8 (U8 x1)) ∧ w'.cell? ⟨b, o + 4 * k + 2, none⟩ = some (.int .u8 (U8 x2)) ∧ w'.cell? ⟨b, o + 4 * k + 3, none⟩ = some (.int .u8 (U8 x3)))
        (first
          | exact ⟨(hb2.cell (p := ⟨b, o + 4 * k, none⟩) hb).trans C0.out, (hb2.cell (p := ⟨b, o + 4 * k + 1, none⟩) hb).trans C1.out, (hb2.cell (p := ⟨b, o + 4 * k + 2, none⟩) hb).trans C2.out, (hb2.cell (p := ⟨b, o + 4 * k + 3, none⟩) hb).trans C3.out⟩
          | go_keep)
        (first
          | (refine step_append_lies _ rfl _ _ 31 rfl w.heap.size 36 i0 (.int .u32 0) 1 4 Try.underlying31 HI.out HZ0.out HZ1.out HZ2.out rfl (by decide) _ k _ rfl (hown.drew.alloc _) ⟨wr.heap.size, 0, none⟩ 1 1 [.int .u32 (U32 (word4 x0 x1 x2 x3))] rfl rfl (cell_one_new' _ _ _ _ rfl) (by simp [Value.oneCell']) (by omega) (by unfold maxLen; omega) (by omega) (by simp; omega) _ rfl ?_; intro g cap' w2 hown2 hgrow _ _; have hb2 : Below w.heap.size w w2 := (hbl.drew.alloc hs _).grown hgrow (by simp; omega) (fun j hj => (hown.lt j hj).1)))

      have HO2 := Lib.hid hown2
      clear hgrow hown hown2
      go_wp2
      go_roundw
      case rel => exact ⟨k + 1, a', by omega, by rw [HM.out, HCM.out]; congr 1 <;> omega, fun h => (HPB.out _ _ rfl (by have := HCM.out; omega)).trans (by rw [show o + 4 * k + 4 * 1 = o + 4 * (k + 1) by omega]), by rw [HW.out, u32s, List.map_append]; exact HO2.out, hb2⟩
      case measure => have := HM.out; simp [sliceLen]; omega
    · have hlt2 : n - 4 * k < 4 := by omega
      go_wp2
      go_ret
      have hnk : n / 4 = k := by omega
      rw [wordsOf_rest l k (by rw [HN.out]; omega) (by rw [HN.out]; omega)] at hown
      rw [hnk]
      exact ⟨_, rfl, hown, hbl⟩

end Go.Proofs.Ytoefaghakjcfcaa
