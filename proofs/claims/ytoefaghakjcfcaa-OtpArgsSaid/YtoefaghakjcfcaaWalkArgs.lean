/- The walk of curtilagelaw11.OtpArgs. -/
import Derived.Test.YtoefaghakjcfcaaPlanNil
import Derived.Test.YtoefaghakjcfcaaWalkRows
import Derived.Deep.CutBlock
namespace Go.Proofs.Ytoefaghakjcfcaa
open Go.RowKit

def nilWs : List (BitVec 32 × Bool) := List.replicate 64 (0, false)
theorem nilWs_length : nilWs.length = 64 := by rw [nilWs, List.length_replicate]
theorem nilWs_vals : vals nilWs = List.replicate 64 0 := by decide
theorem nilWs_life : lifeOf nilWs = 0 := by decide +kernel
theorem nilWs_count : countOf nilWs = 0 := by decide +kernel
theorem nilWs_id : idOf nilWs = List.replicate 16 0 := by decide +kernel

theorem otp_of_any (a : Option Addr) (b o m cap : Nat) (l : List (BitVec 32)) (w : World) (hl : l.length = m) (hb : m = 0 ∨ (a = some ⟨b, o, none⟩ ∧ b < w.heap.size)) (hu : U32At w b o l) :
    Calls Try.prog 28 #[.slice a m cap] w fun e w' => ∃ c k, e = .returned (.tuple #[c, .int .i64 k]) ∧ (m = 64 ∧ k = 0 ∨ m ≠ 64 ∧ k = 1) ∧ Below w.heap.size w w' := by
  by_cases h : m = 64
  · subst h
    obtain ⟨rfl, hbl⟩ := hb.resolve_left (by omega)
    refine (otp_of b o cap l w hl hbl hu).mono ?_
    rintro e w' ⟨r, rfl, _, _, _, _, hB⟩
    exact ⟨_, _, rfl, .inl ⟨rfl, rfl⟩, hB⟩
  · refine (otp_of_arg a m cap w h).mono ?_
    rintro e w' ⟨rfl, rfl⟩
    exact ⟨_, _, rfl, .inr ⟨h, rfl⟩, Below.refl _ _⟩

set_option maxRecDepth 100000 in
set_option maxHeartbeats 4000000 in
theorem args_walk (a : Option Addr) (b o n cap : Nat) (l : List (BitVec 32)) (A : Act11) (w : World) (hl : l.length = n) (hcap : n ≤ cap) (hn2 : n ≤ 9223372036854775807) (hb : n = 0 ∨ (a = some ⟨b, o, none⟩ ∧ b < w.heap.size)) (hu : U32At w b o l) (hA : A.Ok) :
    Calls Try.prog 8 #[.slice a n cap, .agg (actCells A).toArray] w fun e w' => e = .returned (.bool true) ∧ Below w.heap.size w w' := by
  obtain ⟨ka, hka⟩ : ∃ ka, actCells A = ka := ⟨_, rfl⟩
  have hal : ka.length = 37 := by rw [← hka]; exact actCells_length hA
  have hk1 : ka[1]? = some (.int .i64 A.n) := by rw [← hka]; rfl
  have hk36 : ka[36]? = some (.int .u32 (U32 A.got)) := by
    rw [← hka]
    simp only [actCells, List.getElem?_cons_succ]
    rw [List.getElem?_append_right (by rw [u8s_length, hA.key]; omega), u8s_length, hA.key]
    rfl
  obtain ⟨W1, hW1, b1, b2, hs⟩ := allocs1 w ka 43
  have HW1 := Lib.hid hW1; have HAL := Lib.hid hal; have HL := Lib.hid hl; have B1 := Lib.hid b1; have HB := Lib.hid hb; have HU := Lib.hid hu; have HK1 := Lib.hid hk1; have HK36 := Lib.hid hk36; have HKA := Lib.hid hka
  have HA := Lib.hid hA
  rw [hka]
  clear hW1 hal hl b1 hb hu hk1 hk36 hka hA
  go_enter Try.func8, Try.ntmps8
  go_wp2_with fail
  change Calls _ _ _ (w.alloc (.cells ka.toArray 43)) _
  rw [HW1.out]
  refine (awake11 W1).mono ?_
  rintro e w2 ⟨rfl, hb2⟩
  have hB2 : Below w.heap.size w w2 := b2.trans (hb2.mono (by omega))
  have C1 := Lib.hid (B1.out.below hb2 (by have := B1.out.lt; omega))
  go_wp2_with fail
  obtain ⟨m, hm⟩ : ∃ m, (min (n : Int) 80).toNat = m := ⟨_, rfl⟩
  have hmn : m = min n 80 := by omega
  rw [hm]
  have HM := Lib.hid hm; clear hm
  have hm80 : m ≤ 80 := by omega
  have hmle : m ≤ n := by omega
  clear hmn
  have hlt : (l.take m).length = m := by rw [List.length_take, HL.out]; omega
  have hbm : m = 0 ∨ (a = some ⟨b, o, none⟩ ∧ b < w2.heap.size) := by
    rcases HB.out with h | ⟨h, h'⟩
    · exact .inl (by omega)
    · exact .inr ⟨h, Nat.lt_of_lt_of_le h' hB2.size⟩
  have hum : U32At w2 b o (l.take m) := by
    rcases HB.out with h | ⟨_, h'⟩
    · intro i hi; exfalso; rw [hlt] at hi; omega
    · intro i hi
      have := (HU.out.below hB2 h') i (by rw [List.length_take] at hi; omega)
      simpa only [List.getElem_take] using this
  refine (otp_of_any a b o m cap (l.take m) w2 hlt hbm hum).mono ?_
  rintro e w3 ⟨cp, k, rfl, hk, hb3⟩
  clear hlt hbm hum
  have hX3 : Below w2.heap.size w2 w3 := hb3
  have hx3 := hX3.size
  clear hb3
  have c1 := ((C1.out.below hX3 C1.out.lt).cell 1).trans HK1.out
  go_wp2_with fail
  refine (otp_row_nil A.n w3).mono ?_
  rintro e w4 ⟨rfl, hb4⟩
  rw [zero32_z]
  have hX4 : Below w2.heap.size w2 w4 := hX3.trans (hb4.mono hx3)
  have hx4 := hX4.size
  clear hb4 c1
  have heZ := equal_octets 47 5 16 Try.underlying47 Try.underlying5 (by kernel_rfl) (List.replicate 16 0) (List.replicate 16 0) rfl rfl
  simp only [decide_true] at heZ
  have HEZ := Lib.hid heZ; clear heZ
  go_wp2_with (first | ((with_reducible refine at_load 43 ?_); refine wpList_load_blk _ 0 37 ka rfl _ _ _ C5.out Try.underlying43 rfl (by kernel_rfl) (by rw [HAL.out]; omega) (by rw [List.drop_zero, List.take_of_length_le (by rw [HAL.out]; omega)]) ?_) | ((with_reducible refine at_store 41 ?_); refine wpList_store_blk _ 0 rfl z32 rfl _ _ (Blk.new w4 41 z32) (by kernel_rfl) (by decide) z32_one ?_; intro w5 h5 j5; have hj := below_stored j5; have hX5 : Below w2.heap.size w2 w5 := hX4.trans (hj.mono hx4); have hx5 := hX5.size; have C5 := Lib.hid (C1.out.below hX5 C1.out.lt); clear h5 j5 hj))
  rw [← HKA.out]
  refine (plan11_nil A w5 HA.out).mono ?_
  rintro e w6 ⟨rfl, hb6⟩
  have hX6 : Below w2.heap.size w2 w6 := hX5.trans (hb6.mono hx5)
  have hx6 := hX6.size
  clear hb6
  go_wp2_with fail
  refine (otp_seal_nil w6).mono ?_
  rintro e w7 ⟨rfl, hb7⟩
  have hX7 : Below w2.heap.size w2 w7 := hX6.trans (hb7.mono hx6)
  have hx7 := hX7.size
  clear hb7
  rcases hk with ⟨rfl, rfl⟩ | ⟨hm64, rfl⟩
  · go_wp2_with fail
    refine (otp_do_nil _ _ _ _).mono ?_
    rintro e w8 ⟨rfl, hb8⟩
    have hX8 : Below w2.heap.size w2 w8 := hX7.trans (((below_alloc _ _).trans (hb8.mono (by simp))).mono hx7)
    have hx8 := hX8.size
    have c8 := ((C1.out.below hX8 C1.out.lt).cell 36).trans HK36.out
    clear hb8
    go_wp2_with fail
    refine (otp_tear_nil _ _ _ _).mono ?_
    rintro e w9 ⟨rfl, hb9⟩
    have hX9 : Below w2.heap.size w2 w9 := hX8.trans (hb9.mono hx8)
    have hx9 := hX9.size
    clear hb9 c8
    go_wp2_with fail
    refine (otp_life_nil nilWs _ nilWs_length (Lib.hid nilWs_vals)).mono ?_
    rintro e wA ⟨rfl, hbA⟩
    rw [nilWs_life]
    have hXA : Below w2.heap.size w2 wA := hX9.trans (hbA.mono hx9)
    have hxA := hXA.size
    clear hbA
    go_wp2_with fail
    refine (otp_counter_nil nilWs _ nilWs_length (Lib.hid nilWs_vals)).mono ?_
    rintro e wB ⟨rfl, hbB⟩
    rw [nilWs_count]
    have hXB : Below w2.heap.size w2 wB := hXA.trans (hbB.mono hxA)
    have hxB := hXB.size
    clear hbB
    go_wp2_with fail
    refine (otp_key_nil _).mono ?_
    rintro e wC ⟨rfl, hbC⟩
    have hXC : Below w2.heap.size w2 wC := hXB.trans (hbC.mono hxB)
    have hxC := hXC.size
    clear hbC
    go_wp2_with fail
    refine (otp_id_nil nilWs _ nilWs_length (Lib.hid nilWs_vals)).mono ?_
    rintro e wD ⟨rfl, hbD⟩
    rw [nilWs_id]
    have hXD : Below w2.heap.size w2 wD := hXC.trans (hbD.mono hxC)
    clear hbD
    have heD := HEZ.out wD
    rw [show u8s (List.replicate 16 0) = List.replicate 16 (.int .u8 0) from by simp [u8s, U8_eq]] at heD ⊢
    simp only [List.reduceReplicate] at heD ⊢
    go_wp2_with fail

    go_ret
    exact ⟨rfl, hB2.trans (hXD.mono hB2.size)⟩
  · have hm65 : ((m : Int) == 64) = false := by simp; omega
    go_wp2_with fail
    refine (otp_do_nil _ _ _ _).mono ?_
    rintro e w8 ⟨rfl, hb8⟩
    have hX8 : Below w2.heap.size w2 w8 := hX7.trans (((below_alloc _ _).trans (hb8.mono (by simp))).mono hx7)
    have hx8 := hX8.size
    have c8 := ((C1.out.below hX8 C1.out.lt).cell 36).trans HK36.out
    clear hb8
    go_wp2_with fail
    refine (otp_tear_nil _ _ _ _).mono ?_
    rintro e w9 ⟨rfl, hb9⟩
    have hX9 : Below w2.heap.size w2 w9 := hX8.trans (hb9.mono hx8)
    have hx9 := hX9.size
    clear hb9 c8
    go_wp2_with fail
    refine (otp_life_nil nilWs _ nilWs_length (Lib.hid nilWs_vals)).mono ?_
    rintro e wA ⟨rfl, hbA⟩
    rw [nilWs_life]
    have hXA : Below w2.heap.size w2 wA := hX9.trans (hbA.mono hx9)
    have hxA := hXA.size
    clear hbA
    go_wp2_with fail
    refine (otp_counter_nil nilWs _ nilWs_length (Lib.hid nilWs_vals)).mono ?_
    rintro e wB ⟨rfl, hbB⟩
    rw [nilWs_count]
    have hXB : Below w2.heap.size w2 wB := hXA.trans (hbB.mono hxA)
    have hxB := hXB.size
    clear hbB
    go_wp2_with fail
    refine (otp_key_nil _).mono ?_
    rintro e wC ⟨rfl, hbC⟩
    have hXC : Below w2.heap.size w2 wC := hXB.trans (hbC.mono hxB)
    have hxC := hXC.size
    clear hbC
    go_wp2_with fail
    refine (otp_id_nil nilWs _ nilWs_length (Lib.hid nilWs_vals)).mono ?_
    rintro e wD ⟨rfl, hbD⟩
    rw [nilWs_id]
    have hXD : Below w2.heap.size w2 wD := hXC.trans (hbD.mono hxC)
    clear hbD
    have heD := HEZ.out wD
    rw [show u8s (List.replicate 16 0) = List.replicate 16 (.int .u8 0) from by simp [u8s, U8_eq]] at heD ⊢
    simp only [List.reduceReplicate] at heD ⊢
    go_wp2_with fail

    go_ret
    exact ⟨rfl, hB2.trans (hXD.mono hB2.size)⟩
end Go.Proofs.Ytoefaghakjcfcaa
