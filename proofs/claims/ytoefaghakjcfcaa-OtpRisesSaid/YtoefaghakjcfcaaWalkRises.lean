/- The walk of curtilagelaw11.OtpRises. -/
import Derived.Test.YtoefaghakjcfcaaAct11
import Derived.Test.YtoefaghakjcfcaaHeld
import Derived.Test.YtoefaghakjcfcaaOpenActs
import Derived.Deep.DeepCutAuto
import Derived.Deep.CutBlock
namespace Go.Proofs.Ytoefaghakjcfcaa
open Go.RowKit

def zAct : List Value := [.int .u8 0, .int .i64 0, .int .u8 0, .int .u8 0, .int .u8 0, .int .u8 0, .int .u8 0, .int .u8 0, .int .u8 0, .int .u8 0, .int .u8 0, .int .u8 0, .int .u8 0, .int .u8 0, .int .u8 0, .int .u8 0, .int .u8 0, .int .u8 0, .int .u8 0, .int .u8 0, .int .u8 0, .int .u8 0, .int .u8 0, .int .u8 0, .int .u8 0, .int .u8 0, .int .u8 0, .int .u8 0, .int .u8 0, .int .u8 0, .int .u8 0, .int .u8 0, .int .u8 0, .int .u8 0, .int .u8 0, .bool false, .int .u32 0]
theorem actCells_one (A : Act11) : ∀ v ∈ actCells A, v.oneCell' = true := by
  intro v hv
  simp only [actCells, List.mem_cons, List.mem_append, List.not_mem_nil, or_false] at hv
  rcases hv with rfl | rfl | hv | rfl | rfl | rfl
  · rfl
  · rfl
  · exact u8s_one _ v hv
  · rfl
  · rfl
  · rfl
theorem Kept.cell {S : Nat → Prop} {w w' : World} (k : Kept S w w') {p : Addr} (hb : p.block < w.heap.size) (hs : ¬ S p.block) : w'.cell? p = w.cell? p :=
  World.cell?_of_block (k.block p.block hb hs)
theorem ChipAt.drewN {w : World} {r : Ref} {ws : List (BitVec 32 × Bool)} {sl : Bool} (h : ChipAt w r ws sl) (n : Nat) : ChipAt (w.drewN n) r ws sl :=
  h.below (below_drewN (Below.refl w.heap.size w) n) (Nat.le_refl _)
theorem rowOf_len32 (ws : List (BitVec 32 × Bool)) (sl : Bool) (i : Int) (h : ws.length = 64) : (rowOf ws sl i).1.length = 32 := by
  unfold rowOf
  split
  · rfl
  · split
    · rfl
    · split
      · rfl
      · split
        · rfl
        · rw [flat_be4_length, List.length_take, List.length_drop, vals_length, h]; omega
theorem u8_rem20 (x : BitVec 8) : (U8 x).tmod 20 = ((x.toNat % 20 : Nat) : Int) := by
  rw [U8_eq, Int.tmod_eq_emod_of_nonneg (by omega)]; omega
theorem actCells_at (A : Act11) (h : A.Ok) : (actCells A)[0]? = some (.int .u8 (U8 A.op)) ∧ (actCells A)[1]? = some (.int .i64 A.n) ∧ (actCells A)[34]? = some (.int .u8 (U8 A.many)) ∧ (actCells A)[35]? = some (.bool A.torn) ∧ (actCells A)[36]? = some (.int .u32 (U32 A.got)) := by
  have e : ∀ k, (actCells A)[34 + k]? = ([.int .u8 (U8 A.many), .bool A.torn, .int .u32 (U32 A.got)] : List Value)[k]? := by
    intro k
    rw [show 34 + k = (32 + k) + 2 by omega]
    simp only [actCells, List.getElem?_cons_succ]
    rw [List.getElem?_append_right (by rw [u8s_length, h.key]; omega), u8s_length, h.key, show 32 + k - 32 = k by omega]
  exact ⟨rfl, rfl, e 0, e 1, e 2⟩

set_option maxRecDepth 100000 in
set_option maxHeartbeats 20000000 in
theorem rises_walk (V : List (BitVec 32)) (blank : Bool) (a : Option Addr) (b o n cap : Nat) (As : List Act11) (w : World) (hV : V.length = 64) (hAs : As.length = n) (hcap : n ≤ cap) (hn2 : n ≤ 9223372036854775807) (hok : ∀ j (hj : j < As.length), As[j].Ok) (hb : n = 0 ∨ (a = some ⟨b, o, none⟩ ∧ b < w.heap.size)) (hacts : ActsAt w b o As) :
    Calls Try.prog 5 #[.agg (u32s V).toArray, .bool blank, .slice a n cap] w fun e w' => e = .returned (.bool true) ∧ Below w.heap.size w w' := by
  have hkl : (u32s V).length = 64 := by rw [u32s_length]; exact hV
  obtain ⟨kv, hkv⟩ : ∃ kv, u32s V = kv := ⟨_, rfl⟩
  rw [hkv] at hkl
  rw [hkv]
  obtain ⟨W1, hW1, b1, b3, hs⟩ := allocs1 w kv 39
  have HV := Lib.hid hV; have HKV := Lib.hid hkv; have HKL := Lib.hid hkl; have HW1 := Lib.hid hW1
  have HAS := Lib.hid hAs; have HOK := Lib.hid hok; have HB := Lib.hid hb; have HACTS := Lib.hid hacts
  have B1 := Lib.hid b1
  clear hV hkv hkl hW1 b1 hAs hok hb hacts
  go_enter Try.func5, Try.ntmps5
  go_wp2_with fail
  change Calls _ _ _ (w.alloc (.cells kv.toArray 39)) _
  rw [HW1.out]
  refine (awake11 W1).mono ?_
  rintro e w2 ⟨rfl, hb2⟩
  have hB2 : Below w.heap.size w w2 := b3.trans (hb2.mono (by omega))
  have hs2 := hb2.size
  have C1 := Lib.hid (B1.out.below hb2 (by omega))
  clear hb2 b3
  go_wp2_with ((with_reducible refine at_load 39 ?_); refine wpList_load_blk _ 0 64 kv rfl _ _ _ C1.out Try.underlying39 rfl (by kernel_rfl) (by rw [HKL.out]; omega) (by rw [List.drop_zero, List.take_of_length_le (by rw [HKL.out]; omega)]) ?_)
  rw [← HKV.out]
  refine (lay11 V _ HV.out).mono ?_
  rintro e w3 ⟨r, rfl, hch, h1, h2, h3, hb3⟩
  have hX3 : Below w.heap.size w w3 := hB2.trans (hb3.mono hB2.size)
  have HC3 := Lib.hid hch; clear hch hb3
  have hs3 := hX3.size
  have hs22 := hB2.size
  go_upto_if 24 with fail
  go_cut [7] (fun s7 wx => ∃ (r : Ref) (ws : List (BitVec 32 × Bool)), s7 = .pointer (some ⟨r.bc, 0, none⟩) ∧ ChipAt wx r ws false ∧ w.heap.size ≤ r.bc ∧ w.heap.size ≤ r.ba ∧ w.heap.size ≤ r.bw ∧ Below w.heap.size w wx)
  case first =>
    cases blank with
    | true =>
      go_wp2_with fail
      refine (otp_new w3).mono ?_
      rintro e w4 ⟨r', rfl, hch', h1', h2', h3', hb'⟩
      go_wp2_with fail
      go_meet
      exact ⟨r', _, rfl, hch', by omega, by omega, by omega, hX3.trans (hb'.mono hs3)⟩
    | false =>
      go_wp2_with fail
      go_meet
      exact ⟨r, _, rfl, HC3.out, by omega, by omega, by omega, hX3⟩
  case rest =>
  clear HC3 h1 h2 h3 hX3 hs3 hB2 hs22 hs2 C1
  obtain ⟨r, ws0', rfl, hch, h1, h2, h3, hX4⟩ := hcut
  rename World => w4
  have HC4 := Lib.hid hch; clear hch
  go_wp2_with fail
  go_loopw [30] (fun i wr => ∃ (j : Nat) (ws : List (BitVec 32 × Bool)), j ≤ n ∧ j ≤ 12 ∧ i = .int .i64 j ∧ ChipAt wr r ws false ∧ Below w.heap.size w wr) (fun i _ => n - (intOf i).toNat)
  case atStart => exact ⟨0, ws0', by omega, by omega, rfl, HC4.out, hX4⟩
  case round =>
    obtain ⟨j, ws, hj, hj12, rfl, hch, hB⟩ := hrel
    clear HC4 hX4
    rename World => w5
    have hs5 := hB.size
    by_cases hlt : j < n
    · obtain ⟨rfl, hbl⟩ := HB.out.resolve_left (by omega)
      obtain ⟨A, hAe⟩ : ∃ A, As[j]'(by rw [HAS.out]; exact hlt) = A := ⟨_, rfl⟩
      have hAok : A.Ok := by rw [← hAe]; exact HOK.out j (by rw [HAS.out]; exact hlt)
      have hcl := (HACTS.out.below hB hbl) j (by rw [HAS.out]; exact hlt)
      rw [hAe] at hcl
      have hcnt := actCells_at A hAok
      have hone := actCells_one A
      have hal := actCells_length hAok
      obtain ⟨ka, hka⟩ : ∃ ka, actCells A = ka := ⟨_, rfl⟩
      rw [hka] at hcl hcnt hone hal
      have HC5 := Lib.hid hch; have HCL := Lib.hid hcl; have HCNT := Lib.hid hcnt; have HONE := Lib.hid hone; have HAL := Lib.hid hal; have HA := Lib.hid hAok; have HKA := Lib.hid hka
      have hcw := hch.chip.cell 0
      simp only [List.getElem?_cons_zero] at hcw
      have hlb := hch.arr.wrd.lt
      clear hch hcl hcnt hone hal hAok hka hAe
      by_cases h12 : j < 12
      · go_wp2_with (first
          | ((with_reducible refine at_load 43 ?_); refine wpList_load_cells _ _ ka rfl _ HCL.out Try.underlying43 rfl (by rw [HAL.out]; kernel_rfl) ?_)
          | ((with_reducible refine at_store 43 ?_); refine wpList_store_blk _ 0 rfl ka rfl _ _ (Blk.new w5 43 zAct) (by rw [HAL.out]; kernel_rfl) (by rw [HAL.out]; decide) HONE.out ?_; intro w6 h6 j6; have hj6 := below_stored j6; rw [splice_all _ _ (by rw [HAL.out]; rfl)] at h6; have hX6 : Below w5.heap.size w5 w6 := hj6; have D6 := Lib.hid h6; have hs6 := hX6.size; have HC6 := Lib.hid (HC5.out.below hX6 (Nat.le_refl _)); have hcw6 := (hX6.cell (p := ⟨r.bc, 0, none⟩) HC5.out.chip.lt).trans hcw; clear h6 j6 hj6))
        clear hcw
        have hD6 := D6.out.lt
        refine (chip_words r ws false w6 HC6.out).mono ?_
        rintro e w7 ⟨g7, cap7, rfl, hc7, hg7, hg7', hu7, hb7⟩
        have hX7 : Below w6.heap.size w6 w7 := hb7
        have hs7 := hX7.size
        have HU7 := Lib.hid hu7
        have D7 := Lib.hid (D6.out.below hX7 hD6)
        have HC7 := Lib.hid (HC6.out.below hX7 (Nat.le_refl _))
        clear hu7 hb7 hcw6
        go_wp2_with ((with_reducible refine at_load 43 ?_); refine wpList_load_blk _ 0 37 ka rfl _ _ _ D7.out Try.underlying43 rfl (by kernel_rfl) (by rw [HAL.out]; omega) (by rw [List.drop_zero, List.take_of_length_le (by rw [HAL.out]; omega)]) ?_)
        rw [← HKA.out]
        refine (plan11_at r ws false A w7 HC7.out HA.out).mono ?_
        rintro e w8 ⟨p, pe, a8, b8, n8, cap8, hpl, rfl, hn8, hw8, hb8⟩
        have hX8 : Below w6.heap.size w6 w8 := hX7.trans (hb8.mono hs7)
        have hs8 := hX8.size
        have hs78 := hb8.size
        obtain ⟨f1, _, _, _⟩ := planned_facts ws A (p, pe) HC7.out.len hpl
        have HU8 := Lib.hid (HU7.out.below hb8 hg7')
        have D8 := Lib.hid (D6.out.below hX8 hD6)
        have HC8 := Lib.hid (HC6.out.below hX8 (Nat.le_refl _))
        have HW8 := Lib.hid hw8; have HPL := Lib.hid hpl
        obtain ⟨i0, i1, i34, i35, i36⟩ := HCNT.out
        have c34 := (D8.out.cell 34).trans i34
        have hrem := u8_rem20 A.many
        obtain ⟨mm, hmm⟩ : ∃ mm, A.many.toNat % 20 = mm := ⟨_, rfl⟩
        have hmm20 : mm < 20 := by omega
        rw [hmm] at hrem
        have hu20 : IntKind.i64.wrap ((mm : Nat) : Int) = mm := by rw [IntKind.wrap_i64]; omega
        obtain ⟨k, hk⟩ : ∃ k, min mm n8 = k := ⟨_, rfl⟩
        have hmin : min (mm : Int) (n8 : Int) = (k : Int) := by omega
        have hkn : k ≤ n8 := by omega
        have hncap := HW8.out.le
        have hkc : k ≤ cap8 := by omega
        obtain ⟨q1, q2, _, _, _⟩ := part_rise ws p k A.torn A.got f1
        have Q1 := Lib.hid q1; have Q2 := Lib.hid q2
        have I0 := Lib.hid i0; have I1 := Lib.hid i1; have I35 := Lib.hid i35; have I36 := Lib.hid i36
        clear hb8 hw8 hpl f1 hk hmm i0 i1 i34 i35 i36 q1 q2 HU7 D7 HC7 hncap
        generalize U8 A.many = um at *
        go_wp2_with fail
        refine (do_at r ws false p a8 w7.heap.size b8 n8 k cap8 cap8 w8 HC8.out HW8.out hkn hn8 (by omega) Q1.out).mono ?_
        rintro e w9 ⟨rfl, hch9, hk9⟩
        obtain ⟨ws9, hws9⟩ : ∃ x, (doAll ws (p.take k)).1 = x := ⟨_, rfl⟩
        rw [hws9] at hch9
        have HC9 := Lib.hid hch9; have HK9 := Lib.hid hk9; have HWS9 := Lib.hid hws9
        have hs89 := hk9.size
        have D9 := Lib.hid (D8.out.kept hk9 (by omega))
        have HU9 := Lib.hid (HU8.out.kept hk9 (by omega) (by omega))
        have HW9 : Hid (∀ i, (h : i < p.length) → w9.cell? ⟨b8, 0 + i * 2, none⟩ = some (.int .i64 p[i].1) ∧ w9.cell? ⟨b8, 0 + i * 2 + 1, none⟩ = some (.int .u32 (U32 p[i].2))) := Lib.hid (fun i hi => by
          have hh := HW8.out.cells i hi
          have hll := HW8.out.len
          have hbb := HW8.out.lt.resolve_left (by omega)
          have hne : ∀ x, (⟨b8, x, none⟩ : Addr).block ≠ r.bw := fun x => by show b8 ≠ r.bw; omega
          exact ⟨(hk9.cell (p := ⟨b8, 0 + i * 2, none⟩) hbb.2 (hne _)).trans hh.1, (hk9.cell (p := ⟨b8, 0 + i * 2 + 1, none⟩) hbb.2 (hne _)).trans hh.2⟩)
        clear hch9 hk9 hws9 c34 hmin hrem hu20
        have hk89 : Kept (· = r.bw) w8 w9 := HK9.out
        have hwl := HW8.out.len
        have hwlt := HW8.out.lt
        have hwk : k < n8 → b8 < w9.heap.size ∧ b8 ≠ r.bw := fun h => by have := hwlt.resolve_left (by omega); omega
        have h5bw : w5.heap.size ≠ r.bw := by omega
        have c35 : ∀ wx, Kept (· = r.bw) w9 wx → wx.cell? ⟨w5.heap.size, 35, none⟩ = some (.bool A.torn) := fun wx hx => ((hx.cell (p := ⟨w5.heap.size, 35, none⟩) D9.out.lt h5bw).trans (D9.out.cell 35)).trans I35.out
        have c36 : ∀ wx, Kept (· = r.bw) w9 wx → wx.cell? ⟨w5.heap.size, 36, none⟩ = some (.int .u32 (U32 A.got)) := fun wx hx => ((hx.cell (p := ⟨w5.heap.size, 36, none⟩) D9.out.lt h5bw).trans (D9.out.cell 36)).trans I36.out
        have C35 := Lib.hid c35; have C36 := Lib.hid c36; have HWK := Lib.hid hwk
        obtain ⟨wsA, hwsA⟩ : ∃ x, partWs ws p k A.torn A.got = x := ⟨_, rfl⟩
        have HWSA := Lib.hid hwsA
        clear c35 c36 hwk hwlt hwsA
        go_upto_if 79 with fail
        go_cut [13, 79] (fun s13 s79 wx => s13 = .int .i64 k ∧ s79 = .bool false ∧ ChipAt wx r wsA false ∧ Kept (· = r.bw) w8 wx)
        case first =>
          obtain ⟨tn, htn⟩ : ∃ tn, A.torn = tn := ⟨_, rfl⟩
          have hq := HWSA.out
          have c35 := C35.out w9 (Kept.refl _ _)
          rw [htn] at c35 hq
          unfold partWs at hq
          rw [HWS9.out] at hq
          cases tn with
          | false =>
            obtain rfl : ws9 = wsA := hq
            go_quiet (fail)
            go_wp2_with fail
            go_meet
            exact ⟨rfl, rfl, ChipAt.drewN HC9.out nq, hk89.drewN nq⟩
          | true =>
            by_cases hkk : k < n8
            · obtain rfl := HW8.out.ptr.resolve_left (by omega)
              obtain ⟨x, hx⟩ : ∃ x, p[k]'(by omega) = x := ⟨_, rfl⟩
              have hpx : p[k]? = some x := by rw [List.getElem?_eq_getElem (by omega), hx]
              rw [hpx] at hq
              have hcut2 := Q2.out x hpx
              rw [HWS9.out] at hcut2
              have hcx := HW9.out k (by omega)
              rw [hx, Nat.zero_add] at hcx
              obtain ⟨xi, xv⟩ := x
              have hq2 : (cut1 ws9 xi xv A.got).1 = wsA := hq
              have hcut3 : (cut1 ws9 xi xv A.got).2 = 0 := hcut2
              have hb8 := HWK.out hkk
              have hkk' : (k : Int) < (n8 : Int) := by omega
              have hcs : ∀ wx, Kept (· = r.bw) w9 wx → wx.cell? ⟨b8, k * 2, none⟩ = some (.int .i64 xi) ∧ wx.cell? ⟨b8, k * 2 + 1, none⟩ = some (.int .u32 (U32 xv)) := fun wx hx =>
                ⟨(hx.cell (p := ⟨b8, k * 2, none⟩) hb8.1 hb8.2).trans hcx.1, (hx.cell (p := ⟨b8, k * 2 + 1, none⟩) hb8.1 hb8.2).trans hcx.2⟩
              have HCS := Lib.hid hcs; have HQ2 := Lib.hid hq2; have HCUT := Lib.hid hcut3
              have c35t : ∀ wx, Kept (· = r.bw) w9 wx → wx.cell? ⟨w5.heap.size, 35, none⟩ = some (.bool true) := fun wx hx => by rw [← htn]; exact C35.out wx hx
              have C35T := Lib.hid c35t
              clear hcs hq2 hcut3 hcut2 hcx hpx hx hq c35 c35t htn
              refine wp_region_held_drew (S := fun wx => Kept (· = r.bw) w9 wx) (by kernel_rfl) (Kept.refl _ _).drew (fun hHeld => ?_)
              refine held_take 0 (v := ?_) rfl rfl (by kernel_rfl) (by kernel_rfl) (by kernel_rfl) (fun _ _ _ h => h) (by rfl) ?_ (by assumption) ?_
              rotate_left
              · intro wx hSw; clear hSw; go_simp; try with_reducible rfl
              simp only [List.set_cons_zero, List.set_cons_succ]
              refine held_take 1 (v := ?_) rfl rfl (by kernel_rfl) (by kernel_rfl) (by kernel_rfl) (fun _ _ _ h => h) (by rfl) ?_ (by assumption) ?_
              rotate_left
              · intro wx hSw; have cx := C35T.out wx hSw; clear hSw; go_simp; try with_reducible rfl
              simp only [List.set_cons_zero, List.set_cons_succ]
              refine held_take 2 (v := ?_) rfl rfl (by kernel_rfl) (by kernel_rfl) (by kernel_rfl) (fun _ _ _ h => h) (by rfl) ?_ (by assumption) ?_
              rotate_left
              · intro wx hSw; clear hSw; go_simp; try with_reducible rfl
              simp only [List.set_cons_zero, List.set_cons_succ]
              refine held_take 3 (v := ?_) rfl rfl (by kernel_rfl) (by kernel_rfl) (by kernel_rfl) (fun _ _ _ h => h) (by rfl) ?_ (by assumption) ?_
              rotate_left
              · intro wx hSw; clear hSw; go_simp; try with_reducible rfl
              simp only [List.set_cons_zero, List.set_cons_succ]
              refine held_take 4 (v := ?_) rfl rfl (by kernel_rfl) (by kernel_rfl) (by kernel_rfl) (fun _ _ _ h => h) (by rfl) ?_ (by assumption) ?_
              rotate_left
              · intro wx hSw; clear hSw; go_simp; try with_reducible rfl
              simp only [List.set_cons_zero, List.set_cons_succ]
              refine held_take 5 (v := ?_) rfl rfl (by kernel_rfl) (by kernel_rfl) (by kernel_rfl) (fun _ _ _ h => h) (by rfl) ?_ (by assumption) ?_
              rotate_left
              · intro wx hSw; clear hSw; go_simp; try with_reducible rfl
              simp only [List.set_cons_zero, List.set_cons_succ]
              refine held_take 6 (v := ?_) rfl rfl (by kernel_rfl) (by kernel_rfl) (by kernel_rfl) (fun _ _ _ h => h) (by rfl) ?_ (by assumption) ?_
              rotate_left
              · intro wx hSw; clear hSw; go_simp; try with_reducible rfl
              simp only [List.set_cons_zero, List.set_cons_succ]
              refine held_take 7 (v := ?_) rfl rfl (by kernel_rfl) (by kernel_rfl) (by kernel_rfl) (fun _ _ _ h => h) (by rfl) ?_ (by assumption) ?_
              rotate_left
              · intro wx hSw; clear hSw; go_simp; try with_reducible rfl
              simp only [List.set_cons_zero, List.set_cons_succ]
              refine held_take 8 (v := ?_) rfl rfl (by kernel_rfl) (by kernel_rfl) (by kernel_rfl) (fun _ _ _ h => h) (by rfl) ?_ (by assumption) ?_
              rotate_left
              · intro wx hSw; clear hSw; go_simp; try with_reducible rfl
              simp only [List.set_cons_zero, List.set_cons_succ]
              refine held_take 9 (v := ?_) rfl rfl (by kernel_rfl) (by kernel_rfl) (by kernel_rfl) (fun _ _ _ h => h) (by rfl) ?_ (by assumption) ?_
              rotate_left
              · intro wx hSw; clear hSw; go_simp; try with_reducible rfl
              simp only [List.set_cons_zero, List.set_cons_succ]
              refine held_take 10 (v := ?_) rfl rfl (by kernel_rfl) (by kernel_rfl) (by kernel_rfl) (fun _ _ _ h => h) (by rfl) ?_ (by assumption) ?_
              rotate_left
              · intro wx hSw; clear hSw; go_simp; try with_reducible rfl
              simp only [List.set_cons_zero, List.set_cons_succ]
              refine held_take 11 (v := ?_) rfl rfl (by kernel_rfl) (by kernel_rfl) (by kernel_rfl) (fun _ _ _ h => h) (by rfl) ?_ (by assumption) ?_
              rotate_left
              · intro wx hSw; clear hSw; go_simp; try with_reducible rfl
              simp only [List.set_cons_zero, List.set_cons_succ]
              refine held_take 12 (v := ?_) rfl rfl (by kernel_rfl) (by kernel_rfl) (by kernel_rfl) (fun _ _ _ h => h) (by rfl) ?_ (by assumption) ?_
              rotate_left
              · intro wx hSw; clear hSw; go_simp; try with_reducible rfl
              simp only [List.set_cons_zero, List.set_cons_succ]
              refine held_take 13 (v := ?_) rfl rfl (by kernel_rfl) (by kernel_rfl) (by kernel_rfl) (fun _ _ _ h => h) (by rfl) ?_ (by assumption) ?_
              rotate_left
              · intro wx hSw; obtain ⟨cx, cy⟩ := HCS.out wx hSw; clear hSw; go_simp; try with_reducible rfl
              simp only [List.set_cons_zero, List.set_cons_succ]
              refine held_take 14 (v := ?_) rfl rfl (by kernel_rfl) (by kernel_rfl) (by kernel_rfl) (fun _ _ _ h => h) (by rfl) ?_ (by assumption) ?_
              rotate_left
              · intro wx hSw; clear hSw; go_simp; try with_reducible rfl
              simp only [List.set_cons_zero, List.set_cons_succ]
              refine held_take 15 (v := ?_) rfl rfl (by kernel_rfl) (by kernel_rfl) (by kernel_rfl) (fun _ _ _ h => h) (by rfl) ?_ (by assumption) ?_
              rotate_left
              · intro wx hSw; have cx := C36.out wx hSw; clear hSw; go_simp; try with_reducible rfl
              simp only [List.set_cons_zero, List.set_cons_succ]
              refine held_call 16 (f := ?_) (args := ?_) rfl rfl (by kernel_rfl) (by rfl) ?_ ?_
              rotate_left 2
              · go_simp; first | done | with_reducible rfl | (refine And.intro ?_ ?_ <;> with_reducible rfl) | (refine And.intro ?_ (And.intro ?_ ?_) <;> with_reducible rfl)
              refine (otp_tear r ws9 false xi xv A.got _ (ChipAt.drewN HC9.out 1)).mono ?_
              rintro e wA ⟨rfl, hchA, hkA⟩
              rw [HCUT.out]
              rw [HQ2.out] at hchA
              have hkA' : Kept (· = r.bw) w9 wA := ((Kept.refl _ _).drew).trans hkA
              have HCA := Lib.hid hchA; clear hchA
              refine ⟨_, rfl, hkA', ?_⟩
              have hHeld := hkA'
              simp only [List.set_cons_zero, List.set_cons_succ]
              refine held_take 17 (v := ?_) rfl rfl (by kernel_rfl) (by kernel_rfl) (by kernel_rfl) (fun _ _ _ h => h) (by rfl) ?_ (by assumption) ?_
              rotate_left
              · intro wx hSw; clear hSw; go_simp; try with_reducible rfl
              simp only [List.set_cons_zero, List.set_cons_succ]
              refine held_take 18 (v := ?_) rfl rfl (by kernel_rfl) (by kernel_rfl) (by kernel_rfl) (fun _ _ _ h => h) (by rfl) ?_ (by assumption) ?_
              rotate_left
              · intro wx hSw; clear hSw; go_simp; try with_reducible rfl
              simp only [List.set_cons_zero, List.set_cons_succ]
              refine wpAnyH_done (by kernel_rfl) ?_ _
              go_wp2_with fail
              go_meet
              exact ⟨rfl, rfl, HCA.out, hk89.trans hkA'⟩
            · have hpx : p[k]? = none := List.getElem?_eq_none (by omega)
              rw [hpx] at hq
              obtain rfl : ws9 = wsA := hq
              have hkk' : ¬ ((k : Int) < (n8 : Int)) := by omega
              clear hpx hkk
              go_quiet (fail)
              go_wp2_with fail
              go_meet
              exact ⟨rfl, rfl, ChipAt.drewN HC9.out nq, hk89.drewN nq⟩
        case rest =>
        obtain ⟨rfl, rfl, hchA, hkA⟩ := hcut
        rename World => wA
        clear C35 C36 HWK HK9 HC9 HW9 HU9 D9 Q1 Q2 I35 I36 hk89
        have hln := HC8.out.len
        obtain ⟨r1, r2, r3, r4⟩ := rises ws A (p, pe) k A.torn A.got hln HPL.out
        simp only [HWSA.out] at r1 r2 r3 r4
        have hsA := hkA.size
        have hB6 : Below w.heap.size w w6 := hB.trans (hX6.mono hs5)
        have hB8 : Below w.heap.size w w8 := hB6.trans (hX8.mono hB6.size)
        have hBA : Below w.heap.size w wA := hB8.trans ⟨hkA.os, hkA.tape, hkA.output, hkA.size, fun j hj => hkA.block j (by have := hB8.size; omega) (by omega)⟩
        have DA := Lib.hid (D8.out.kept hkA (by omega))
        have HUA := Lib.hid (HU8.out.kept hkA (by omega) (by omega))
        have HCA := Lib.hid hchA
        have R4 := Lib.hid r4
        have hcwA := hchA.chip.cell 0
        simp only [List.getElem?_cons_zero] at hcwA
        clear hchA hkA D8 HU8 HC8 HWS9 HW8 r4
        go_wp2_with fail
        refine (chip_words r wsA false wA HCA.out).mono ?_
        rintro e wB ⟨gB, capB, rfl, hcB, hgB, hgB', huB, hbB⟩
        have hXB : Below wA.heap.size wA wB := hbB
        have hsB := hXB.size
        have hBB : Below w.heap.size w wB := hBA.trans (hXB.mono hBA.size)
        have HUB := Lib.hid huB
        have HVB := Lib.hid (HUA.out.below hXB (by omega))
        have DB := Lib.hid (DA.out.below hXB DA.out.lt)
        have HCB := Lib.hid (HCA.out.below hXB (Nat.le_refl _))
        clear huB hbB hcwA HUA DA HCA
        have hlnA := HCB.out.len
        go_upto_if 112 with fail
        go_cut [13, 112] (fun s13 s112 wx => s13 = .int .i64 k ∧ s112 = .bool false ∧ Below wB.heap.size wB wx)
        case first =>
          have hc0 := (DB.out.cell 0).trans I0.out
          have hc1 := (DB.out.cell 1).trans I1.out
          obtain ⟨m, hm⟩ : ∃ m, A.op.toNat % 5 = m := ⟨_, rfl⟩
          have hrem := u8_rem5 A.op
          rw [hm] at hrem r3
          have q1 : ∀ nq, Calls Try.prog 21 #[.slice (some ⟨gB, 0, none⟩) 64 capB] (wB.drewN nq) fun e w' => e = .returned (.int .i64 (lifeOf wsA)) ∧ w' = wB.drewN nq := fun nq =>
            (ref_life gB 0 64 capB (vals wsA) _ (by omega) (by rw [vals_length]; exact hlnA) (HUB.out.below (below_drewN (Below.refl wB.heap.size wB) nq) hgB')).mono fun e w' ⟨h1, h2⟩ => ⟨h1, h2.symm⟩
          have q2 : ∀ nq, Calls Try.prog 21 #[.slice (some ⟨g7, 0, none⟩) 64 cap7] (wB.drewN nq) fun e w' => e = .returned (.int .i64 (lifeOf ws)) ∧ w' = wB.drewN nq := fun nq =>
            (ref_life g7 0 64 cap7 (vals ws) _ (by omega) (by rw [vals_length]; exact hln) (HVB.out.below (below_drewN (Below.refl wB.heap.size wB) nq) (by omega))).mono fun e w' ⟨h1, h2⟩ => ⟨h1, h2.symm⟩
          have q3 : ∀ nq, Calls Try.prog 22 #[.slice (some ⟨gB, 0, none⟩) 64 capB] (wB.drewN nq) fun e w' => e = .returned (.int .i64 (countOf wsA)) ∧ w' = wB.drewN nq := fun nq =>
            (ref_counter gB 0 64 capB (vals wsA) _ (by omega) (by rw [vals_length]; exact hlnA) (HUB.out.below (below_drewN (Below.refl wB.heap.size wB) nq) hgB')).mono fun e w' ⟨h1, h2⟩ => ⟨h1, h2.symm⟩
          have q4 : ∀ nq, Calls Try.prog 22 #[.slice (some ⟨g7, 0, none⟩) 64 cap7] (wB.drewN nq) fun e w' => e = .returned (.int .i64 (countOf ws)) ∧ w' = wB.drewN nq := fun nq =>
            (ref_counter g7 0 64 cap7 (vals ws) _ (by omega) (by rw [vals_length]; exact hln) (HVB.out.below (below_drewN (Below.refl wB.heap.size wB) nq) (by omega))).mono fun e w' ⟨h1, h2⟩ => ⟨h1, h2.symm⟩
          generalize lifeOf wsA = la at *
          generalize lifeOf ws = lw at *
          generalize countOf wsA = ca at *
          generalize countOf ws = cw at *
          obtain ⟨M, hM⟩ : ∃ M, max A.n (cw : Int) = M := ⟨_, rfl⟩
          have hlo : ¬ ((la : Int) < (lw : Int)) := by omega
          have hco : ¬ ((ca : Int) < (cw : Int)) := by omega
          have hmx : m = 1 → ¬ (M < (ca : Int)) := fun h => by
            have := r3 h
            omega
          have HQ1 := Lib.hid q1; have HQ2 := Lib.hid q2; have HQ3 := Lib.hid q3; have HQ4 := Lib.hid q4
          clear q1 q2 q3 q4 r1 r2 r3 hm R4 HUB HVB DB HCB
          generalize U8 A.op = ux at *
          by_cases hm1 : m = 1
          · subst hm1
            have hmx := hmx rfl
            go_quiet (first
              | (go_at_call 21; first | ((with_reducible refine at_calls #[.slice (some ⟨gB, 0, none⟩) 64 capB] _ ?_); exact Calls.quiet_of_same (HQ1.out _)) | ((with_reducible refine at_calls #[.slice (some ⟨g7, 0, none⟩) 64 cap7] _ ?_); exact Calls.quiet_of_same (HQ2.out _)))
              | (go_at_call 22; first | ((with_reducible refine at_calls #[.slice (some ⟨gB, 0, none⟩) 64 capB] _ ?_); exact Calls.quiet_of_same (HQ3.out _)) | ((with_reducible refine at_calls #[.slice (some ⟨g7, 0, none⟩) 64 cap7] _ ?_); exact Calls.quiet_of_same (HQ4.out _))))
            go_wp2_with fail
            go_meet
            exact ⟨rfl, rfl, below_drewN (Below.refl _ _) _⟩
          · have hm2 : ¬ ((m : Int) = 1) := by omega
            have hm3 : ((m : Int) == 1) = false := by simp; omega
            clear hmx
            go_quiet (first
              | (go_at_call 21; first | ((with_reducible refine at_calls #[.slice (some ⟨gB, 0, none⟩) 64 capB] _ ?_); exact Calls.quiet_of_same (HQ1.out _)) | ((with_reducible refine at_calls #[.slice (some ⟨g7, 0, none⟩) 64 cap7] _ ?_); exact Calls.quiet_of_same (HQ2.out _)))
              | (go_at_call 22; first | ((with_reducible refine at_calls #[.slice (some ⟨gB, 0, none⟩) 64 capB] _ ?_); exact Calls.quiet_of_same (HQ3.out _)) | ((with_reducible refine at_calls #[.slice (some ⟨g7, 0, none⟩) 64 cap7] _ ?_); exact Calls.quiet_of_same (HQ4.out _))))
            go_wp2_with fail
            go_meet
            exact ⟨rfl, rfl, below_drewN (Below.refl _ _) _⟩
        case rest =>
        obtain ⟨rfl, rfl, hXC⟩ := hcut
        rename World => wC
        clear DB I0 I1 r1 r2 r3
        go_wp2_with fail
        go_loopw [113] (fun i wr => ∃ q : Nat, q ≤ 4 ∧ i = .int .i64 q ∧ Below wB.heap.size wB wr) (fun i _ => 4 - (intOf i).toNat)
        case atStart => exact ⟨0, by omega, rfl, hXC⟩
        case round =>
          obtain ⟨q, hq, rfl, hBr⟩ := hrel
          rename World => wr
          clear hXC
          have hsr := hBr.size
          by_cases hq4 : q < 4
          · have hrow := R4.out q hq4
            have e1 := rowOf_offs' ws (q : Int)
            have e2 := rowOf_offs' wsA (q : Int)
            have hl1 := rowOf_len32 ws false q hln
            have hl2 := rowOf_len32 wsA false q hlnA
            obtain ⟨⟨Ka, ea⟩, hra⟩ : ∃ x, rowOf ws false q = x := ⟨_, rfl⟩
            obtain ⟨⟨Kb, eb⟩, hrb⟩ : ∃ x, rowOf wsA false q = x := ⟨_, rfl⟩
            rw [hra] at hrow e1 hl1
            rw [hrb] at hrow e2 hl2
            have ref1 := ref_row g7 0 cap7 q (vals ws) wr hc7 hq4 (by rw [vals_length]; exact hln) (by omega) (HVB.out.below hBr (by omega))
            rw [e1] at ref1
            have hkey := equal_octets 41 5 32 Try.underlying41 Try.underlying5 (by kernel_rfl) Ka Ka hl1 hl1
            simp only [decide_true] at hkey
            obtain ⟨za, hza⟩ : ∃ za, u8s Ka = za := ⟨_, rfl⟩
            obtain ⟨zb, hzb⟩ : ∃ zb, u8s Kb = zb := ⟨_, rfl⟩
            have hzal : za.length = 32 := by rw [← hza, u8s_length]; exact hl1
            have hzbl : zb.length = 32 := by rw [← hzb, u8s_length]; exact hl2
            have hzao : ∀ v ∈ za, v.oneCell' = true := by rw [← hza]; exact u8s_one _
            have hzbo : ∀ v ∈ zb, v.oneCell' = true := by rw [← hzb]; exact u8s_one _
            have hzz : Kb = Ka → zb = za := fun h => by rw [← hza, ← hzb, h]
            rw [hza] at hkey
            simp only [hza] at ref1
            have HREF1 := Lib.hid ref1; have HE2 := Lib.hid e2; have HKEY := Lib.hid hkey; have HZA := Lib.hid hzal; have HZB := Lib.hid hzbl; have HZAO := Lib.hid hzao; have HZBO := Lib.hid hzbo; have HZBE := Lib.hid hzb; have HZZ := Lib.hid hzz; have HROW := Lib.hid hrow
            clear ref1 e1 e2 hl1 hl2 hra hrb hkey hza hzb hzal hzbl hzao hzbo hzz hrow
            go_wp2_with fail
            refine HREF1.out.mono ?_
            rintro e wD ⟨rfl, hbD⟩
            have hXD : Below wB.heap.size wB wD := hBr.trans (hbD.mono hsr)
            have hxD := hXD.size
            clear hbD
            go_wp2_with ((with_reducible refine at_store 41 ?_); refine wpList_store_blk _ 0 rfl za rfl _ _ (Blk.new wD 41 z32) (by rw [HZA.out]; kernel_rfl) (by rw [HZA.out]; decide) HZAO.out ?_; intro wE hE jE; have hj := below_stored jE; rw [splice_all _ _ (by rw [HZA.out]; rfl)] at hE; have hXE : Below wB.heap.size wB wE := hXD.trans (hj.mono hxD); have GE := Lib.hid hE; have hxE := hXE.size; have hsDE := hj.size; clear hE jE hj)
            have hltE := GE.out.lt
            have ref2 := ref_row gB 0 capB q (vals wsA) wE hcB hq4 (by rw [vals_length]; exact hlnA) (by omega) (HUB.out.below hXE hgB')
            rw [HE2.out] at ref2
            simp only [HZBE.out] at ref2
            refine ref2.mono ?_
            clear ref2
            rintro e wF ⟨rfl, hbF⟩
            have hXF : Below wB.heap.size wB wF := hXE.trans (hbF.mono hxE)
            have hxF := hXF.size
            have GF := Lib.hid (GE.out.below hbF hltE)
            have hltF := GF.out.lt
            clear hbF
            go_upto_region 27 with ((with_reducible refine at_store 41 ?_); refine wpList_store_blk _ 0 rfl zb rfl _ _ (Blk.new wF 41 z32) (by rw [HZB.out]; kernel_rfl) (by rw [HZB.out]; decide) HZBO.out ?_; intro wG hG jG; have hj := below_stored jG; rw [splice_all _ _ (by rw [HZB.out]; rfl)] at hG; have hXG : Below wB.heap.size wB wG := hXF.trans (hj.mono hxF); have GG := Lib.hid hG; have GH := Lib.hid (GF.out.below hj hltF); clear hG jG hj)
            have EG := HKEY.out wG
            by_cases ha0 : ea = 0
            · subst ha0
              rcases HROW.out.1 rfl with h | h
              · change eb = 17 at h
                subst h
                clear EG
                go_wp2_with fail
                go_roundw
                case rel => exact ⟨q + 1, by omega, by go_num, hXG⟩
                case measure => simp [intOf]; omega
              · obtain ⟨hK, rfl⟩ := Prod.mk.inj h
                obtain rfl := HZZ.out hK
                go_wp2_with ((with_reducible refine at_load_g 41 ?_); first | refine wpList_load_blk_g rfl _ 0 32 zb rfl _ _ _ GG.out Try.underlying41 rfl (by kernel_rfl) (by rw [HZB.out]; omega) (by rw [List.drop_zero, List.take_of_length_le (by rw [HZB.out]; omega)]) ?_ | refine wpList_load_blk_g rfl _ 0 32 zb rfl _ _ _ GH.out Try.underlying41 rfl (by kernel_rfl) (by rw [HZB.out]; omega) (by rw [List.drop_zero, List.take_of_length_le (by rw [HZB.out]; omega)]) ?_)
                go_roundw
                case rel => exact ⟨q + 1, by omega, by go_num, hXG⟩
                case measure => simp [intOf]; omega
            · by_cases ha17 : ea = 17
              · subst ha17
                have h := HROW.out.2 rfl
                change eb = 17 at h
                subst h
                clear EG ha0
                go_wp2_with fail
                go_roundw
                case rel => exact ⟨q + 1, by omega, by go_num, hXG⟩
                case measure => simp [intOf]; omega
              · have n0 : ¬ ((ea : Int) = 0) := by omega
                have n17 : ¬ ((ea : Int) = 17) := by omega
                have n0' : ((ea : Int) == 0) = false := by simp; omega
                have n17' : ((ea : Int) == 17) = false := by simp; omega
                clear EG
                go_wp2_with fail
                go_roundw
                case rel => exact ⟨q + 1, by omega, by go_num, hXG⟩
                case measure => simp [intOf]; omega
          · obtain rfl : q = 4 := by omega
            have hfin : Below w.heap.size w wr := hBB.trans (hBr.mono hBB.size)
            have HCR := Lib.hid (HCB.out.below hBr (Nat.le_refl _))
            go_wp2_with fail
            go_roundw
            case rel => exact ⟨j + 1, wsA, by omega, by omega, by go_num, HCR.out, hfin⟩
            case measure => simp [intOf]; omega
      · obtain rfl : j = 12 := by omega
        clear hcw
        go_wp2_with (first
          | ((with_reducible refine at_load 43 ?_); refine wpList_load_cells _ _ ka rfl _ HCL.out Try.underlying43 rfl (by rw [HAL.out]; kernel_rfl) ?_)
          | ((with_reducible refine at_store 43 ?_); refine wpList_store_blk _ 0 rfl ka rfl _ _ (Blk.new w5 43 zAct) (by rw [HAL.out]; kernel_rfl) (by rw [HAL.out]; decide) HONE.out ?_; intro w6 h6 j6; have hj := below_stored j6; have hX6 : Below w5.heap.size w5 w6 := hj; clear h6 j6 hj))
        go_ret
        exact ⟨rfl, hB.trans (hX6.mono hs5)⟩
    · obtain rfl : j = n := by omega
      go_wp2_with fail
      go_ret
      exact ⟨rfl, hB⟩
end Go.Proofs.Ytoefaghakjcfcaa
