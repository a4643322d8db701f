/- The walk of curtilagelaw11.OtpRows. -/
import Derived.Test.YtoefaghakjcfcaaLawRows
import Derived.Test.YtoefaghakjcfcaaLawCounts
import Derived.Deep.DeepCutAuto
import Derived.Deep.CutBlock
namespace Go.Proofs.Ytoefaghakjcfcaa
open Go.RowKit

theorem u8_rem4 (x : BitVec 8) : (U8 x).tmod 4 = ((x.toNat % 4 : Nat) : Int) := by
  rw [U8_eq, Int.tmod_eq_emod_of_nonneg (by omega)]; omega
theorem below_stored {w w' : World} {o : Obj} (k : Kept (· = w.heap.size) (w.alloc o) w') : Below w.heap.size w w' :=
  Below.put (below_alloc w o) k (fun j e => by subst e; exact Nat.le_refl _) (by simp)
theorem wpList_load_blk_g {P : Program} {ops : Array Oper} {rest : List Oper} {a : Act} {w : World} {Q : Exit → Act → World → Prop} {dst : Option Tmp} {tt : TypeId} {pos : String} {aft : Array Edge} {gd : Nat × Bool} {ty : TypeId} {x : Operand}
    (hw : Region.wanted ⟨dst, .load ty x, tt, pos, aft, some gd⟩ (yielded ops a.tmps) = true)
    (b off n : Nat) (vs : List Value) (hx : a.eval x = .pointer (some ⟨b, off, none⟩)) (T : TypeId) (cs : List Value) (d : TypeDesc) (hb : Blk w b T cs) (hu : P.underlying ty = some d)
    (hd : (match d with | .struct _ | .array _ _ => true | _ => false) = true) (hi : (P.info? ty).map (·.size) = some n) (hle : off + n ≤ cs.length) (hv : (cs.drop off).take n = vs)
    (h : wpList P ops Q rest (a.put dst (.agg vs.toArray)) w) : wpList P ops Q (⟨dst, .load ty x, tt, pos, aft, some gd⟩ :: rest) a w :=
  wpList_step fun K hK => by
    rw [if_pos hw]
    exact wp_load_blk ty x rfl b off n hx T cs d hb hu hd hi hle (hK _ _ (by rw [hv]; exact h))
theorem at_load_g {P : Program} (ty : TypeId) {ops : Array Oper} {rest : List Oper} {a : Act} {w : World} {Q : Exit → Act → World → Prop} {dst : Option Tmp} {tt : TypeId} {pos : String} {aft : Array Edge} {gd : Nat × Bool} {x : Operand}
    (h : wpList P ops Q (⟨dst, .load ty x, tt, pos, aft, some gd⟩ :: rest) a w) : wpList P ops Q (⟨dst, .load ty x, tt, pos, aft, some gd⟩ :: rest) a w := h
theorem loads_octets {w : World} {b : Nat} {cs : List Value} (h : Blk w b 41 cs) (hl : cs.length = 32) : (loadVar 41 ⟨b, 0, none⟩).run Try.prog w = .ok (.agg cs.toArray) w := by
  have := run_load_blk (P := Try.prog) w b 0 32 41 41 cs _ h Try.underlying41 rfl (by kernel_rfl) (by omega)
  rwa [List.drop_zero, List.take_of_length_le (by omega)] at this
theorem ChipAt.kept {S : Nat → Prop} {w w' : World} {r : Ref} {ws : List (BitVec 32 × Bool)} {sl : Bool} (h : ChipAt w r ws sl) (k : Kept S w w') (h1 : ¬ S r.bc) (h2 : ¬ S r.ba) (h3 : ¬ S r.bw) : ChipAt w' r ws sl :=
  ⟨h.chip.kept k h1, ⟨h.arr.arr.kept k h2, h.arr.wrd.kept k h3, h.arr.ne, h.arr.len⟩, h.n1, h.n2, h.len⟩
theorem rowOf_offs (ws : List (BitVec 32 × Bool)) (sl : Bool) (i : Int) : rowOf (offs (vals ws)) sl i = rowOf ws sl i := by unfold rowOf; rw [vals_offs]
theorem zero32_z : u8s zero32 = z32 := by rw [z32_eq]; rfl

set_option maxRecDepth 100000 in
set_option maxHeartbeats 20000000 in
theorem rows_walk (K M : List (BitVec 8)) (x y : BitVec 8) (kill : Bool) (w : World) (hK : K.length = 32) (hM : M.length = 32) :
    Calls Try.prog 6 #[.agg (u8s K).toArray, .agg (u8s M).toArray, .int .u8 (U8 x), .int .u8 (U8 y), .bool kill] w fun e w' => e = .returned (.bool true) ∧ Below w.heap.size w w' := by
  have hkl : (u8s K).length = 32 := by rw [u8s_length]; exact hK
  have hml : (u8s M).length = 32 := by rw [u8s_length]; exact hM
  have heK := equal_octets 41 5 32 Try.underlying41 Try.underlying5 (by kernel_rfl) K K hK hK
  have heM := equal_octets 41 5 32 Try.underlying41 Try.underlying5 (by kernel_rfl) M M hM hM
  have heZ := equal_octets 41 5 32 Try.underlying41 Try.underlying5 (by kernel_rfl) zero32 zero32 rfl rfl
  simp only [decide_true] at heK heM heZ
  rw [zero32_z] at heZ
  have ho1 := u8s_one K
  have ho2 := u8s_one M
  obtain ⟨kk, hkk⟩ : ∃ kk, u8s K = kk := ⟨_, rfl⟩
  obtain ⟨km, hkm⟩ : ∃ km, u8s M = km := ⟨_, rfl⟩
  rw [hkk] at hkl heK ho1
  rw [hkm] at hml heM ho2
  rw [hkk, hkm]
  have hrx := u8_rem4 x
  have hry := u8_rem4 y
  obtain ⟨r4, hr4⟩ : ∃ r4, x.toNat % 4 = r4 := ⟨_, rfl⟩
  obtain ⟨o4, ho4⟩ : ∃ o4, y.toNat % 4 = o4 := ⟨_, rfl⟩
  rw [hr4] at hrx; rw [ho4] at hry
  have hr : r4 < 4 := by omega
  have ho : o4 < 4 := by omega
  clear hr4 ho4
  generalize U8 x = ux at *
  generalize U8 y = uy at *
  obtain ⟨W1, hW1, b1, b2, b3, hs⟩ := allocs2 w kk km 41 41
  have HKL := Lib.hid hkl; have HML := Lib.hid hml; have HEK := Lib.hid heK; have HEM := Lib.hid heM; have HEZ := Lib.hid heZ; have HKK := Lib.hid hkk; have HKM := Lib.hid hkm; have HW1 := Lib.hid hW1; have B1 := Lib.hid b1; have B2 := Lib.hid b2
  have HO1 := Lib.hid ho1; have HO2 := Lib.hid ho2; have HK := Lib.hid hK; have HM := Lib.hid hM
  clear hkl hml heK heM heZ hkk hkm hW1 b1 b2 ho1 ho2 hK hM
  go_enter Try.func6, Try.ntmps6
  go_wp2_with fail
  change Calls _ _ _ ((w.alloc (.cells kk.toArray 41)).alloc (.cells km.toArray 41)) _
  rw [HW1.out]
  refine (awake11 W1).mono ?_
  rintro e w2 ⟨rfl, hb2⟩
  have hB2 : Below W1.heap.size W1 w2 := hb2
  go_wp2_with fail
  refine (otp_new w2).mono ?_
  rintro e w3 ⟨r, rfl, hch, g1, g2, g3, hb3⟩
  have hs2 := hb2.size
  have hX3 : Below W1.heap.size W1 w3 := hB2.trans (hb3.mono hs2)
  have HC3 := Lib.hid (show ChipAt w3 r ws0 false from hch)
  have hbw : W1.heap.size ≤ r.bw := by omega
  obtain ⟨q1, q2, q3, q4⟩ := row_done ws0 r4 K hr (by rfl) (ws0_empty r4 hr)
  have HQ1 := Lib.hid q1; have HQ2 := Lib.hid q2; have HQ3 := Lib.hid q3
  have hemp : o4 ≠ r4 → RowEmpty (vals (doAll ws0 (rowAll (27 + 9 * r4) (wordsOf K))).1) o4 := fun hne => (ws0_empty o4 ho).same (q4 o4 hne)
  have HEMP := Lib.hid hemp
  have k3 := B1.out.below hX3 (by omega)
  have K3 := Lib.hid k3
  clear hch hb2 hb3 q1 q2 q3 q4 hemp k3 hB2
  go_wp2_with ((with_reducible refine at_load 41 ?_); refine wpList_load_blk _ 0 32 kk rfl _ _ _ K3.out Try.underlying41 rfl (by kernel_rfl) (by rw [HKL.out]; omega) (by rw [List.drop_zero, List.take_of_length_le (by rw [HKL.out]; omega)]) ?_)
  rw [← HKK.out]
  refine (otp_toRow r ws0 false r4 K HK.out w3 HC3.out).mono ?_
  rintro e w4 ⟨v4, rfl, hown4, hb4⟩
  rw [HQ1.out] at hown4 ⊢
  obtain ⟨p4, hp4⟩ : ∃ p4, rowAll (27 + 9 * r4) (wordsOf K) = p4 := ⟨_, rfl⟩
  have hpl4 : p4.length = 10 := by rw [← hp4]; exact rowAll_length _ _
  rw [hp4] at hown4 HQ2 HQ3 HEMP
  clear hp4 HQ1
  obtain ⟨a4, b4, cap4, rfl, ha4, hbb4, hcells4⟩ := Plans.slice hown4
  rw [hpl4] at ha4 hbb4 ⊢
  have hX4 : Below W1.heap.size W1 w4 := hX3.trans (hb4.mono hX3.size)
  have HC4 := Lib.hid (HC3.out.below hb4 (Nat.le_refl _))
  have H4 := Lib.hid ha4; have HBB4 := Lib.hid hbb4; have HCE4 := Lib.hid hcells4; have HPL4 := Lib.hid hpl4
  clear ha4 hbb4 hcells4 hown4 hb4 hpl4
  go_wp2_with fail
  refine (otp_do r ws0 false p4 b4 0 cap4 10 _ HC4.out HPL4.out (by omega) (by have := HBB4.out; omega) (by have := HBB4.out; have := HC3.out.arr.wrd.lt; omega) HCE4.out a4 H4.out).mono ?_
  rintro e w5 ⟨rfl, hch5, hk5⟩
  rw [HQ2.out]
  obtain ⟨ws1, hws1⟩ : ∃ ws1, (doAll ws0 p4).1 = ws1 := ⟨_, rfl⟩
  rw [hws1] at hch5 HQ3 HEMP
  have HC5 := Lib.hid hch5
  have hX5 : Below W1.heap.size W1 w5 := Below.put hX4 hk5 (fun j e => by subst e; exact hbw) hX4.size
  have hs5 := hX5.size
  have hl1 : ws1.length = 64 := hch5.len
  have hag := row_again ws1 r4 K M hr HQ3.out
  have hte := row_tells ws1 r4 K hr hl1 HK.out HQ3.out
  have k5b := B2.out.below hX5 (by omega)
  have K5b := Lib.hid k5b
  have HAG := Lib.hid hag; have HTE := Lib.hid hte; have HL1 := Lib.hid hl1
  clear hch5 hk5 hws1 hag hte k5b hl1 HCE4 HBB4 H4 HPL4 HC3 HC4 HQ2
  go_wp2_with ((with_reducible refine at_load 41 ?_); refine wpList_load_blk _ 0 32 km rfl _ _ _ K5b.out Try.underlying41 rfl (by kernel_rfl) (by rw [HML.out]; omega) (by rw [List.drop_zero, List.take_of_length_le (by rw [HML.out]; omega)]) ?_)
  rw [← HKM.out]
  refine (otp_toRow r ws1 false r4 M HM.out w5 HC5.out).mono ?_
  rintro e w6 ⟨v6, rfl, hown6, hb6⟩
  rw [HAG.out] at hown6 ⊢
  have hX6 : Below W1.heap.size W1 w6 := hX5.trans (hb6.mono hs5)
  have hs6 := hX6.size
  have HC6 := Lib.hid (HC5.out.below hb6 (Nat.le_refl _))
  clear hown6 hb6 HAG
  go_wp2_with fail
  refine (otp_row r ws1 false r4 w6 HC6.out).mono ?_
  rintro e w7 ⟨rfl, hb7⟩
  rw [HTE.out, HKK.out]
  have hX7 : Below W1.heap.size W1 w7 := hX6.trans (hb7.mono hs6)
  have hs7 := hX7.size
  have HC7 := Lib.hid (HC6.out.below hb7 (Nat.le_refl _))
  clear hb7 HTE
  go_upto_if 85 with (first | ((with_reducible refine at_load_g 41 ?_); first | refine wpList_load_blk_g rfl _ 0 32 kk rfl _ _ _ D8.out Try.underlying41 rfl (by kernel_rfl) (by rw [HKL.out]; omega) (by rw [List.drop_zero, List.take_of_length_le (by rw [HKL.out]; omega)]) ?_ | refine wpList_load_blk_g rfl _ 0 32 kk rfl _ _ _ C8.out Try.underlying41 rfl (by kernel_rfl) (by rw [HKL.out]; omega) (by rw [List.drop_zero, List.take_of_length_le (by rw [HKL.out]; omega)]) ?_) | ((with_reducible refine at_store 41 ?_); refine wpList_store_blk _ 0 rfl kk rfl _ _ (Blk.new w7 41 z32) (by rw [HKL.out]; kernel_rfl) (by rw [HKL.out]; decide) HO1.out ?_; intro w8 h8 j8; have hj := below_stored j8; rw [splice_all _ _ (by rw [HKL.out]; rfl)] at h8; have hX8 : Below W1.heap.size W1 w8 := hX7.trans (hj.mono hs7); have HC8 := Lib.hid (HC7.out.below hj (Nat.le_refl _)); have D8 := Lib.hid h8; have c8 := B1.out.below hX8 (by omega); have C8 := Lib.hid c8; clear h8 j8 c8 hj; have E8 := HEK.out w8))
  go_cut [] (fun wx => ∃ ws2, ChipAt wx r ws2 false ∧ RowIs (vals ws2) r4 K ∧ (o4 ≠ r4 → RowIs (vals ws2) o4 M) ∧ Below W1.heap.size W1 wx)
  case first =>
    by_cases hor : o4 = r4
    · subst hor
      go_wp2_with fail
      go_meet
      exact ⟨ws1, HC8.out, HQ3.out, fun h => absurd rfl h, hX8⟩
    · have hne : ((o4 : Int) != (r4 : Int)) = true := by rw [bne_iff_ne]; omega
      have hne1 : ((o4 : Int) == (r4 : Int)) = false := by rw [beq_eq_false_iff_ne]; omega
      have hne2 : (o4 == r4) = false := by rw [beq_eq_false_iff_ne]; omega
      have hne3 : ¬ (o4 = r4) := hor
      have hne4 : ¬ ((o4 : Int) = r4) := by omega
      obtain ⟨q1, q2, q3, q4⟩ := row_done ws1 o4 M ho HL1.out (HEMP.out hor)
      have hno := row_none ws1 o4 ho (HEMP.out hor)
      have hrk := HQ3.out.same (q4 r4 (fun e => hor e.symm))
      have HQ5 := Lib.hid q1; have HQ6 := Lib.hid q2; have HQ7 := Lib.hid q3; have HNO := Lib.hid hno; have HRK := Lib.hid hrk; have HOR := Lib.hid hor
      have m8 := B2.out.below hX8 (by omega)
      have M8 := Lib.hid m8
      clear q1 q2 q3 q4 hno hrk hor m8 E8
      go_wp2_with ((with_reducible refine at_load 41 ?_); refine wpList_load_blk _ 0 32 km rfl _ _ _ M8.out Try.underlying41 rfl (by kernel_rfl) (by rw [HML.out]; omega) (by rw [List.drop_zero, List.take_of_length_le (by rw [HML.out]; omega)]) ?_)
      rw [← HKM.out]
      refine (otp_toRow r ws1 false o4 M HM.out w8 HC8.out).mono ?_
      rintro e w9 ⟨v9, rfl, hown9, hb9⟩
      rw [HQ5.out] at hown9 ⊢
      obtain ⟨p9, hp9⟩ : ∃ p9, rowAll (27 + 9 * o4) (wordsOf M) = p9 := ⟨_, rfl⟩
      have hpl9 : p9.length = 10 := by rw [← hp9]; exact rowAll_length _ _
      rw [hp9] at hown9 HQ6 HQ7 HRK
      clear hp9 HQ5
      obtain ⟨a9, b9, cap9, rfl, ha9, hbb9, hcells9⟩ := Plans.slice hown9
      rw [hpl9] at ha9 hbb9 ⊢
      have hs8 := hX8.size
      have hX9 : Below W1.heap.size W1 w9 := hX8.trans (hb9.mono hs8)
      have hs9 := hX9.size
      have HC9 := Lib.hid (HC8.out.below hb9 (Nat.le_refl _))
      have H9 := Lib.hid ha9; have HBB9 := Lib.hid hbb9; have HCE9 := Lib.hid hcells9; have HPL9 := Lib.hid hpl9
      clear ha9 hbb9 hcells9 hown9 hb9 hpl9
      go_wp2_with fail
      refine (otp_row r ws1 false o4 w9 HC9.out).mono ?_
      rintro e wA ⟨rfl, hbA⟩
      rw [HNO.out, zero32_z]
      have hXA : Below W1.heap.size W1 wA := hX9.trans (hbA.mono hs9)
      have hsA := hXA.size
      have HCA := Lib.hid (HC9.out.below hbA (Nat.le_refl _))
      have hsA9 := hbA.size
      have HCEA : Hid (∀ i, (h : i < p9.length) → wA.cell? ⟨b9, 0 + i * 2, none⟩ = some (.int .i64 p9[i].1) ∧ wA.cell? ⟨b9, 0 + i * 2 + 1, none⟩ = some (.int .u32 (U32 p9[i].2))) := Lib.hid (fun i h => by
        have hh := HCE9.out i h
        have hb := HBB9.out.resolve_left (by omega)
        exact ⟨(hbA.cell (p := ⟨b9, 0 + i * 2, none⟩) hb.2).trans hh.1, (hbA.cell (p := ⟨b9, 0 + i * 2 + 1, none⟩) hb.2).trans hh.2⟩)
      clear hbA HNO
      go_wp2_with ((with_reducible refine at_store 41 ?_); refine wpList_store_blk _ 0 rfl z32 rfl _ _ (Blk.new wA 41 z32) (by kernel_rfl) (by decide) z32_one ?_; intro wB hB jB; have hj := below_stored jB; rw [splice_all _ _ rfl] at hB; have hXB : Below W1.heap.size W1 wB := hXA.trans (hj.mono hsA); have HCB := Lib.hid (HCA.out.below hj (Nat.le_refl _)); have DB := Lib.hid hB; have HCEB : Hid (∀ i, (h : i < p9.length) → wB.cell? ⟨b9, 0 + i * 2, none⟩ = some (.int .i64 p9[i].1) ∧ wB.cell? ⟨b9, 0 + i * 2 + 1, none⟩ = some (.int .u32 (U32 p9[i].2))) := Lib.hid (fun i h => ⟨(hj.cell (p := ⟨b9, 0 + i * 2, none⟩) (by have hb := HBB9.out.resolve_left (by omega); show b9 < _; omega)).trans (HCEA.out i h).1, (hj.cell (p := ⟨b9, 0 + i * 2 + 1, none⟩) (by have hb := HBB9.out.resolve_left (by omega); show b9 < _; omega)).trans (HCEA.out i h).2⟩); have hjs := hj.size; clear hB jB hj)
      refine (otp_do r ws1 false p9 b9 0 cap9 10 _ HCB.out HPL9.out (by omega) (by have hb := HBB9.out.resolve_left (by omega); exact .inr (by omega)) (by have hb := HBB9.out.resolve_left (by omega); have := HC8.out.arr.wrd.lt; exact .inr (by omega)) HCEB.out a9 H9.out).mono ?_
      rintro e wC ⟨rfl, hchC, hkC⟩
      rw [HQ6.out]
      have hXC : Below W1.heap.size W1 wC := Below.put hXB hkC (fun j e => by subst e; exact hbw) hXB.size
      have dC : Blk wC wA.heap.size 41 z32 := DB.out.kept hkC (by intro e; have := HCA.out.arr.wrd.lt; omega)
      have DC := Lib.hid dC
      have eZ : (Op.equalIn 10000 41 (.agg z32.toArray) (.agg #[.int .u8 0, .int .u8 0, .int .u8 0, .int .u8 0, .int .u8 0, .int .u8 0, .int .u8 0, .int .u8 0, .int .u8 0, .int .u8 0, .int .u8 0, .int .u8 0, .int .u8 0, .int .u8 0, .int .u8 0, .int .u8 0, .int .u8 0, .int .u8 0, .int .u8 0, .int .u8 0, .int .u8 0, .int .u8 0, .int .u8 0, .int .u8 0, .int .u8 0, .int .u8 0, .int .u8 0, .int .u8 0, .int .u8 0, .int .u8 0, .int .u8 0, .int .u8 0])).run Try.prog wC = .ok true wC := HEZ.out wC
      clear dC hkC
      go_wp2_with ((with_reducible refine at_load_g 41 ?_); refine wpList_load_blk_g rfl _ 0 32 z32 rfl _ _ _ DC.out Try.underlying41 rfl (by kernel_rfl) (by decide) rfl ?_)
      go_meet
      exact ⟨_, hchC, HRK.out, fun _ => HQ7.out, hXC⟩
  case rest =>
  obtain ⟨ws2, hch2, hrk2, hro2, hXD⟩ := hcut
  rename World => wD
  have hsD := hXD.size
  have HCD := Lib.hid hch2; have HRK2 := Lib.hid hrk2; have HRO2 := Lib.hid hro2
  clear hch2 hrk2 hro2
  go_upto_if 112 with fail
  go_cut [] (fun wx => ∃ ws3, ChipAt wx r ws3 false ∧ rowOf ws3 false r4 = (if kill then (zero32, 17) else (K, 0)) ∧ (o4 ≠ r4 → RowIs (vals ws3) o4 M) ∧ Below W1.heap.size W1 wx)
  case first =>
    cases kill with
    | false =>
      go_wp2_with fail
      go_meet
      exact ⟨ws2, HCD.out, row_tells ws2 r4 K hr HCD.out.len HK.out HRK2.out, HRO2.out, hXD⟩
    | true =>
      obtain ⟨p, q1, q2, q3, q4, q5⟩ := row_killed ws2 r4 K hr HCD.out.len HRK2.out
      have HQ1 := Lib.hid q1; have HQ3 := Lib.hid q3; have HQ4 := Lib.hid q4
      have hro3 : o4 ≠ r4 → RowIs (vals (doAll ws2 p).1) o4 M := fun h => (HRO2.out h).same (q5 o4 h)
      have HRO3 := Lib.hid hro3
      clear q1 q3 q4 q5 hro3
      go_wp2_with fail
      refine (otp_kill r ws2 false r4 wD HCD.out).mono ?_
      rintro e wE ⟨vE, rfl, hownE, hbE⟩
      rw [HQ1.out] at hownE ⊢
      obtain ⟨aE, bE, capE, rfl, haE, hbbE, hcellsE⟩ := Plans.slice hownE
      obtain ⟨m, hm⟩ : ∃ m, p.length = m := ⟨_, rfl⟩
      rw [hm] at haE hbbE q2 ⊢
      have HM2 := Lib.hid hm
      have hXE : Below W1.heap.size W1 wE := hXD.trans (hbE.mono hsD)
      have HCE := Lib.hid (HCD.out.below hbE (Nat.le_refl _))
      have HAE := Lib.hid haE; have HBBE := Lib.hid hbbE; have HCLE := Lib.hid hcellsE
      clear haE hbbE hcellsE hownE hbE hm
      go_wp2_with fail
      refine (otp_do r ws2 false p bE 0 capE m _ HCE.out HM2.out (by omega) (by have := HBBE.out; omega) (by have := HBBE.out; have := HCD.out.arr.wrd.lt; omega) HCLE.out aE HAE.out).mono ?_
      rintro e wF ⟨rfl, hchF, hkF⟩
      have hXF : Below W1.heap.size W1 wF := Below.put hXE hkF (fun j e => by subst e; exact hbw) hXE.size
      clear hkF
      go_wp2_with fail
      go_meet
      exact ⟨_, hchF, HQ4.out, HRO3.out, hXF⟩
  case rest =>
  obtain ⟨ws3, hch3, hrk3, hro3, hXG⟩ := hcut
  rename World => wG
  have hbc : W1.heap.size ≤ r.bc := by omega
  by_cases hor : o4 = r4
  · subst hor
    cases kill with
    | true =>
      rw [if_pos rfl] at hrk3
      have hd : rowOf (offs (vals ws3)) false o4 = (zero32, 17) := by
        rw [rowOf_offs]; exact hrk3
      have HD := Lib.hid hd; have HRK3 := Lib.hid hrk3; have HCG := Lib.hid hch3
      clear hd hrk3 hch3 hro3
      have hsG := hXG.size
      go_wp2_with fail
      refine (otp_row r ws3 false o4 wG HCG.out).mono ?_
      rintro e wH ⟨rfl, hbH⟩
      rw [HRK3.out, zero32_z]
      have hXH : Below W1.heap.size W1 wH := hXG.trans (hbH.mono hsG)
      have HCH := Lib.hid (HCG.out.below hbH (Nat.le_refl _))
      have hsH := hXH.size
      clear hbH HCG hXG HRK3
      go_wp2_with (first | ((with_reducible refine at_store 41 ?_); refine wpList_store_blk _ 0 rfl z32 rfl _ _ (Blk.new wH 41 z32) (by kernel_rfl) (by decide) z32_one ?_; intro wI h9 j9; have hj := below_stored j9; rw [splice_all _ _ rfl] at h9; have hXI : Below W1.heap.size W1 wI := hXH.trans (hj.mono hsH); have HCI := Lib.hid (HCH.out.below hj (Nat.le_refl _)); have hcp := HCI.out.chip.cell 0; simp only [List.getElem?_cons_zero] at hcp; clear h9 j9 hj))
      refine (fuse_words _ _ _ _ _ HCI.out.arr).mono ?_
      rintro e wJ ⟨v6, rfl, hown6, hb6⟩
      rw [HCI.out.len] at hown6
      obtain ⟨g6, cap6, rfl, hg6, hg6l, hcap6, _⟩ := own_parts hown6 (by omega) (by omega)
      have HU6 := Lib.hid (U32At.own hown6)
      have hsI := hXI.size
      have hXJ : Below W1.heap.size W1 wJ := hXI.trans (hb6.mono hsI)
      have HCJ := Lib.hid (HCI.out.below hb6 (Nat.le_refl _))
      have hsJ := hXJ.size
      clear hown6 hb6 hcp
      go_wp2_with fail
      refine (otp_of g6 0 cap6 (vals ws3) wJ (by rw [vals_length]; exact HCJ.out.len) hg6l HU6.out).mono ?_
      rintro e wK ⟨rd, rfl, hchd, d1, d2, d3, hbK⟩
      have hXK : Below W1.heap.size W1 wK := hXJ.trans (hbK.mono hsJ)
      have HCK := Lib.hid (HCJ.out.below hbK (Nat.le_refl _)); have HDK := Lib.hid hchd
      clear hchd hbK
      go_wp2_with fail
      refine (otp_seal r ws3 false wK HCK.out).mono ?_
      rintro e wL ⟨rfl, hchL, hkL⟩
      have hXL : Below W1.heap.size W1 wL := Below.put hXK hkL (fun j e => by rcases e with e | e <;> (subst e; assumption)) hXK.size
      have HDL := Lib.hid (HDK.out.kept hkL (by have := HCJ.out.chip.lt; have := HCJ.out.arr.wrd.lt; omega) (by have := HCJ.out.chip.lt; have := HCJ.out.arr.wrd.lt; omega) (by have := HCJ.out.chip.lt; have := HCJ.out.arr.wrd.lt; omega))
      have HCL := Lib.hid hchL
      have hsL := hXL.size
      clear hkL hchL HDK HCK
      go_wp2_with fail
      refine (otp_row r _ true o4 wL HCL.out).mono ?_
      rintro e wM ⟨rfl, hbM⟩
      rw [row_locked _ o4 ho, zero32_z]
      have hXM : Below W1.heap.size W1 wM := hXL.trans (hbM.mono hsL)
      have HDM := Lib.hid (HDL.out.below hbM (Nat.le_refl _))
      have hsM := hXM.size
      clear hbM HDL
      go_wp2_with ((with_reducible refine at_store 41 ?_); refine wpList_store_blk _ 0 rfl z32 rfl _ _ (Blk.new wM 41 z32) (by kernel_rfl) (by decide) z32_one ?_; intro wN h9 j9; have hj := below_stored j9; rw [splice_all _ _ rfl] at h9; have hXN : Below W1.heap.size W1 wN := hXM.trans (hj.mono hsM); have HDN := Lib.hid (HDM.out.below hj (Nat.le_refl _)); clear h9 j9 hj)
      have hsN := hXN.size
      refine (otp_row rd (offs (vals ws3)) false o4 wN HDN.out).mono ?_
      rintro e wO ⟨rfl, hbO⟩
      rw [HD.out, zero32_z]
      have hXO : Below W1.heap.size W1 wO := hXN.trans (hbO.mono hsN)
      have hsO := hXO.size
      clear hbO
      go_wp2_with ((with_reducible refine at_store 41 ?_); refine wpList_store_blk _ 0 rfl z32 rfl _ _ (Blk.new wO 41 z32) (by kernel_rfl) (by decide) z32_one ?_; intro wP h9 j9; have hj := below_stored j9; rw [splice_all _ _ rfl] at h9; have hXP : Below W1.heap.size W1 wP := hXO.trans (hj.mono hsO); clear h9 j9 hj)
      go_ret
      exact ⟨rfl, b3.trans (hXP.mono (by omega))⟩
    | false =>
      rw [if_neg (by decide)] at hrk3
      have hd : rowOf (offs (vals ws3)) false o4 = (K, 0) := by
        rw [rowOf_offs]; exact hrk3
      have HD := Lib.hid hd; have HRK3 := Lib.hid hrk3; have HCG := Lib.hid hch3
      clear hd hrk3 hch3 hro3
      have hsG := hXG.size
      go_wp2_with fail
      refine (otp_row r ws3 false o4 wG HCG.out).mono ?_
      rintro e wH ⟨rfl, hbH⟩
      rw [HRK3.out, HKK.out]
      have hXH : Below W1.heap.size W1 wH := hXG.trans (hbH.mono hsG)
      have HCH := Lib.hid (HCG.out.below hbH (Nat.le_refl _))
      have hsH := hXH.size
      clear hbH HCG hXG HRK3
      go_wp2_with (first | ((with_reducible refine at_load_g 41 ?_); first | refine wpList_load_blk_g rfl _ 0 32 kk rfl _ _ _ DI.out Try.underlying41 rfl (by kernel_rfl) (by rw [HKL.out]; omega) (by rw [List.drop_zero, List.take_of_length_le (by rw [HKL.out]; omega)]) ?_ | refine wpList_load_blk_g rfl _ 0 32 kk rfl _ _ _ CI.out Try.underlying41 rfl (by kernel_rfl) (by rw [HKL.out]; omega) (by rw [List.drop_zero, List.take_of_length_le (by rw [HKL.out]; omega)]) ?_) | ((with_reducible refine at_store 41 ?_); refine wpList_store_blk _ 0 rfl kk rfl _ _ (Blk.new wH 41 z32) (by rw [HKL.out]; kernel_rfl) (by rw [HKL.out]; decide) HO1.out ?_; intro wI h9 j9; have hj := below_stored j9; rw [splice_all _ _ (by rw [HKL.out]; rfl)] at h9; have hXI : Below W1.heap.size W1 wI := hXH.trans (hj.mono hsH); have HCI := Lib.hid (HCH.out.below hj (Nat.le_refl _)); have hcp := HCI.out.chip.cell 0; simp only [List.getElem?_cons_zero] at hcp; have DI := Lib.hid h9; have cI := B1.out.below hXI (by omega); have CI := Lib.hid cI; have EI := HEK.out wI; clear cI; clear h9 j9 hj))
      refine (fuse_words _ _ _ _ _ HCI.out.arr).mono ?_
      rintro e wJ ⟨v6, rfl, hown6, hb6⟩
      rw [HCI.out.len] at hown6
      obtain ⟨g6, cap6, rfl, hg6, hg6l, hcap6, _⟩ := own_parts hown6 (by omega) (by omega)
      have HU6 := Lib.hid (U32At.own hown6)
      have hsI := hXI.size
      have hXJ : Below W1.heap.size W1 wJ := hXI.trans (hb6.mono hsI)
      have HCJ := Lib.hid (HCI.out.below hb6 (Nat.le_refl _))
      have hsJ := hXJ.size
      clear hown6 hb6 hcp EI DI CI
      go_wp2_with fail
      refine (otp_of g6 0 cap6 (vals ws3) wJ (by rw [vals_length]; exact HCJ.out.len) hg6l HU6.out).mono ?_
      rintro e wK ⟨rd, rfl, hchd, d1, d2, d3, hbK⟩
      have hXK : Below W1.heap.size W1 wK := hXJ.trans (hbK.mono hsJ)
      have HCK := Lib.hid (HCJ.out.below hbK (Nat.le_refl _)); have HDK := Lib.hid hchd
      clear hchd hbK
      go_wp2_with fail
      refine (otp_seal r ws3 false wK HCK.out).mono ?_
      rintro e wL ⟨rfl, hchL, hkL⟩
      have hXL : Below W1.heap.size W1 wL := Below.put hXK hkL (fun j e => by rcases e with e | e <;> (subst e; assumption)) hXK.size
      have HDL := Lib.hid (HDK.out.kept hkL (by have := HCJ.out.chip.lt; have := HCJ.out.arr.wrd.lt; omega) (by have := HCJ.out.chip.lt; have := HCJ.out.arr.wrd.lt; omega) (by have := HCJ.out.chip.lt; have := HCJ.out.arr.wrd.lt; omega))
      have HCL := Lib.hid hchL
      have hsL := hXL.size
      clear hkL hchL HDK HCK
      go_wp2_with fail
      refine (otp_row r _ true o4 wL HCL.out).mono ?_
      rintro e wM ⟨rfl, hbM⟩
      rw [row_locked _ o4 ho, zero32_z]
      have hXM : Below W1.heap.size W1 wM := hXL.trans (hbM.mono hsL)
      have HDM := Lib.hid (HDL.out.below hbM (Nat.le_refl _))
      have hsM := hXM.size
      clear hbM HDL
      go_wp2_with ((with_reducible refine at_store 41 ?_); refine wpList_store_blk _ 0 rfl z32 rfl _ _ (Blk.new wM 41 z32) (by kernel_rfl) (by decide) z32_one ?_; intro wN h9 j9; have hj := below_stored j9; rw [splice_all _ _ rfl] at h9; have hXN : Below W1.heap.size W1 wN := hXM.trans (hj.mono hsM); have HDN := Lib.hid (HDM.out.below hj (Nat.le_refl _)); clear h9 j9 hj)
      have hsN := hXN.size
      refine (otp_row rd (offs (vals ws3)) false o4 wN HDN.out).mono ?_
      rintro e wO ⟨rfl, hbO⟩
      rw [HD.out, HKK.out]
      have hXO : Below W1.heap.size W1 wO := hXN.trans (hbO.mono hsN)
      have hsO := hXO.size
      clear hbO
      go_wp2_with ((with_reducible refine at_store 41 ?_); refine wpList_store_blk _ 0 rfl kk rfl _ _ (Blk.new wO 41 z32) (by rw [HKL.out]; kernel_rfl) (by rw [HKL.out]; decide) HO1.out ?_; intro wP h9 j9; have hj := below_stored j9; rw [splice_all _ _ (by rw [HKL.out]; rfl)] at h9; have hXP : Below W1.heap.size W1 wP := hXO.trans (hj.mono hsO); clear h9 j9 hj)
      go_ret
      exact ⟨rfl, b3.trans (hXP.mono (by omega))⟩
  · have hne1 : ((o4 : Int) == (r4 : Int)) = false := by rw [beq_eq_false_iff_ne]; omega
    have hne3 : ¬ (o4 = r4) := hor
    cases kill with
    | true =>
      rw [if_pos rfl] at hrk3
      have hd : rowOf (offs (vals ws3)) false o4 = (M, 0) := by
        exact row_tells _ o4 M ho (by rw [offs_length, vals_length]; exact hch3.len) HM.out (by rw [vals_offs]; exact hro3 hor)
      have HD := Lib.hid hd; have HRK3 := Lib.hid hrk3; have HCG := Lib.hid hch3
      have HOR := Lib.hid hor
      clear hd hrk3 hch3 hro3
      have hsG := hXG.size
      go_wp2_with fail
      refine (otp_row r ws3 false r4 wG HCG.out).mono ?_
      rintro e wH ⟨rfl, hbH⟩
      rw [HRK3.out, zero32_z]
      have hXH : Below W1.heap.size W1 wH := hXG.trans (hbH.mono hsG)
      have HCH := Lib.hid (HCG.out.below hbH (Nat.le_refl _))
      have hsH := hXH.size
      clear hbH HCG hXG HRK3
      go_wp2_with (first | ((with_reducible refine at_store 41 ?_); refine wpList_store_blk _ 0 rfl z32 rfl _ _ (Blk.new wH 41 z32) (by kernel_rfl) (by decide) z32_one ?_; intro wI h9 j9; have hj := below_stored j9; rw [splice_all _ _ rfl] at h9; have hXI : Below W1.heap.size W1 wI := hXH.trans (hj.mono hsH); have HCI := Lib.hid (HCH.out.below hj (Nat.le_refl _)); have hcp := HCI.out.chip.cell 0; simp only [List.getElem?_cons_zero] at hcp; clear h9 j9 hj))
      refine (fuse_words _ _ _ _ _ HCI.out.arr).mono ?_
      rintro e wJ ⟨v6, rfl, hown6, hb6⟩
      rw [HCI.out.len] at hown6
      obtain ⟨g6, cap6, rfl, hg6, hg6l, hcap6, _⟩ := own_parts hown6 (by omega) (by omega)
      have HU6 := Lib.hid (U32At.own hown6)
      have hsI := hXI.size
      have hXJ : Below W1.heap.size W1 wJ := hXI.trans (hb6.mono hsI)
      have HCJ := Lib.hid (HCI.out.below hb6 (Nat.le_refl _))
      have hsJ := hXJ.size
      clear hown6 hb6 hcp
      go_wp2_with fail
      refine (otp_of g6 0 cap6 (vals ws3) wJ (by rw [vals_length]; exact HCJ.out.len) hg6l HU6.out).mono ?_
      rintro e wK ⟨rd, rfl, hchd, d1, d2, d3, hbK⟩
      have hXK : Below W1.heap.size W1 wK := hXJ.trans (hbK.mono hsJ)
      have HCK := Lib.hid (HCJ.out.below hbK (Nat.le_refl _)); have HDK := Lib.hid hchd
      clear hchd hbK
      go_wp2_with fail
      refine (otp_seal r ws3 false wK HCK.out).mono ?_
      rintro e wL ⟨rfl, hchL, hkL⟩
      have hXL : Below W1.heap.size W1 wL := Below.put hXK hkL (fun j e => by rcases e with e | e <;> (subst e; assumption)) hXK.size
      have HDL := Lib.hid (HDK.out.kept hkL (by have := HCJ.out.chip.lt; have := HCJ.out.arr.wrd.lt; omega) (by have := HCJ.out.chip.lt; have := HCJ.out.arr.wrd.lt; omega) (by have := HCJ.out.chip.lt; have := HCJ.out.arr.wrd.lt; omega))
      have HCL := Lib.hid hchL
      have hsL := hXL.size
      clear hkL hchL HDK HCK
      go_wp2_with fail
      refine (otp_row r _ true o4 wL HCL.out).mono ?_
      rintro e wM ⟨rfl, hbM⟩
      rw [row_locked _ o4 ho, zero32_z]
      have hXM : Below W1.heap.size W1 wM := hXL.trans (hbM.mono hsL)
      have HDM := Lib.hid (HDL.out.below hbM (Nat.le_refl _))
      have hsM := hXM.size
      clear hbM HDL
      go_wp2_with ((with_reducible refine at_store 41 ?_); refine wpList_store_blk _ 0 rfl z32 rfl _ _ (Blk.new wM 41 z32) (by kernel_rfl) (by decide) z32_one ?_; intro wN h9 j9; have hj := below_stored j9; rw [splice_all _ _ rfl] at h9; have hXN : Below W1.heap.size W1 wN := hXM.trans (hj.mono hsM); have HDN := Lib.hid (HDM.out.below hj (Nat.le_refl _)); clear h9 j9 hj)
      have hsN := hXN.size
      refine (otp_row rd (offs (vals ws3)) false o4 wN HDN.out).mono ?_
      rintro e wO ⟨rfl, hbO⟩
      rw [HD.out, HKM.out]
      have hXO : Below W1.heap.size W1 wO := hXN.trans (hbO.mono hsN)
      have hsO := hXO.size
      clear hbO
      go_wp2_with (first | ((with_reducible refine at_load_g 41 ?_); first | refine wpList_load_blk_g rfl _ 0 32 km rfl _ _ _ DP.out Try.underlying41 rfl (by kernel_rfl) (by rw [HML.out]; omega) (by rw [List.drop_zero, List.take_of_length_le (by rw [HML.out]; omega)]) ?_ | refine wpList_load_blk_g rfl _ 0 32 km rfl _ _ _ CP.out Try.underlying41 rfl (by kernel_rfl) (by rw [HML.out]; omega) (by rw [List.drop_zero, List.take_of_length_le (by rw [HML.out]; omega)]) ?_) | ((with_reducible refine at_store 41 ?_); refine wpList_store_blk _ 0 rfl km rfl _ _ (Blk.new wO 41 z32) (by rw [HML.out]; kernel_rfl) (by rw [HML.out]; decide) HO2.out ?_; intro wP h9 j9; have hj := below_stored j9; rw [splice_all _ _ (by rw [HML.out]; rfl)] at h9; have hXP : Below W1.heap.size W1 wP := hXO.trans (hj.mono hsO); have DP := Lib.hid h9; have cP := B2.out.below hXP (by omega); have CP := Lib.hid cP; have EP := HEM.out wP; clear cP; clear h9 j9 hj))
      go_ret
      exact ⟨rfl, b3.trans (hXP.mono (by omega))⟩
    | false =>
      rw [if_neg (by decide)] at hrk3
      have hd : rowOf (offs (vals ws3)) false o4 = (M, 0) := by
        exact row_tells _ o4 M ho (by rw [offs_length, vals_length]; exact hch3.len) HM.out (by rw [vals_offs]; exact hro3 hor)
      have HD := Lib.hid hd; have HRK3 := Lib.hid hrk3; have HCG := Lib.hid hch3
      have HOR := Lib.hid hor
      clear hd hrk3 hch3 hro3
      have hsG := hXG.size
      go_wp2_with fail
      refine (otp_row r ws3 false r4 wG HCG.out).mono ?_
      rintro e wH ⟨rfl, hbH⟩
      rw [HRK3.out, HKK.out]
      have hXH : Below W1.heap.size W1 wH := hXG.trans (hbH.mono hsG)
      have HCH := Lib.hid (HCG.out.below hbH (Nat.le_refl _))
      have hsH := hXH.size
      clear hbH HCG hXG HRK3
      go_wp2_with (first | ((with_reducible refine at_load_g 41 ?_); first | refine wpList_load_blk_g rfl _ 0 32 kk rfl _ _ _ DI.out Try.underlying41 rfl (by kernel_rfl) (by rw [HKL.out]; omega) (by rw [List.drop_zero, List.take_of_length_le (by rw [HKL.out]; omega)]) ?_ | refine wpList_load_blk_g rfl _ 0 32 kk rfl _ _ _ CI.out Try.underlying41 rfl (by kernel_rfl) (by rw [HKL.out]; omega) (by rw [List.drop_zero, List.take_of_length_le (by rw [HKL.out]; omega)]) ?_) | ((with_reducible refine at_store 41 ?_); refine wpList_store_blk _ 0 rfl kk rfl _ _ (Blk.new wH 41 z32) (by rw [HKL.out]; kernel_rfl) (by rw [HKL.out]; decide) HO1.out ?_; intro wI h9 j9; have hj := below_stored j9; rw [splice_all _ _ (by rw [HKL.out]; rfl)] at h9; have hXI : Below W1.heap.size W1 wI := hXH.trans (hj.mono hsH); have HCI := Lib.hid (HCH.out.below hj (Nat.le_refl _)); have hcp := HCI.out.chip.cell 0; simp only [List.getElem?_cons_zero] at hcp; have DI := Lib.hid h9; have cI := B1.out.below hXI (by omega); have CI := Lib.hid cI; have EI := HEK.out wI; clear cI; clear h9 j9 hj))
      refine (fuse_words _ _ _ _ _ HCI.out.arr).mono ?_
      rintro e wJ ⟨v6, rfl, hown6, hb6⟩
      rw [HCI.out.len] at hown6
      obtain ⟨g6, cap6, rfl, hg6, hg6l, hcap6, _⟩ := own_parts hown6 (by omega) (by omega)
      have HU6 := Lib.hid (U32At.own hown6)
      have hsI := hXI.size
      have hXJ : Below W1.heap.size W1 wJ := hXI.trans (hb6.mono hsI)
      have HCJ := Lib.hid (HCI.out.below hb6 (Nat.le_refl _))
      have hsJ := hXJ.size
      clear hown6 hb6 hcp EI DI CI
      go_wp2_with fail
      refine (otp_of g6 0 cap6 (vals ws3) wJ (by rw [vals_length]; exact HCJ.out.len) hg6l HU6.out).mono ?_
      rintro e wK ⟨rd, rfl, hchd, d1, d2, d3, hbK⟩
      have hXK : Below W1.heap.size W1 wK := hXJ.trans (hbK.mono hsJ)
      have HCK := Lib.hid (HCJ.out.below hbK (Nat.le_refl _)); have HDK := Lib.hid hchd
      clear hchd hbK
      go_wp2_with fail
      refine (otp_seal r ws3 false wK HCK.out).mono ?_
      rintro e wL ⟨rfl, hchL, hkL⟩
      have hXL : Below W1.heap.size W1 wL := Below.put hXK hkL (fun j e => by rcases e with e | e <;> (subst e; assumption)) hXK.size
      have HDL := Lib.hid (HDK.out.kept hkL (by have := HCJ.out.chip.lt; have := HCJ.out.arr.wrd.lt; omega) (by have := HCJ.out.chip.lt; have := HCJ.out.arr.wrd.lt; omega) (by have := HCJ.out.chip.lt; have := HCJ.out.arr.wrd.lt; omega))
      have HCL := Lib.hid hchL
      have hsL := hXL.size
      clear hkL hchL HDK HCK
      go_wp2_with fail
      refine (otp_row r _ true o4 wL HCL.out).mono ?_
      rintro e wM ⟨rfl, hbM⟩
      rw [row_locked _ o4 ho, zero32_z]
      have hXM : Below W1.heap.size W1 wM := hXL.trans (hbM.mono hsL)
      have HDM := Lib.hid (HDL.out.below hbM (Nat.le_refl _))
      have hsM := hXM.size
      clear hbM HDL
      go_wp2_with ((with_reducible refine at_store 41 ?_); refine wpList_store_blk _ 0 rfl z32 rfl _ _ (Blk.new wM 41 z32) (by kernel_rfl) (by decide) z32_one ?_; intro wN h9 j9; have hj := below_stored j9; rw [splice_all _ _ rfl] at h9; have hXN : Below W1.heap.size W1 wN := hXM.trans (hj.mono hsM); have HDN := Lib.hid (HDM.out.below hj (Nat.le_refl _)); clear h9 j9 hj)
      have hsN := hXN.size
      refine (otp_row rd (offs (vals ws3)) false o4 wN HDN.out).mono ?_
      rintro e wO ⟨rfl, hbO⟩
      rw [HD.out, HKM.out]
      have hXO : Below W1.heap.size W1 wO := hXN.trans (hbO.mono hsN)
      have hsO := hXO.size
      clear hbO
      go_wp2_with (first | ((with_reducible refine at_load_g 41 ?_); first | refine wpList_load_blk_g rfl _ 0 32 km rfl _ _ _ DP.out Try.underlying41 rfl (by kernel_rfl) (by rw [HML.out]; omega) (by rw [List.drop_zero, List.take_of_length_le (by rw [HML.out]; omega)]) ?_ | refine wpList_load_blk_g rfl _ 0 32 km rfl _ _ _ CP.out Try.underlying41 rfl (by kernel_rfl) (by rw [HML.out]; omega) (by rw [List.drop_zero, List.take_of_length_le (by rw [HML.out]; omega)]) ?_) | ((with_reducible refine at_store 41 ?_); refine wpList_store_blk _ 0 rfl km rfl _ _ (Blk.new wO 41 z32) (by rw [HML.out]; kernel_rfl) (by rw [HML.out]; decide) HO2.out ?_; intro wP h9 j9; have hj := below_stored j9; rw [splice_all _ _ (by rw [HML.out]; rfl)] at h9; have hXP : Below W1.heap.size W1 wP := hXO.trans (hj.mono hsO); have DP := Lib.hid h9; have cP := B2.out.below hXP (by omega); have CP := Lib.hid cP; have EP := HEM.out wP; clear cP; clear h9 j9 hj))
      go_ret
      exact ⟨rfl, b3.trans (hXP.mono (by omega))⟩
end Go.Proofs.Ytoefaghakjcfcaa

