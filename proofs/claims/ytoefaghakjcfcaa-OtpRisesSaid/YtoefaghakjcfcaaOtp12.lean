/- The walk of otp's ToKey. -/
import Derived.Test.YtoefaghakjcfcaaOtp11
import Derived.Deep.RegionLaw
import Derived.Deep.RegionWith
import Derived.Deep.DeepCutAuto
namespace Go.Proofs.Ytoefaghakjcfcaa
open Go.RowKit

/-- Are words, from the ninth on, parts of others? -/
def keyOk (V L : List (BitVec 32)) : Nat → Bool
  | 0 => true
  | k + 1 => keyOk V L k && (V.getD (9 + k) 0 &&& ~~~(L.getD k 0) == 0)
theorem keyOk_iff (V L : List (BitVec 32)) (k : Nat) : keyOk V L k = true ↔ ∀ j, j < k → V.getD (9 + j) 0 &&& ~~~(L.getD j 0) = 0 := by
  induction k with
  | zero => simp [keyOk]
  | succ k ih =>
    rw [keyOk, Bool.and_eq_true, ih, beq_iff_eq]
    constructor
    · rintro ⟨h1, h2⟩ j hj
      by_cases h : j = k
      · subst h; exact h2
      · exact h1 j (by omega)
    · intro h
      exact ⟨fun j hj => h j (by omega), h k (by omega)⟩
attribute [irreducible] keyOk
def toKey (ws : List (BitVec 32 × Bool)) (P N : List (BitVec 8)) : List (Nat × BitVec 32) × Nat :=
  if P.length ≠ 56 then ([], 1) else if lifeOf ws ≠ 0 then ([], 14)
  else if keyOk (vals ws) (wordsOf P ++ wordsOf N) 18 then (planTo (vals ws) 9 (wordsOf P ++ wordsOf N) 18, 0) else ([], 11)
attribute [irreducible] toKey

theorem U32At.own' {w : World} {base n : Nat} {T : TypeId} {v : Value} {l : List (BitVec 32)} (h : w.ownsRow base T 1 v n (u32s l)) : ∀ g cap, v = .slice (some ⟨g, 0, none⟩) n cap → U32At w g 0 l := by
  rintro g cap rfl
  exact U32At.own h
theorem at_calls {P : Program} {f : FuncId} (args : Array Value) (w : World) {K : Ending → World → Prop} (h : Calls P f args w K) : Calls P f args w K := h
theorem own_parts {w : World} {base n size : Nat} {T : TypeId} {v : Value} {xs : List Value} (h : w.ownsRow base T size v n xs) (hn : 0 < n) (hs : 0 < size) :
    ∃ g cap, v = .slice (some ⟨g, 0, none⟩) n cap ∧ base ≤ g ∧ g < w.heap.size ∧ n ≤ cap ∧ ∀ j x, xs[j]? = some x → w.cell? ⟨g, 0 + j, none⟩ = some x := by
  rcases h.2 with ⟨rfl, h0⟩ | ⟨g, cap, cur, rfl, hg, hh, hn, hcm, hcs, ht⟩
  · omega
  · refine ⟨g, cap, rfl, hg, (Array.getElem?_eq_some_iff.1 hh).1, hn, fun j x hx => ?_⟩
    have hj := (List.getElem?_eq_some_iff.1 hx).1
    rw [Nat.zero_add, h.cellAt j (by rw [← h.1]; exact hj), hx]

set_option maxRecDepth 100000 in
set_option maxHeartbeats 1000000 in
theorem otp_toKey_len (r : Ref) (ws : List (BitVec 32 × Bool)) (a : Option Addr) (n cap : Nat) (N : List (BitVec 8)) (w : World) (hn : n ≠ 56) :
    Calls Try.prog 18 #[.pointer (some ⟨r.bc, 0, none⟩), .slice a n cap, .agg (u8s N).toArray] w fun e w' => Plans w w' e ([], 1) := by
  obtain ⟨kv, hkv⟩ : ∃ kv, u8s N = kv := ⟨_, rfl⟩
  rw [hkv]
  clear hkv
  go_enter Try.func18, Try.ntmps18
  go_wp2_with fail
  go_ret2
  exact .err 1 (below_alloc _ _)

set_option maxRecDepth 100000 in
set_option maxHeartbeats 4000000 in
theorem otp_toKey (r : Ref) (ws : List (BitVec 32 × Bool)) (sl : Bool) (b o cap : Nat) (P N : List (BitVec 8)) (w : World) (h : ChipAt w r ws sl) (hP : P.length = 56) (hc : 56 ≤ cap) (hN : N.length = 16) (hb : b < w.heap.size) (hu : U8At w b o P) :
    Calls Try.prog 18 #[.pointer (some ⟨r.bc, 0, none⟩), .slice (some ⟨b, o, none⟩) 56 cap, .agg (u8s N).toArray] w fun e w' => Plans w w' e (toKey ws P N) := by
  have hr : toKey ws P N = if lifeOf ws ≠ 0 then ([], 14) else if keyOk (vals ws) (wordsOf P ++ wordsOf N) 18 then (planTo (vals ws) 9 (wordsOf P ++ wordsOf N) 18, 0) else ([], 11) := by
    unfold toKey; exact if_neg (by rw [hP]; decide)
  rw [hr]; clear hr
  obtain ⟨V, hV⟩ : ∃ V, vals ws = V := ⟨_, rfl⟩
  rw [hV]
  have hVl : V.length = 64 := by rw [← hV, vals_length]; exact h.len
  obtain ⟨L, hL⟩ : ∃ L, wordsOf P ++ wordsOf N = L := ⟨_, rfl⟩
  rw [hL]
  have hLl : L.length = 18 := by rw [← hL, List.length_append, wordsOf_length, wordsOf_length, hP, hN]
  have hLu : u32s (wordsOf P) ++ u32s (wordsOf N) = u32s L := by rw [← hL, u32s, u32s, u32s, List.map_append]
  obtain ⟨R, hR⟩ : ∃ R : List (Nat × BitVec 32) × Nat, (if lifeOf ws ≠ 0 then ([], 14) else if keyOk V L 18 then (planTo V 9 L 18, 0) else ([], 11)) = R := ⟨_, rfl⟩
  rw [hR]
  obtain ⟨W1, hW1, b1, b2, hs⟩ := allocs1 w (u8s N) 47
  obtain ⟨kv, hkv⟩ : ∃ kv, u8s N = kv := ⟨_, rfl⟩
  rw [hkv] at hW1 b1
  rw [hkv]
  obtain ⟨i0, hi, hz0, hz1, hz2⟩ := info_parts Try.infoU32
  have HI := Lib.hid hi; have HZ0 := Lib.hid hz0; have HZ1 := Lib.hid hz1; have HZ2 := Lib.hid hz2
  have hun : U8At W1 w.heap.size 0 N := by rw [← hkv] at b1; exact U8At.blk b1
  have hup : U8At W1 b o P := hu.below b2 hb
  have hW1s : w.heap.size < W1.heap.size := by omega
  have HUN := Lib.hid hun; have HUP := Lib.hid hup; have HS := Lib.hid hs
  have HW1 := Lib.hid hW1; have HV := Lib.hid hV; have HVL := Lib.hid hVl; have HL := Lib.hid hL; have HLL := Lib.hid hLl; have HLU := Lib.hid hLu; have HR := Lib.hid hR
  have HP := Lib.hid hP; have HN := Lib.hid hN; have H := Lib.hid h; have HBL := Lib.hid hb
  clear hW1 hV hVl hL hLl hLu hR hP hN h hun hup hu hi hz0 hz1 hz2 hkv b1 hs
  go_enter Try.func18, Try.ntmps18
  go_wp2_with fail
  change Calls _ _ _ (w.alloc (.cells kv.toArray 47)) _
  rw [HW1.out]
  refine (otp_life r ws sl _ (H.out.below b2 (Nat.le_refl _))).mono ?_
  rintro e w1 ⟨rfl, hb1⟩
  have hbb : Below w.heap.size w w1 := b2.trans (hb1.mono (by omega))
  obtain ⟨lf, hlf⟩ : ∃ lf, lifeOf ws = lf := ⟨_, rfl⟩
  rw [hlf]
  have HLF := Lib.hid hlf; clear hlf
  by_cases hl0 : lf = 0
  · subst hl0
    have hs1 : w.heap.size < w1.heap.size := Nat.lt_of_lt_of_le hW1s hb1.size
    have hun : U8At w1 w.heap.size 0 N := HUN.out.below hb1 hW1s
    have hup : U8At w1 b o P := HUP.out.below hb1 (by have := HBL.out; omega)
    have HUN1 := Lib.hid hun; have HUP1 := Lib.hid hup
    clear hun hup HUN HUP b2 hb1
    go_upto_region 7 with fail
    go_cut [8] (fun s8 wx => wx.ownsRow w.heap.size 36 1 s8 18 (u32s L) ∧ Below w.heap.size w wx)
    case first =>
      have hltb : b < w1.heap.size := by have := HBL.out; omega
      have hlw : (u32s (wordsOf N)).length = 4 * 1 := by rw [u32s_length, wordsOf_length, HN.out]
      have HLW := Lib.hid hlw; clear hlw
      go_region_law (first
        | (refine step_append_lies _ rfl _ _ 31 rfl w.heap.size 36 i0 (.int .u32 0) 1 4 Try.underlying31 HI.out HZ0.out HZ1.out HZ2.out rfl (by decide) vp 14 _ rfl hOp ⟨gn, 0, none⟩ 4 capn (u32s (wordsOf N)) rfl HLW.out (by intro j u hu; rw [addr_add]; exact hcn j u hu) (u32s_one _) (by omega) (by unfold maxLen; omega) (by omega) (by exact hZs) _ rfl ?_; intro g cap' w9 hown9 hgrow _ _; have hb9 : Below w.heap.size w w9 := hZ.grown hgrow (by exact hZs) (fun j hj => (hOp.lt j hj).1); rw [HLU.out] at hown9)
        | (go_simp; go_at_call 41; (first
            | ((with_reducible refine at_calls #[.slice (some ⟨b, o, none⟩) 56 cap] w1.drew ?_); refine (otp_number b o 56 cap P w1.drew HP.out (by omega) hc hltb HUP1.out).mono ?_; rintro e wp ⟨vp, rfl, hownp, hbp⟩; have hbp1 : Below w.heap.size w wp := hbb.drew.trans (hbp.mono (Nat.le_of_lt hs1)); have hsp : w1.heap.size ≤ wp.heap.size := hbp.size)
            | ((with_reducible refine at_calls #[.slice (some ⟨w.heap.size, 0, none⟩) 16 16] w1.drew ?_); refine (otp_number w.heap.size 0 16 16 N w1.drew HN.out (by omega) (by omega) hs1 HUN1.out).mono ?_; rintro e wn ⟨vn, rfl, hownn, hbn⟩; have hbn1 : Below w.heap.size w wn := hbb.drew.trans (hbn.mono (Nat.le_of_lt hs1)); have hsn : w1.heap.size ≤ wn.heap.size := hbn.size)
            | ((with_reducible refine at_calls #[.slice (some ⟨b, o, none⟩) 56 cap] _ ?_); refine (otp_number b o 56 cap P _ HP.out (by omega) hc (Nat.lt_of_lt_of_le hltb hsn) (U8At.below (w := w1.drew) HUP1.out hbn hltb)).mono ?_; rintro e wz ⟨vp, rfl, hownp, hbp⟩; have hZ : Below w.heap.size w wz := hbn1.trans (hbp.mono (by have := hsn; show w.heap.size ≤ wn.heap.size; omega)); have hZs := hZ.size; have hOp := ownsRow_mono hownp (show w.heap.size ≤ wn.heap.size by omega); have hOn := ownsRow_below hownn hbp (Nat.le_refl _); obtain ⟨gn, capn, rfl, _, _, _, hcn⟩ := own_parts hOn (by omega) (by omega))
            | ((with_reducible refine at_calls #[.slice (some ⟨w.heap.size, 0, none⟩) 16 16] _ ?_); refine (otp_number w.heap.size 0 16 16 N _ HN.out (by omega) (by omega) (Nat.lt_of_lt_of_le hs1 hsp) (U8At.below (w := w1.drew) HUN1.out hbp hs1)).mono ?_; rintro e wz ⟨vn, rfl, hownn, hbn⟩; have hZ : Below w.heap.size w wz := hbp1.trans (hbn.mono (by have := hsp; show w.heap.size ≤ wp.heap.size; omega)); have hZs := hZ.size; have hOp := ownsRow_mono (ownsRow_below hownp hbn (Nat.le_refl _)) (show w.heap.size ≤ w1.heap.size by omega); have hOn := hownn; obtain ⟨gn, capn, rfl, _, _, _, hcn⟩ := own_parts hOn (by omega) (by omega))
            )))
      all_goals
        go_wp2_with fail
        go_meet
        exact ⟨hown9, hb9⟩
    case rest =>
    obtain ⟨hown, hbx⟩ := hcut
    have hu8 := U32At.own' hown
    obtain ⟨g8, cap8, rfl, hg8, hg8s, hc8, _⟩ := own_parts hown (by omega) (by omega)
    have hu9 := hu8 _ _ rfl
    have HU8 := Lib.hid hu9
    have hsx := hbx.size
    clear hown hu8 hu9 HUN1 HUP1 hs1 hbb
    go_wp2_with fail
    go_loopw [29] (fun i wr => ∃ k : Nat, k ≤ 18 ∧ i = .int .i64 k ∧ keyOk V L k = true ∧ Below wc.heap.size wc wr) (fun i _ => 18 - (intOf i).toNat)
    case atStart => exact ⟨0, by omega, rfl, by unfold keyOk; rfl, Below.refl _ _⟩
    case round =>
      obtain ⟨k, hk, rfl, hok, hbr⟩ := hrel
      have hbw : Below w.heap.size w wr := hbx.trans (hbr.mono hsx)
      have hsr := hbr.size
      by_cases hlt : k < 18
      · obtain ⟨x, hx⟩ : ∃ x, L.getD k 0 = x := ⟨_, rfl⟩
        have hx2 := getD_some hx (by rw [HLL.out]; omega)
        have hux := (HU8.out.below hbr hg8s).at hx2
        rw [Nat.zero_add] at hux
        obtain ⟨y, hy⟩ : ∃ y, V.getD (9 + k) 0 = y := ⟨_, rfl⟩
        have hy2 := getD_some hy (by rw [HVL.out]; omega)
        have HY2 := Lib.hid hy2
        have hF : keyOk V L (k + 1) = (keyOk V L k && (y &&& ~~~x == 0)) := by rw [keyOk, hx, hy]
        rw [hok, Bool.true_and] at hF
        have HF := Lib.hid hF; have HOK := Lib.hid hok
        have HX := Lib.hid hx; have HY := Lib.hid hy
        clear hF hok hx hy hx2 hy2
        go_wp2_with fail
        refine (otp_all r ws sl _ (H.out.below hbw (Nat.le_refl _))).mono ?_
        rintro e w3 ⟨g, cap2, rfl, hcap, hg, hg2, hua, hb3⟩
        rw [HV.out] at hua
        have hua0 := hua.at HY2.out
        rw [Nat.zero_add] at hua0
        have hbr3 : Below wc.heap.size wc w3 := hbr.trans (hb3.mono hsr)
        clear hua
        by_cases hz : y &&& ~~~x = 0
        · have hzb : (y &&& ~~~x != 0#32) = false := by rw [hz]; rfl
          have HZ := Lib.hid hz; clear hz
          go_wp2
          go_roundw
          case rel => exact ⟨k + 1, by omega, by go_num, by rw [HF.out, HZ.out]; rfl, hbr3⟩
          case measure => simp [intOf]; omega
        · have hzb : (y &&& ~~~x != 0#32) = true := by rw [bne_iff_ne]; exact hz
          have hnf : keyOk V L 18 = false := by
            cases hc : keyOk V L 18 with
            | false => rfl
            | true => exact absurd (by have := (keyOk_iff _ _ _).1 hc k hlt; rwa [HX.out, HY.out] at this) hz
          have HNF := Lib.hid hnf; clear hnf hz
          go_wp2
          go_ret2
          rw [← HR.out, if_neg (by rw [HLF.out]; decide), if_neg (by rw [HNF.out]; decide)]
          exact .err 11 (hbx.trans (hbr3.mono hsx))
      · have hk18 : k = 18 := by omega
        subst hk18
        have HOK := Lib.hid hok; clear hok
        go_wp2_with fail
        refine (otp_plan r ws sl _ 9 g8 0 cap8 L 18 _ (H.out.below hbw (Nat.le_refl _)) rfl HLL.out (by omega) (Nat.lt_of_lt_of_le hg8s hsr) (HU8.out.below hbr hg8s)).mono ?_
        rintro e w5 ⟨v, rfl, hown, hb5⟩
        rw [HV.out] at hown
        have HOW := Lib.hid hown; clear hown
        go_wp2_with fail
        go_ret2
        rw [← HR.out, if_neg (by rw [HLF.out]; decide), if_pos HOK.out]
        exact ⟨v, rfl, ownsRow_mono HOW.out (by omega), hbw.trans (hb5.mono (by omega))⟩
  · go_wp2_with fail
    go_ret2
    rw [← HR.out, if_pos (by rw [HLF.out]; exact hl0)]
    exact .err 14 hbb
end Go.Proofs.Ytoefaghakjcfcaa
