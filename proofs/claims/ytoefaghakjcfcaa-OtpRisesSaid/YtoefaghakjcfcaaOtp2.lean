/- The walks of package otp: what would be programmed. -/
import Derived.Test.YtoefaghakjcfcaaOtp1
namespace Go.Proofs.Ytoefaghakjcfcaa
open Go.RowKit

theorem Try.infoWr : (Try.prog.info? 57).map (fun i => (i.zero, i.size, i.bytes)) = some (some (.agg #[.int .i64 0, .int .u32 0]), 2, 16) := by kernel_rfl

/-- The cells of what is to be programmed. -/
def writeCells : List (Nat × BitVec 32) → List Value
  | [] => []
  | (n, v) :: r => .int .i64 n :: .int .u32 (U32 v) :: writeCells r
theorem writeCells_append (a b : List (Nat × BitVec 32)) : writeCells (a ++ b) = writeCells a ++ writeCells b := by
  induction a with
  | nil => rfl
  | cons x r ih => obtain ⟨n, v⟩ := x; simp [writeCells, ih]
theorem writeCells_0 (l : List (Nat × BitVec 32)) (i : Nat) : (writeCells l)[i * 2]? = (l[i]?).map fun x => .int .i64 x.1 := by
  induction l generalizing i with
  | nil => simp [writeCells]
  | cons a r ih => obtain ⟨v, l⟩ := a; cases i with
    | zero => simp [writeCells]
    | succ i => rw [show (i + 1) * 2 = i * 2 + 1 + 1 by omega]; simp [writeCells, ih]
theorem writeCells_1 (l : List (Nat × BitVec 32)) (i : Nat) : (writeCells l)[i * 2 + 1]? = (l[i]?).map fun x => .int .u32 (U32 x.2) := by
  induction l generalizing i with
  | nil => simp [writeCells]
  | cons a r ih => obtain ⟨v, l⟩ := a; cases i with
    | zero => simp [writeCells]
    | succ i => rw [show (i + 1) * 2 + 1 = (i * 2 + 1) + 1 + 1 by omega]; simp [writeCells, ih]

/-- What is to be programmed so that words from one on have these bits, too. -/
def planTo (ws : List (BitVec 32)) (fr : Nat) (l : List (BitVec 32)) : Nat → List (Nat × BitVec 32)
  | 0 => []
  | k + 1 => planTo ws fr l k ++ if ws.getD (fr + k) 0 ||| l.getD k 0 = ws.getD (fr + k) 0 then [] else [(fr + k, ws.getD (fr + k) 0 ||| l.getD k 0)]
theorem planTo_len (ws : List (BitVec 32)) (fr : Nat) (l : List (BitVec 32)) (k : Nat) : (planTo ws fr l k).length ≤ k := by
  induction k with
  | zero => simp [planTo]
  | succ k ih => simp only [planTo, List.length_append]; have : (if ws.getD (fr + k) 0 ||| l.getD k 0 = ws.getD (fr + k) 0 then [] else [(fr + k, ws.getD (fr + k) 0 ||| l.getD k 0)]).length ≤ 1 := (by split <;> simp); omega
attribute [irreducible] planTo

set_option maxRecDepth 100000 in
set_option maxHeartbeats 2000000 in
theorem otp_plan (r : Ref) (ws : List (BitVec 32 × Bool)) (sl : Bool) (fi : Int) (fr : Nat) (b o cap : Nat) (l : List (BitVec 32)) (n : Nat) (w : World) (h : ChipAt w r ws sl)
    (hfi : fi = fr) (hn : l.length = n) (hf : fr + n ≤ 64) (hb : b < w.heap.size) (hu : U32At w b o l) :
    Calls Try.prog 38 #[.pointer (some ⟨r.bc, 0, none⟩), .int .i64 fi, .slice (some ⟨b, o, none⟩) n cap] w fun e w' => ∃ v, e = .returned v ∧
      w'.ownsRow w.heap.size 57 2 v (planTo (vals ws) fr l n).length (writeCells (planTo (vals ws) fr l n)) ∧ Below w.heap.size w w' := by
  subst hfi
  have hl := h.len
  obtain ⟨i0, hi, hz0, hz1, hz2⟩ := info_parts Try.infoWr
  obtain ⟨L, hL⟩ : ∃ L, vals ws = L := ⟨_, rfl⟩
  have hLl : L.length = 64 := by rw [← hL, vals_length]; exact hl
  rw [hL]
  have HL := Lib.hid hL; have HLL := Lib.hid hLl; have HN := Lib.hid hn; have HI := Lib.hid hi; have HZ0 := Lib.hid hz0; have HZ1 := Lib.hid hz1; have HZ2 := Lib.hid hz2
  have HU := Lib.hid hu; have HH := Lib.hid h
  clear hL hLl hn hl hi hz0 hz1 hz2 hu h
  go_enter Try.func38, Try.ntmps38
  go_wp2_with fail
  go_loopw [7, 13] (fun v i wr => ∃ k : Nat, k ≤ n ∧ i = .int .i64 k ∧ wr.ownsRow w.heap.size 57 2 v (planTo L fr l k).length (writeCells (planTo L fr l k)) ∧ Below w.heap.size w wr) (fun _ i _ => n - (intOf i).toNat)
  case atStart => exact ⟨0, by omega, rfl, by unfold planTo; exact World.ownsRow_nil _ _ _ _, Below.refl _ _⟩
  case round =>
    obtain ⟨k, hk, rfl, hown, hbl⟩ := hrel
    have hs := hbl.size
    by_cases hlt : k < n
    · have hlen := planTo_len L fr l k
      have hu0 := (HU.out.below hbl hb) k (by rw [HN.out]; exact hlt)
      obtain ⟨x, hx⟩ : ∃ x, l[k]'(by rw [HN.out]; exact hlt) = x := ⟨_, rfl⟩
      have hx2 : l.getD k 0 = x := by rw [← hx, List.getD_eq_getElem?_getD, List.getElem?_eq_getElem (by rw [HN.out]; exact hlt)]; rfl
      rw [hx] at hu0
      obtain ⟨y, hy⟩ : ∃ y, L.getD (fr + k) 0 = y := ⟨_, rfl⟩
      have hP : planTo L fr l (k + 1) = planTo L fr l k ++ if y ||| x = y then [] else [(fr + k, y ||| x)] := by rw [planTo, hx2, hy]
      have HP := Lib.hid hP
      have HY := Lib.hid hy
      clear hx hx2 hy hP
      go_wp2_with fail
      refine (otp_all r ws sl _ (HH.out.below hbl (Nat.le_refl _))).mono ?_
      rintro e w1 ⟨g, cap1, rfl, hcap, hg, hg1, hua, hb1⟩
      rw [HL.out] at hua
      have hua0 := hua (fr + k) (by rw [HLL.out]; omega)
      have hye : L[fr + k]'(by rw [HLL.out]; omega) = y := by rw [← HY.out, List.getD_eq_getElem?_getD, List.getElem?_eq_getElem (by rw [HLL.out]; omega)]; rfl
      rw [hye] at hua0
      simp only [Nat.zero_add] at hua0
      clear hye hua
      have hbb : Below w.heap.size w w1 := hbl.trans (hb1.mono hs)
      have hs1 := hbb.size
      have hown1 : w1.ownsRow w.heap.size 57 2 _ (planTo L fr l k).length (writeCells (planTo L fr l k)) := ownsRow_below hown hb1 (Nat.le_refl _)
      clear hown hb1
      by_cases hyx : y ||| x = y
      · rw [if_pos hyx, List.append_nil] at HP
        have hne : (y ||| x != y) = false := by rw [hyx]; simp
        have HYX := Lib.hid hyx; clear hyx
        go_wp2
        go_roundw
        case rel => exact ⟨k + 1, by omega, by go_num, by rw [HP.out]; exact hown1, hbb⟩
        case measure => simp [intOf]; omega
      · rw [if_neg hyx] at HP
        have hne : (y ||| x != y) = true := by simpa using hyx
        clear hyx
        go_wp2_with (at_builtin; refine wpList_append_own _ rfl _ _ 26 rfl w.heap.size 57 i0 (.agg #[.int .i64 0, .int .u32 0]) 2 16 Try.underlying26 HI.out HZ0.out HZ1.out HZ2.out rfl (by decide) _ (planTo L fr l k).length _ rfl (hown1.alloc _) ⟨w1.heap.size, 0, none⟩ 1 1 [.int .i64 (fr + k), .int .u32 (U32 (y ||| x))] rfl rfl ?c1 ?c2 ?c3 ?c4 ?c5 ?_)
        case c1 => exact cell_two_new' _ _ _ _ _ rfl
        case c2 => simp [Value.oneCell']
        case c3 => unfold maxLen; omega
        case c4 => omega
        case c5 => simp; omega
        intro v' w2 hown2 hgrow _
        have hb2 : Below w.heap.size w w2 := ((hbb.alloc hs1 _)).grown hgrow (by simp; omega) (fun j hj => (hown1.lt j hj).1)
        clear hgrow hown1
        go_wp2
        go_roundw
        case rel => exact ⟨k + 1, by omega, by go_num, by rw [HP.out, List.length_append, writeCells_append]; exact hown2, hb2⟩
        case measure => simp [intOf]; omega
    · go_wp2
      go_ret
      have : k = n := by omega
      subst this
      exact ⟨_, rfl, hown, hbl⟩

end Go.Proofs.Ytoefaghakjcfcaa
