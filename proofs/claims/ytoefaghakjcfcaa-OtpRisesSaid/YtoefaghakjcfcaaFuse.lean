/- The walks of package fuse. -/
import Derived.Test.YtoefaghakjcfcaaRows
import Derived.Test.YtoefaghakjcfcaaBytes
namespace Go.Proofs.Ytoefaghakjcfcaa
open Go.RowKit

theorem Try.infoU32 : (Try.prog.info? 36).map (fun i => (i.zero, i.size, i.bytes)) = some (some (.int .u32 0), 1, 4) := by kernel_rfl

/-- The cells of words. -/
def wordCells : List (BitVec 32 × Bool) → List Value
  | [] => []
  | (v, l) :: r => .int .u32 (U32 v) :: .bool l :: wordCells r
theorem wordCells_length (l : List (BitVec 32 × Bool)) : (wordCells l).length = 2 * l.length := by
  induction l with
  | nil => rfl
  | cons a r ih => obtain ⟨v, l⟩ := a; simp [wordCells, ih]; omega
theorem wordCells_v (l : List (BitVec 32 × Bool)) (i : Nat) : (wordCells l)[i * 2]? = (l[i]?).map fun x => .int .u32 (U32 x.1) := by
  induction l generalizing i with
  | nil => simp [wordCells]
  | cons a r ih => obtain ⟨v, l⟩ := a; cases i with
    | zero => simp [wordCells]
    | succ i => rw [show (i + 1) * 2 = i * 2 + 1 + 1 by omega]; simp [wordCells, ih]
theorem wordCells_l (l : List (BitVec 32 × Bool)) (i : Nat) : (wordCells l)[i * 2 + 1]? = (l[i]?).map fun x => .bool x.2 := by
  induction l generalizing i with
  | nil => simp [wordCells]
  | cons a r ih => obtain ⟨v, l⟩ := a; cases i with
    | zero => simp [wordCells]
    | succ i => rw [show (i + 1) * 2 + 1 = (i * 2 + 1) + 1 + 1 by omega]; simp [wordCells, ih]
theorem wordCells_setv (l : List (BitVec 32 × Bool)) (i : Nat) (h : i < l.length) (v : BitVec 32) : (wordCells l).set (i * 2) (.int .u32 (U32 v)) = wordCells (l.set i (v, l[i].2)) := by
  induction l generalizing i with
  | nil => simp at h
  | cons a r ih => obtain ⟨x, b⟩ := a; cases i with
    | zero => simp [wordCells]
    | succ i => rw [show (i + 1) * 2 = i * 2 + 1 + 1 by omega]; simp [wordCells, ih i (by simpa using h)]
theorem wordCells_setl (l : List (BitVec 32 × Bool)) (i : Nat) (h : i < l.length) (b' : Bool) : (wordCells l).set (i * 2 + 1) (.bool b') = wordCells (l.set i (l[i].1, b')) := by
  induction l generalizing i with
  | nil => simp at h
  | cons a r ih => obtain ⟨x, b⟩ := a; cases i with
    | zero => simp [wordCells]
    | succ i => rw [show (i + 1) * 2 + 1 = (i * 2 + 1) + 1 + 1 by omega]; simp [wordCells, ih i (by simpa using h)]

/-- The words' values. -/
def vals (l : List (BitVec 32 × Bool)) : List (BitVec 32) := l.map fun x => x.1
theorem vals_length (l : List (BitVec 32 × Bool)) : (vals l).length = l.length := by simp [vals]
theorem vals_set (l : List (BitVec 32 × Bool)) (i : Nat) (v : BitVec 32) (b : Bool) : vals (l.set i (v, b)) = (vals l).set i v := by simp [vals, List.map_set]


/-- An array of fuses: its block, its words' block. -/
structure ArrAt (w : World) (ba bw cap : Nat) (ws : List (BitVec 32 × Bool)) : Prop where
  arr : Blk w ba 80 [.slice (some ⟨bw, 0, none⟩) ws.length cap]
  wrd : Blk w bw 82 (wordCells ws)
  ne : ba ≠ bw
  len : ws.length ≤ 4096

set_option maxRecDepth 100000 in
set_option maxHeartbeats 1000000 in
theorem fuse_words (ba bw cap : Nat) (ws : List (BitVec 32 × Bool)) (w : World) (h : ArrAt w ba bw cap ws) :
    Calls Try.prog 13 #[.pointer (some ⟨ba, 0, none⟩)] w fun e w' => ∃ v, e = .returned v ∧ w'.ownsRow w.heap.size 36 1 v ws.length (u32s (vals ws)) ∧ Below w.heap.size w w' := by
  obtain ⟨harr, hwrd, hne, hlen⟩ := h
  obtain ⟨i0, hi, hz0, hz1, hz2⟩ := info_parts Try.infoU32
  have hc := harr.cell 0
  simp only [List.getElem?_cons_zero] at hc
  have hlt := hwrd.lt
  go_enter Try.func13, Try.ntmps13
  go_wp2_with fail
  go_loopw [3, 13] (fun v i wr => ∃ k : Nat, k ≤ ws.length ∧ i = .int .i64 k ∧ wr.ownsRow w.heap.size 36 1 v k (u32s ((vals ws).take k)) ∧ Below w.heap.size w wr) (fun _ i _ => ws.length - (intOf i).toNat)
  case atStart => exact ⟨0, Nat.zero_le _, rfl, World.ownsRow_nil _ _ _ _, Below.refl _ _⟩
  case round =>
    obtain ⟨k, hk, rfl, hown, hb⟩ := hrel
    by_cases hlt : k < ws.length
    · have h1 := (hwrd.below hb (by assumption)).cell (k * 2)
      have h2 := (hwrd.below hb (by assumption)).cell (k * 2 + 1)
      rw [wordCells_v, List.getElem?_eq_getElem hlt] at h1
      rw [wordCells_l, List.getElem?_eq_getElem hlt] at h2
      simp only [Option.map_some] at h1 h2
      have hs := hb.size
      go_wp2_with (at_builtin; refine wpList_append_own _ rfl _ _ 31 rfl w.heap.size 36 i0 (.int .u32 0) 1 4 Try.underlying31 hi hz0 hz1 hz2 rfl (by decide) _ k _ rfl ((hown.alloc _).alloc _) ⟨wr.heap.size + 1, 0, none⟩ 1 1 [.int .u32 (U32 ws[k].1)] rfl rfl ?c1 ?c2 ?c3 ?c4 ?c5 ?_)
      case c1 => exact cell_one_new' _ _ _ _ (by simp)
      case c2 => simp [Value.oneCell']
      case c3 => unfold maxLen; omega
      case c4 => omega
      case c5 => simp; omega
      intro v' w1 hown' hgrow _
      have hb1 : Below w.heap.size w w1 := ((hb.alloc hs _).alloc (by simp; omega) _).grown hgrow (by simp; omega) (fun j hj => (hown.lt j hj).1)
      clear hgrow hown
      go_wp2
      go_roundw
      case rel => exact ⟨k + 1, by omega, by go_num, by rw [List.take_add_one]; simpa [u32s, vals, List.getElem?_eq_getElem, hlt] using hown', hb1⟩
      case measure => simp [intOf]; omega
    · go_wp2
      go_ret
      have : k = ws.length := by omega
      subst this
      exact ⟨_, rfl, by rw [List.take_of_length_le (by simp [vals])] at hown; exact hown, hb⟩
/-- A word is programmed, in part: what stands there then, and the error. -/
def cut1 (ws : List (BitVec 32 × Bool)) (i : Int) (v g : BitVec 32) : List (BitVec 32 × Bool) × Nat :=
  if i < 0 ∨ i ≥ ws.length then (ws, 9)
  else if (ws.getD i.toNat (0, false)).1 &&& ~~~v ≠ 0 then (ws, 11)
  else (ws.set i.toNat ((ws.getD i.toNat (0, false)).1 ||| (v &&& g), (ws.getD i.toNat (0, false)).2), 0)
theorem cut1_length (ws : List (BitVec 32 × Bool)) (i : Int) (v g : BitVec 32) : (cut1 ws i v g).1.length = ws.length := by
  unfold cut1; split
  · rfl
  · split <;> simp
theorem ArrAt.put {w : World} {ba bw cap : Nat} {ws : List (BitVec 32 × Bool)} (h : ArrAt w ba bw cap ws) {i : Nat} (hi : i < ws.length) (v : BitVec 32) :
    ArrAt (w.setCell ⟨bw, i * 2, none⟩ (.int .u32 (U32 v))) ba bw cap (ws.set i (v, ws[i].2)) :=
  ⟨by rw [List.length_set]; exact h.arr.other (fun e => h.ne e.symm) _, by rw [← wordCells_setv _ _ hi]; exact h.wrd.set _ _, h.ne, by rw [List.length_set]; exact h.len⟩

set_option maxRecDepth 100000 in
set_option maxHeartbeats 1000000 in
theorem fuse_cut (ba bw cap : Nat) (ws : List (BitVec 32 × Bool)) (i : Int) (v g : BitVec 32) (gi : Int) (w : World) (h : ArrAt w ba bw cap ws) (hgi : gi = U32 g) :
    Calls Try.prog 45 #[.pointer (some ⟨ba, 0, none⟩), .int .i64 i, .int .u32 (U32 v), .int .u32 gi] w fun e w' =>
      e = .returned (.int .i64 (cut1 ws i v g).2) ∧ ArrAt w' ba bw cap (cut1 ws i v g).1 ∧ Kept (· = bw) w w' := by
  subst hgi
  have hc := h.arr.cell 0
  simp only [List.getElem?_cons_zero] at hc
  have hlen := h.len
  by_cases h1 : i < 0
  · have hr : cut1 ws i v g = (ws, 9) := if_pos (.inl h1)
    rw [hr]; clear hr
    go_enter Try.func45, Try.ntmps45
    go_wp2
    go_ret
    exact ⟨rfl, h, Kept.refl _ _⟩
  by_cases h2 : i ≥ ws.length
  · have hr : cut1 ws i v g = (ws, 9) := if_pos (.inr h2)
    rw [hr]; clear hr
    go_enter Try.func45, Try.ntmps45
    go_wp2
    go_ret
    exact ⟨rfl, h, Kept.refl _ _⟩
  obtain ⟨k, rfl⟩ := Int.eq_ofNat_of_zero_le (show 0 ≤ i by omega)
  have hk : k < ws.length := by omega
  obtain ⟨x, hx⟩ : ∃ x, ws[k] = x := ⟨_, rfl⟩
  have hcv := h.wrd.cell (k * 2)
  rw [wordCells_v, List.getElem?_eq_getElem hk, Option.map_some, hx] at hcv
  have hfv := h.wrd.free (k * 2)
  have hr : cut1 ws k v g = if x.1 &&& ~~~v ≠ 0 then (ws, 11) else (ws.set k (x.1 ||| (v &&& g), x.2), 0) := by
    rw [cut1, if_neg (by omega)]
    have : ws.getD k (0, false) = x := by rw [List.getD_eq_getElem?_getD, List.getElem?_eq_getElem hk, hx]; rfl
    simp only [Int.toNat_natCast, this]
  rw [hr]; clear hr
  have hput := h.put hk (x.1 ||| (v &&& g))
  rw [hx] at hput
  obtain ⟨y, b⟩ := x
  have HP := Lib.hid hput; have HX := Lib.hid hx
  clear hput hx
  simp only at hcv
  simp only []
  have hneg : ¬ ((k : Int) < 0) := by omega
  by_cases hok : y &&& ~~~v = 0
  · have hb : (y &&& ~~~v != 0#32) = false := by rw [hok]; rfl
    rw [if_neg (by rw [hok]; simp)]
    clear hok
    go_enter Try.func45, Try.ntmps45
    go_wp2
    go_ret
    exact ⟨rfl, HP.out, Kept.set1 _ _ _ _⟩
  · have hb : (y &&& ~~~v != 0#32) = true := by rw [bne_iff_ne]; exact hok
    rw [if_pos hok]
    clear hok
    go_enter Try.func45, Try.ntmps45
    go_wp2
    go_ret
    exact ⟨rfl, h, Kept.refl _ _⟩

set_option maxRecDepth 100000 in
set_option maxHeartbeats 1000000 in
theorem fuse_program (ba bw cap : Nat) (ws : List (BitVec 32 × Bool)) (i : Int) (v : BitVec 32) (w : World) (h : ArrAt w ba bw cap ws) :
    Calls Try.prog 39 #[.pointer (some ⟨ba, 0, none⟩), .int .i64 i, .int .u32 (U32 v)] w fun e w' =>
      e = .returned (.int .i64 (cut1 ws i v (BitVec.allOnes 32)).2) ∧ ArrAt w' ba bw cap (cut1 ws i v (BitVec.allOnes 32)).1 ∧ Kept (· = bw) w w' := by
  go_enter Try.func39, Try.ntmps39
  go_wp2_with fail
  refine (fuse_cut ba bw cap ws i v (BitVec.allOnes 32) _ w h (by rw [U32_eq]; rfl)).mono ?_
  rintro e w1 ⟨rfl, h1, hk⟩
  go_wp2_with fail
  go_ret
  exact ⟨rfl, h1, hk⟩

set_option maxRecDepth 100000 in
set_option maxHeartbeats 1000000 in
theorem fuse_lock (ba bw cap : Nat) (ws : List (BitVec 32 × Bool)) (k : Nat) (w : World) (h : ArrAt w ba bw cap ws) (hk : k < ws.length) :
    Calls Try.prog 50 #[.pointer (some ⟨ba, 0, none⟩), .int .i64 k] w fun e w' =>
      e = .returned (.int .i64 0) ∧ ArrAt w' ba bw cap (ws.set k (ws[k].1, true)) ∧ Kept (· = bw) w w' := by
  have hc := h.arr.cell 0
  simp only [List.getElem?_cons_zero] at hc
  have hlen := h.len
  have hcv := h.wrd.cell (k * 2 + 1)
  rw [wordCells_l, List.getElem?_eq_getElem hk, Option.map_some] at hcv
  have hfv := h.wrd.free (k * 2 + 1)
  have hput : ArrAt (w.setCell ⟨bw, k * 2 + 1, none⟩ (.bool true)) ba bw cap (ws.set k (ws[k].1, true)) :=
    ⟨by rw [List.length_set]; exact h.arr.other (fun e => h.ne e.symm) _, by rw [← wordCells_setl _ _ hk]; exact h.wrd.set _ _, h.ne, by rw [List.length_set]; exact h.len⟩
  have HP := Lib.hid hput; clear hput
  go_enter Try.func50, Try.ntmps50
  go_wp2
  go_ret
  exact ⟨rfl, HP.out, Kept.set1 _ _ _ _⟩

theorem Try.infoWord : (Try.prog.info? 82).map (fun i => (i.zero, i.size, i.bytes)) = some (some (.agg #[.int .u32 0, .bool false]), 2, 8) := by kernel_rfl

theorem madeWords (n : Nat) : (madeCells #[.int .u32 0, .bool false] (n * 2)).toList = wordCells (List.replicate n (0, false)) := by
  apply List.ext_getElem?
  intro j
  by_cases hj : j < n * 2
  · rw [show (madeCells #[Value.int .u32 0, .bool false] (n * 2)).toList[j]? = some (if j % 2 = 0 then .int .u32 0 else .bool false) from by
      have : j % 2 = 0 ∨ j % 2 = 1 := by omega
      rcases this with h | h <;> simp [madeCells, hj, h]]
    obtain ⟨k, hk⟩ : ∃ k, j = k * 2 ∨ j = k * 2 + 1 := ⟨j / 2, by omega⟩
    rcases hk with rfl | rfl
    · rw [if_pos (by omega), wordCells_v, List.getElem?_replicate, if_pos (by omega), Option.map_some]; exact congrArg (fun x => some (Value.int .u32 x)) (u32_lit 0 (by decide)).symm
    · rw [if_neg (by omega), wordCells_l, List.getElem?_replicate, if_pos (by omega)]; rfl
  · rw [List.getElem?_eq_none (by simp [madeCells]; omega), List.getElem?_eq_none (by rw [wordCells_length, List.length_replicate]; omega)]

set_option maxRecDepth 100000 in
set_option maxHeartbeats 1000000 in
theorem fuse_new (n : Nat) (w : World) (hn : n ≤ 4096) :
    Calls Try.prog 36 #[.int .i64 n] w fun e w' =>
      ∃ ba bw, e = .returned (.tuple #[.pointer (some ⟨ba, 0, none⟩), .int .i64 0]) ∧ ArrAt w' ba bw n (List.replicate n (0, false)) ∧ w.heap.size ≤ ba ∧ w.heap.size ≤ bw ∧ Below w.heap.size w w' := by
  obtain ⟨i0, hi, hz0, hz1, hz2⟩ := info_parts Try.infoWord
  go_enter Try.func36, Try.ntmps36
  go_wp2_with (at_make; refine wpList_make_full _ rfl _ _ 78 rfl w.heap.size 82 i0 (.agg #[.int .u32 0, .bool false]) 2 Try.underlying78 hi hz0 hz1 .i64 .i64 n n n rfl rfl rfl rfl ?_ ?_ ?_ ?_)
  · rw [hz2]; omega
  · unfold maxLen; omega
  · simp
  · intro w1 hown hg
    have hb : Below w.heap.size w w1 := (Below.refl _ _).grown hg (Nat.le_refl _) (fun k hk => by cases hk)
    rcases hown.2 with ⟨h, _⟩ | ⟨g', cap', cur, h, hbg, hgg, _, _, hcs, htake⟩
    · simp at h
    · simp only [Value.slice.injEq, Option.some.injEq, Addr.mk.injEq, and_true, true_and] at h
      obtain ⟨rfl, rfl⟩ := h
      have hcur : cur.toList = wordCells (List.replicate n (0, false)) := by
        rw [List.take_of_length_le (by rw [Array.length_toList, hcs]; exact Nat.le_refl _)] at htake
        rw [htake]; exact madeWords n
      have hblk : Blk w1 w.heap.size 82 (wordCells (List.replicate n (0, false))) := by
        unfold Blk; rw [hgg, ← hcur]
      have hs := hblk.lt
      clear hgg htake hcur hcs hown hg
      have HB := Lib.hid hblk; clear hblk
      go_wp2
      go_ret2
      refine ⟨w1.heap.size, w.heap.size, rfl, ⟨?_, HB.out.alloc _, by omega, by simpa using hn⟩, by omega, Nat.le_refl _, hb.alloc (by omega) _⟩
      rw [List.length_replicate]
      exact Blk.new w1 _ _

end Go.Proofs.Ytoefaghakjcfcaa
