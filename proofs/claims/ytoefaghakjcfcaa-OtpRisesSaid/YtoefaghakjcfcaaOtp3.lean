/- The walks of package otp: what would be programmed, call by call. -/
import Derived.Test.YtoefaghakjcfcaaOtp2
namespace Go.Proofs.Ytoefaghakjcfcaa
open Go.RowKit

/-- What a call answers: writes and an error. -/
def Plans (w w' : World) (e : Ending) (p : List (Nat × BitVec 32) × Nat) : Prop :=
  ∃ v, e = .returned (.tuple #[v, .int .i64 p.2]) ∧ w'.ownsRow w.heap.size 57 2 v p.1.length (writeCells p.1) ∧ Below w.heap.size w w'
theorem Plans.err {w w' : World} (n : Nat) (h : Below w.heap.size w w') : Plans w w' (.returned (.tuple #[.slice none 0 0, .int .i64 n])) ([], n) :=
  ⟨_, rfl, World.ownsRow_nil _ _ _ _, h⟩


def lifeMask (n : Nat) : BitVec 32 := match n with | 1 => 0xff | 2 => 0xff00 | 3 => 0xff0000 | _ => 0xff000000
def toLife (ws : List (BitVec 32 × Bool)) (n : Int) : List (Nat × BitVec 32) × Nat :=
  if n < 1 ∨ n > 4 then ([], 1) else if n ≤ lifeOf ws then ([], 14) else (planTo (vals ws) 0 [lifeMask n.toNat] 1, 0)

theorem U32At.lit (w : World) (x : BitVec 32) (t : TypeId) (b : Nat) (n : Int) (h : b = w.heap.size) (hx : n = U32 x) : U32At (w.alloc (.cells #[.int .u32 n] t)) b 0 [x] := by
  intro i hi
  have : i = 0 := by simpa using hi
  subst this h hx
  rw [World.cell?_alloc_at _ _ _ _ rfl]; rfl
theorem below_alloc (w : World) (o : Obj) : Below w.heap.size w (w.alloc o) := (Below.refl _ _).alloc (Nat.le_refl _) o

set_option maxRecDepth 100000 in
set_option maxHeartbeats 2000000 in
theorem otp_toLife (r : Ref) (ws : List (BitVec 32 × Bool)) (sl : Bool) (n : Int) (w : World) (h : ChipAt w r ws sl) :
    Calls Try.prog 17 #[.pointer (some ⟨r.bc, 0, none⟩), .int .i64 n] w fun e w' => Plans w w' e (toLife ws n) := by
  by_cases h1 : n < 1
  · have hr : toLife ws n = ([], 1) := if_pos (.inl h1)
    rw [hr]; clear hr
    go_enter Try.func17, Try.ntmps17
    go_wp2_with fail
    go_ret2
    exact .err 1 (Below.refl _ _)
  by_cases h4 : n > 4
  · have hr : toLife ws n = ([], 1) := if_pos (.inr h4)
    rw [hr]; clear hr
    go_enter Try.func17, Try.ntmps17
    go_wp2_with fail
    go_ret2
    exact .err 1 (Below.refl _ _)
  by_cases hle : n ≤ lifeOf ws
  · have hr : toLife ws n = ([], 14) := by rw [toLife, if_neg (by omega), if_pos hle]
    rw [hr]; clear hr
    go_enter Try.func17, Try.ntmps17
    go_wp2_with fail
    refine (otp_life r ws sl _ h).mono ?_
    rintro e w1 ⟨rfl, hb⟩
    go_wp2_with fail
    go_ret2
    exact .err 14 hb
  · obtain ⟨L, hL⟩ : ∃ L, lifeOf ws = L := ⟨_, rfl⟩
    have hr : toLife ws n = (planTo (vals ws) 0 [lifeMask n.toNat] 1, 0) := by rw [toLife, if_neg (by omega), if_neg hle]
    rw [hr]; clear hr
    rw [hL] at hle
    have HL := Lib.hid hL; clear hL
    obtain ⟨M, hM⟩ : ∃ M, lifeMask n.toNat = M := ⟨_, rfl⟩
    rw [hM]
    have HM := Lib.hid hM; clear hM
    obtain rfl | rfl | rfl | rfl : n = 1 ∨ n = 2 ∨ n = 3 ∨ n = 4 := by omega
    all_goals
      go_enter Try.func17, Try.ntmps17
      go_wp2_with fail
      refine (otp_life r ws sl _ h).mono ?_
      rintro e w1 ⟨rfl, hb⟩
      rw [HL.out]
      have hs := hb.size
      go_wp2_with fail
      refine (otp_plan r ws sl _ 0 _ 0 _ [M] 1 _ ((h.below hb (Nat.le_refl _)).below (below_alloc _ _) (Nat.le_refl _)) rfl rfl (by omega) (by simp) (by exact U32At.lit _ M _ _ _ rfl (by rw [← HM.out]; first | rfl | (rw [U32_eq]; rfl)))).mono ?_
      rintro e w2 ⟨v, rfl, hown, hb2⟩
      go_wp2_with fail
      go_ret2
      exact ⟨v, rfl, ownsRow_mono hown (by simp; omega), (hb.trans ((below_alloc _ _).mono hs)).trans (hb2.mono (by simp; omega))⟩

end Go.Proofs.Ytoefaghakjcfcaa
