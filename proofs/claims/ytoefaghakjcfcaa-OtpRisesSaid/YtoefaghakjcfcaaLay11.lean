/- The walk of curtilagelaw11.lay. -/
import Derived.Test.YtoefaghakjcfcaaRef11
import Derived.Test.YtoefaghakjcfcaaRef01
namespace Go.Proofs.Ytoefaghakjcfcaa
open Go.RowKit

set_option maxRecDepth 100000 in
set_option maxHeartbeats 1000000 in
theorem lay11 (l : List (BitVec 32)) (w : World) (hl : l.length = 64) :
    Calls Try.prog 15 #[.agg (u32s l).toArray] w fun e w' =>
      ∃ r : Ref, e = .returned (.pointer (some ⟨r.bc, 0, none⟩)) ∧ ChipAt w' r (offs l) false ∧ w.heap.size ≤ r.bc ∧ w.heap.size ≤ r.ba ∧ w.heap.size ≤ r.bw ∧ Below w.heap.size w w' := by
  obtain ⟨kv, hkv⟩ : ∃ kv, u32s l = kv := ⟨_, rfl⟩
  rw [hkv]
  obtain ⟨W1, hW1, b1, b2, hs⟩ := allocs1 w kv 39
  have hu : U32At W1 w.heap.size 0 l := by rw [← hkv] at b1; exact U32At.blk b1
  have HW1 := Lib.hid hW1; clear hW1 hkv b1
  have HU := Lib.hid hu; clear hu
  go_enter Try.func15, Try.ntmps15
  go_wp2_with fail
  change Calls _ _ _ (w.alloc (.cells kv.toArray 39)) _
  rw [HW1.out]
  refine (otp_of w.heap.size 0 64 l W1 hl (by omega) HU.out).mono ?_
  rintro e w1 ⟨r, rfl, hch, h1, h2, h3, hb1⟩
  have HC := Lib.hid hch; clear hch
  go_wp2_with fail
  go_ret
  exact ⟨r, rfl, HC.out, by omega, by omega, by omega, b2.trans (hb1.mono (by omega))⟩
end Go.Proofs.Ytoefaghakjcfcaa
