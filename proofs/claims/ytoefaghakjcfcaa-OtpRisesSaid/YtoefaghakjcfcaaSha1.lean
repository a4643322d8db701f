/- The walks of package sha: words of bytes and back. -/
import Derived.Test.YtoefaghakjcfcaaRows
import Derived.Test.YtoefaghakjcfcaaBytes
import Derived.Deep.QuietTactic
import Derived.BigQuiet
namespace Go.Proofs.Ytoefaghakjcfcaa
open Go.RowKit

set_option maxRecDepth 100000 in
set_option maxHeartbeats 1000000 in
theorem sha_word (b o n cap : Nat) (x0 x1 x2 x3 : BitVec 8) (w : World) (hn : 4 ≤ n) (h0 : w.cell? ⟨b, o, none⟩ = some (.int .u8 (U8 x0))) (h1 : w.cell? ⟨b, o + 1, none⟩ = some (.int .u8 (U8 x1)))
    (h2 : w.cell? ⟨b, o + 2, none⟩ = some (.int .u8 (U8 x2))) (h3 : w.cell? ⟨b, o + 3, none⟩ = some (.int .u8 (U8 x3))) :
    Calls Try.prog 52 #[.slice (some ⟨b, o, none⟩) n cap] w fun e w' => e = .returned (.int .u32 (U32 (word4 x0 x1 x2 x3))) ∧ ∃ k, w' = w.drewN k := by
  have e0 : 0 < n := by omega
  have e1 : 1 < n := by omega
  have e2 : 2 < n := by omega
  have e3 : 3 < n := by omega
  go_enter Try.func52, Try.ntmps52
  go_wp2_with fail
  go_quiet (fail)
  go_wp2
  go_ret
  exact ⟨rfl, _, rfl⟩

end Go.Proofs.Ytoefaghakjcfcaa
