/-
  No cell of these rows narrows 'for every input' (looked for: loops, veiled, ifaces, maps, wideKeys, modest, calm, conditions, laid).
  DERIVED. THE GIVEN ROWS OF THIS SEAT. 6 by the template 'for every input the law returns true; each argument reads behind the call as it read before'; 0 by the template 'total and deterministic' (their statements: YtoefaghakjcfcaaTotals.lean).
  GIVEN WITH THE SEED: the statements are not yours to turn. If you find one false, say at which input.
  Laid BY PROGRAM, IN A SANDBOX (cutbox-rows.mjs): the forced cells as the released guide's own fill.sh prints them over the translation 6f4e5347eaa5b728… (all of the seat's roots in one cut). By AI agents, Wed Nov 11 2026. No macro, syntax, notation, axiom, sorry.
-/
import Derived.Test.YtoefaghakjcfcaaChecked
import GoSem.Claim
import GoSem.ClaimJoined
import GoSem.ClaimMapViews
import Derived.JoinedTies
import Derived.KernelRfl
namespace Go.Proofs.Ytoefaghakjcfcaa
/- THE CELL 'sum', in the pinned program and in every row, IS THE sha256 OF THE DUMP (.gsa) THAT YtoefaghakjcfcaaProg.lean LOADS. Nothing in Lean hashes anything: it is a label: what it is worth is what the hold of that sum in a sandbox is worth. -/
noncomputable def Try.pinned : Pinned := { name := "ytoefaghakjcfcaa", sum := "6f4e5347eaa5b72814b04e0460c9cc2e2e303a0f30e7b4c9b0b657ba548c6054", checked := Try.checked }
namespace Rows
def none {H : Type} : Left H := { results := [], args := [] }

/-- 'curtilagelaw11.OtpCounts': WHATEVER THE INPUT: true; the input reads as it did. -/
def otpCountsSpec : ChangeSpec := { name := "otpCounts", fn := fun _ => fun
  | [d] => { results := [.lit (.bool true)], args := [d] }
  | _ => none }
def otpCountsRow : OpenClaim := { program := "ytoefaghakjcfcaa", sum := "6f4e5347eaa5b72814b04e0460c9cc2e2e303a0f30e7b4c9b0b657ba548c6054", func := "curtilage/curtilagelaw11.OtpCounts", spec := "otpCounts", apart := false }
def OtpCountsSaid : Prop := otpCountsRow.holds Try.pinned (OpenSpec.ofChange otpCountsSpec)

/-- ITS FALSE NEIGHBOUR: 'it returns false'. Refute it at one input. -/
def otpCountsWrong : ChangeSpec := { name := "otpCounts", fn := fun _ => fun
  | [d] => { results := [.lit (.bool false)], args := [d] }
  | _ => none }
def OtpCountsWrongFalsely : Prop := otpCountsRow.holds Try.pinned (OpenSpec.ofChange otpCountsWrong)

/-- 'curtilagelaw11.OtpRefuses': WHATEVER THE INPUT: true; the input reads as it did. -/
def otpRefusesSpec : ChangeSpec := { name := "otpRefuses", fn := fun _ => fun
  | [d1, d2, d3] => { results := [.lit (.bool true)], args := [d1, d2, d3] }
  | _ => none }
def otpRefusesRow : OpenClaim := { program := "ytoefaghakjcfcaa", sum := "6f4e5347eaa5b72814b04e0460c9cc2e2e303a0f30e7b4c9b0b657ba548c6054", func := "curtilage/curtilagelaw11.OtpRefuses", spec := "otpRefuses", apart := false }
def OtpRefusesSaid : Prop := otpRefusesRow.holds Try.pinned (OpenSpec.ofChange otpRefusesSpec)

/-- ITS FALSE NEIGHBOUR: 'it returns false'. Refute it at one input. -/
def otpRefusesWrong : ChangeSpec := { name := "otpRefuses", fn := fun _ => fun
  | [d1, d2, d3] => { results := [.lit (.bool false)], args := [d1, d2, d3] }
  | _ => none }
def OtpRefusesWrongFalsely : Prop := otpRefusesRow.holds Try.pinned (OpenSpec.ofChange otpRefusesWrong)

/-- 'curtilagelaw11.OtpRises': WHATEVER THE INPUT: true; the input reads as it did. -/
def otpRisesSpec : ChangeSpec := { name := "otpRises", fn := fun _ => fun
  | [d1, d2, d3] => { results := [.lit (.bool true)], args := [d1, d2, d3] }
  | _ => none }
def otpRisesRow : OpenClaim := { program := "ytoefaghakjcfcaa", sum := "6f4e5347eaa5b72814b04e0460c9cc2e2e303a0f30e7b4c9b0b657ba548c6054", func := "curtilage/curtilagelaw11.OtpRises", spec := "otpRises", apart := false }
def OtpRisesSaid : Prop := otpRisesRow.holds Try.pinned (OpenSpec.ofChange otpRisesSpec)

/-- ITS FALSE NEIGHBOUR: 'it returns false'. Refute it at one input. -/
def otpRisesWrong : ChangeSpec := { name := "otpRises", fn := fun _ => fun
  | [d1, d2, d3] => { results := [.lit (.bool false)], args := [d1, d2, d3] }
  | _ => none }
def OtpRisesWrongFalsely : Prop := otpRisesRow.holds Try.pinned (OpenSpec.ofChange otpRisesWrong)

/-- 'curtilagelaw11.OtpRows': WHATEVER THE INPUT: true; the input reads as it did. -/
def otpRowsSpec : ChangeSpec := { name := "otpRows", fn := fun _ => fun
  | [d1, d2, d3, d4, d5] => { results := [.lit (.bool true)], args := [d1, d2, d3, d4, d5] }
  | _ => none }
def otpRowsRow : OpenClaim := { program := "ytoefaghakjcfcaa", sum := "6f4e5347eaa5b72814b04e0460c9cc2e2e303a0f30e7b4c9b0b657ba548c6054", func := "curtilage/curtilagelaw11.OtpRows", spec := "otpRows", apart := false }
def OtpRowsSaid : Prop := otpRowsRow.holds Try.pinned (OpenSpec.ofChange otpRowsSpec)

/-- ITS FALSE NEIGHBOUR: 'it returns false'. Refute it at one input. -/
def otpRowsWrong : ChangeSpec := { name := "otpRows", fn := fun _ => fun
  | [d1, d2, d3, d4, d5] => { results := [.lit (.bool false)], args := [d1, d2, d3, d4, d5] }
  | _ => none }
def OtpRowsWrongFalsely : Prop := otpRowsRow.holds Try.pinned (OpenSpec.ofChange otpRowsWrong)

/-- 'curtilagelaw11.OtpReaches': WHATEVER THE INPUT: true; the input reads as it did. -/
def otpReachesSpec : ChangeSpec := { name := "otpReaches", fn := fun _ => fun
  | [d1, d2, d3] => { results := [.lit (.bool true)], args := [d1, d2, d3] }
  | _ => none }
def otpReachesRow : OpenClaim := { program := "ytoefaghakjcfcaa", sum := "6f4e5347eaa5b72814b04e0460c9cc2e2e303a0f30e7b4c9b0b657ba548c6054", func := "curtilage/curtilagelaw11.OtpReaches", spec := "otpReaches", apart := false }
def OtpReachesSaid : Prop := otpReachesRow.holds Try.pinned (OpenSpec.ofChange otpReachesSpec)

/-- ITS FALSE NEIGHBOUR: 'it returns false'. Refute it at one input. -/
def otpReachesWrong : ChangeSpec := { name := "otpReaches", fn := fun _ => fun
  | [d1, d2, d3] => { results := [.lit (.bool false)], args := [d1, d2, d3] }
  | _ => none }
def OtpReachesWrongFalsely : Prop := otpReachesRow.holds Try.pinned (OpenSpec.ofChange otpReachesWrong)

/-- 'curtilagelaw11.OtpArgs': WHATEVER THE INPUT: true; the input reads as it did. -/
def otpArgsSpec : ChangeSpec := { name := "otpArgs", fn := fun _ => fun
  | [d1, d2] => { results := [.lit (.bool true)], args := [d1, d2] }
  | _ => none }
def otpArgsRow : OpenClaim := { program := "ytoefaghakjcfcaa", sum := "6f4e5347eaa5b72814b04e0460c9cc2e2e303a0f30e7b4c9b0b657ba548c6054", func := "curtilage/curtilagelaw11.OtpArgs", spec := "otpArgs", apart := false }
def OtpArgsSaid : Prop := otpArgsRow.holds Try.pinned (OpenSpec.ofChange otpArgsSpec)

/-- ITS FALSE NEIGHBOUR: 'it returns false'. Refute it at one input. -/
def otpArgsWrong : ChangeSpec := { name := "otpArgs", fn := fun _ => fun
  | [d1, d2] => { results := [.lit (.bool false)], args := [d1, d2] }
  | _ => none }
def OtpArgsWrongFalsely : Prop := otpArgsRow.holds Try.pinned (OpenSpec.ofChange otpArgsWrong)

/- THE SECOND FORM. 'bulk': how many values and letters a reading holds, each counted each time it is reached (what is shared counts as often as it is met; a slice's spare places count too). A statement '..UptoSaid' is the law's where the arguments, and the package variables that the reading takes, are together of bulk at most 1048576: NARROWER than '..Said'. Prove '..Said' where nothing that the law and all that it calls make is longer than what came in: it says more and counts as full. Else prove '..UptoSaid'. A law counts once. -/
mutual
def uptoBulk {H : Type} : DataW H → Nat
  | .lit (.string bytes) => bytes.length + 1
  | .lit _ => 1
  | .nil => 1
  | .ptr d => uptoBulk d + 1
  | .slice elems spare => uptoBulkAll elems + uptoBulkAll spare + 1
  | .agg parts => uptoBulkAll parts + 1
  | .iface _ d => uptoBulk d + 1
  | .map entries => uptoBulkEntries entries + 1
  | .held _ => 1
def uptoBulkAll {H : Type} : List (DataW H) → Nat
  | [] => 0
  | d :: r => uptoBulk d + uptoBulkAll r
def uptoBulkEntries {H : Type} : List (Lit × DataW H) → Nat
  | [] => 0
  | x :: r => uptoBulkEntry x + uptoBulkEntries r
def uptoBulkEntry {H : Type} : Lit × DataW H → Nat
  | (.string bytes, d) => bytes.length + uptoBulk d + 1
  | (_, d) => uptoBulk d + 1
 end
def uptoSmall : (H : Type) → List (DataW H) → Bool := fun _ ds => decide (uptoBulkAll ds ≤ 1048576)
def OpenSpec.upto (s : _root_.Go.ChangeSpec) : _root_.Go.OpenSpec := { _root_.Go.OpenSpec.ofChange s with cond := some uptoSmall }

/-- 'curtilagelaw11.OtpCounts', WHERE WHAT IT READS IS OF BULK AT MOST 1048576: true; the input reads as it did. -/
def otpCountsUptoRow : OpenClaim := { program := "ytoefaghakjcfcaa", sum := "6f4e5347eaa5b72814b04e0460c9cc2e2e303a0f30e7b4c9b0b657ba548c6054", func := "curtilage/curtilagelaw11.OtpCounts", spec := "otpCounts", apart := false, narrowed := true }
def OtpCountsUptoSaid : Prop := otpCountsUptoRow.holds Try.pinned (OpenSpec.upto otpCountsSpec)

/-- 'curtilagelaw11.OtpRefuses', WHERE WHAT IT READS IS OF BULK AT MOST 1048576: true; the input reads as it did. -/
def otpRefusesUptoRow : OpenClaim := { program := "ytoefaghakjcfcaa", sum := "6f4e5347eaa5b72814b04e0460c9cc2e2e303a0f30e7b4c9b0b657ba548c6054", func := "curtilage/curtilagelaw11.OtpRefuses", spec := "otpRefuses", apart := false, narrowed := true }
def OtpRefusesUptoSaid : Prop := otpRefusesUptoRow.holds Try.pinned (OpenSpec.upto otpRefusesSpec)

/-- 'curtilagelaw11.OtpRises', WHERE WHAT IT READS IS OF BULK AT MOST 1048576: true; the input reads as it did. -/
def otpRisesUptoRow : OpenClaim := { program := "ytoefaghakjcfcaa", sum := "6f4e5347eaa5b72814b04e0460c9cc2e2e303a0f30e7b4c9b0b657ba548c6054", func := "curtilage/curtilagelaw11.OtpRises", spec := "otpRises", apart := false, narrowed := true }
def OtpRisesUptoSaid : Prop := otpRisesUptoRow.holds Try.pinned (OpenSpec.upto otpRisesSpec)

/-- 'curtilagelaw11.OtpRows', WHERE WHAT IT READS IS OF BULK AT MOST 1048576: true; the input reads as it did. -/
def otpRowsUptoRow : OpenClaim := { program := "ytoefaghakjcfcaa", sum := "6f4e5347eaa5b72814b04e0460c9cc2e2e303a0f30e7b4c9b0b657ba548c6054", func := "curtilage/curtilagelaw11.OtpRows", spec := "otpRows", apart := false, narrowed := true }
def OtpRowsUptoSaid : Prop := otpRowsUptoRow.holds Try.pinned (OpenSpec.upto otpRowsSpec)

/-- 'curtilagelaw11.OtpReaches', WHERE WHAT IT READS IS OF BULK AT MOST 1048576: true; the input reads as it did. -/
def otpReachesUptoRow : OpenClaim := { program := "ytoefaghakjcfcaa", sum := "6f4e5347eaa5b72814b04e0460c9cc2e2e303a0f30e7b4c9b0b657ba548c6054", func := "curtilage/curtilagelaw11.OtpReaches", spec := "otpReaches", apart := false, narrowed := true }
def OtpReachesUptoSaid : Prop := otpReachesUptoRow.holds Try.pinned (OpenSpec.upto otpReachesSpec)

/-- 'curtilagelaw11.OtpArgs', WHERE WHAT IT READS IS OF BULK AT MOST 1048576: true; the input reads as it did. -/
def otpArgsUptoRow : OpenClaim := { program := "ytoefaghakjcfcaa", sum := "6f4e5347eaa5b72814b04e0460c9cc2e2e303a0f30e7b4c9b0b657ba548c6054", func := "curtilage/curtilagelaw11.OtpArgs", spec := "otpArgs", apart := false, narrowed := true }
def OtpArgsUptoSaid : Prop := otpArgsUptoRow.holds Try.pinned (OpenSpec.upto otpArgsSpec)

end Rows
end Go.Proofs.Ytoefaghakjcfcaa
