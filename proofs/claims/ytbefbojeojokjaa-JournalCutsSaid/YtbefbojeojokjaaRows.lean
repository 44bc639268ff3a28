/-
  No cell of these rows narrows 'for every input' (looked for: loops, veiled, ifaces, maps, wideKeys, modest, calm, conditions, laid).
  DERIVED. THE GIVEN ROWS OF THIS SEAT. 10 by the template 'for every input the law returns true; each argument reads behind the call as it read before'; 0 by the template 'total and deterministic' (their statements: YtbefbojeojokjaaTotals.lean).
  GIVEN WITH THE SEED: the statements are not yours to turn. If you find one false, say at which input.
  Laid BY PROGRAM, IN A SANDBOX (cutbox-rows.mjs): the forced cells as the released guide's own fill.sh prints them over the translation 4911766cbebfaf6d… (all of the seat's roots in one cut). By AI agents, Wed Nov 11 2026. No macro, syntax, notation, axiom, sorry.
-/
import Derived.Test.YtbefbojeojokjaaChecked
import GoSem.Claim
import GoSem.ClaimJoined
import GoSem.ClaimMapViews
import Derived.JoinedTies
import Derived.KernelRfl
namespace Go.Proofs.Ytbefbojeojokjaa
/- THE CELL 'sum', in the pinned program and in every row, IS THE sha256 OF THE DUMP (.gsa) THAT YtbefbojeojokjaaProg.lean LOADS. Nothing in Lean hashes anything: it is a label: what it is worth is what the hold of that sum in a sandbox is worth. -/
noncomputable def Try.pinned : Pinned := { name := "ytbefbojeojokjaa", sum := "4911766cbebfaf6d213fafa9ad6a4f39767fd060e89c401561e22a6d29643e22", checked := Try.checked }
namespace Rows
def none {H : Type} : Left H := { results := [], args := [] }

/-- 'bootjacklaw22.JournalEpochs': WHATEVER THE INPUT: true; the input reads as it did. -/
def journalEpochsSpec : ChangeSpec := { name := "journalEpochs", fn := fun _ => fun
  | [d1, d2] => { results := [.lit (.bool true)], args := [d1, d2] }
  | _ => none }
def journalEpochsRow : OpenClaim := { program := "ytbefbojeojokjaa", sum := "4911766cbebfaf6d213fafa9ad6a4f39767fd060e89c401561e22a6d29643e22", func := "bootjack/bootjacklaw22.JournalEpochs", spec := "journalEpochs", unfollowed := true, recurses := true, apart := false }
def JournalEpochsSaid : Prop := journalEpochsRow.holds Try.pinned (OpenSpec.ofChange journalEpochsSpec)

/-- ITS FALSE NEIGHBOUR: 'it returns false'. Refute it at one input. -/
def journalEpochsWrong : ChangeSpec := { name := "journalEpochs", fn := fun _ => fun
  | [d1, d2] => { results := [.lit (.bool false)], args := [d1, d2] }
  | _ => none }
def JournalEpochsWrongFalsely : Prop := journalEpochsRow.holds Try.pinned (OpenSpec.ofChange journalEpochsWrong)

/-- 'bootjacklaw22.JournalCompacts': WHATEVER THE INPUT: true; the input reads as it did. -/
def journalCompactsSpec : ChangeSpec := { name := "journalCompacts", fn := fun _ => fun
  | [d1, d2, d3, d4] => { results := [.lit (.bool true)], args := [d1, d2, d3, d4] }
  | _ => none }
def journalCompactsRow : OpenClaim := { program := "ytbefbojeojokjaa", sum := "4911766cbebfaf6d213fafa9ad6a4f39767fd060e89c401561e22a6d29643e22", func := "bootjack/bootjacklaw22.JournalCompacts", spec := "journalCompacts", unfollowed := true, recurses := true, apart := false }
def JournalCompactsSaid : Prop := journalCompactsRow.holds Try.pinned (OpenSpec.ofChange journalCompactsSpec)

/-- ITS FALSE NEIGHBOUR: 'it returns false'. Refute it at one input. -/
def journalCompactsWrong : ChangeSpec := { name := "journalCompacts", fn := fun _ => fun
  | [d1, d2, d3, d4] => { results := [.lit (.bool false)], args := [d1, d2, d3, d4] }
  | _ => none }
def JournalCompactsWrongFalsely : Prop := journalCompactsRow.holds Try.pinned (OpenSpec.ofChange journalCompactsWrong)

/-- 'bootjacklaw22.JournalBack': WHATEVER THE INPUT: true; the input reads as it did. -/
def journalBackSpec : ChangeSpec := { name := "journalBack", fn := fun _ => fun
  | [d] => { results := [.lit (.bool true)], args := [d] }
  | _ => none }
def journalBackRow : OpenClaim := { program := "ytbefbojeojokjaa", sum := "4911766cbebfaf6d213fafa9ad6a4f39767fd060e89c401561e22a6d29643e22", func := "bootjack/bootjacklaw22.JournalBack", spec := "journalBack", unfollowed := true, recurses := true, apart := false }
def JournalBackSaid : Prop := journalBackRow.holds Try.pinned (OpenSpec.ofChange journalBackSpec)

/-- ITS FALSE NEIGHBOUR: 'it returns false'. Refute it at one input. -/
def journalBackWrong : ChangeSpec := { name := "journalBack", fn := fun _ => fun
  | [d] => { results := [.lit (.bool false)], args := [d] }
  | _ => none }
def JournalBackWrongFalsely : Prop := journalBackRow.holds Try.pinned (OpenSpec.ofChange journalBackWrong)

/-- 'bootjacklaw22.JournalWrong': WHATEVER THE INPUT: true; the input reads as it did. -/
def journalWrongSpec : ChangeSpec := { name := "journalWrong", fn := fun _ => fun
  | [d1, d2, d3] => { results := [.lit (.bool true)], args := [d1, d2, d3] }
  | _ => none }
def journalWrongRow : OpenClaim := { program := "ytbefbojeojokjaa", sum := "4911766cbebfaf6d213fafa9ad6a4f39767fd060e89c401561e22a6d29643e22", func := "bootjack/bootjacklaw22.JournalWrong", spec := "journalWrong", unfollowed := true, recurses := true, apart := false }
def JournalWrongSaid : Prop := journalWrongRow.holds Try.pinned (OpenSpec.ofChange journalWrongSpec)

/-- ITS FALSE NEIGHBOUR: 'it returns false'. Refute it at one input. -/
def journalWrongWrong : ChangeSpec := { name := "journalWrong", fn := fun _ => fun
  | [d1, d2, d3] => { results := [.lit (.bool false)], args := [d1, d2, d3] }
  | _ => none }
def JournalWrongWrongFalsely : Prop := journalWrongRow.holds Try.pinned (OpenSpec.ofChange journalWrongWrong)

/-- 'bootjacklaw22.JournalCuts': WHATEVER THE INPUT: true; the input reads as it did. -/
def journalCutsSpec : ChangeSpec := { name := "journalCuts", fn := fun _ => fun
  | [d1, d2, d3, d4, d5] => { results := [.lit (.bool true)], args := [d1, d2, d3, d4, d5] }
  | _ => none }
def journalCutsRow : OpenClaim := { program := "ytbefbojeojokjaa", sum := "4911766cbebfaf6d213fafa9ad6a4f39767fd060e89c401561e22a6d29643e22", func := "bootjack/bootjacklaw22.JournalCuts", spec := "journalCuts", unfollowed := true, recurses := true, apart := false }
def JournalCutsSaid : Prop := journalCutsRow.holds Try.pinned (OpenSpec.ofChange journalCutsSpec)

/-- ITS FALSE NEIGHBOUR: 'it returns false'. Refute it at one input. -/
def journalCutsWrong : ChangeSpec := { name := "journalCuts", fn := fun _ => fun
  | [d1, d2, d3, d4, d5] => { results := [.lit (.bool false)], args := [d1, d2, d3, d4, d5] }
  | _ => none }
def JournalCutsWrongFalsely : Prop := journalCutsRow.holds Try.pinned (OpenSpec.ofChange journalCutsWrong)

/-- 'bootjacklaw23.LedgerTells': WHATEVER THE INPUT: true; the input reads as it did. -/
def ledgerTellsSpec : ChangeSpec := { name := "ledgerTells", fn := fun _ => fun
  | [d1, d2, d3] => { results := [.lit (.bool true)], args := [d1, d2, d3] }
  | _ => none }
def ledgerTellsRow : OpenClaim := { program := "ytbefbojeojokjaa", sum := "4911766cbebfaf6d213fafa9ad6a4f39767fd060e89c401561e22a6d29643e22", func := "bootjack/bootjacklaw23.LedgerTells", spec := "ledgerTells", unfollowed := true, recurses := true, apart := false }
def LedgerTellsSaid : Prop := ledgerTellsRow.holds Try.pinned (OpenSpec.ofChange ledgerTellsSpec)

/-- ITS FALSE NEIGHBOUR: 'it returns false'. Refute it at one input. -/
def ledgerTellsWrong : ChangeSpec := { name := "ledgerTells", fn := fun _ => fun
  | [d1, d2, d3] => { results := [.lit (.bool false)], args := [d1, d2, d3] }
  | _ => none }
def LedgerTellsWrongFalsely : Prop := ledgerTellsRow.holds Try.pinned (OpenSpec.ofChange ledgerTellsWrong)

/-- 'bootjacklaw23.LedgerFolds': WHATEVER THE INPUT: true; the input reads as it did. -/
def ledgerFoldsSpec : ChangeSpec := { name := "ledgerFolds", fn := fun _ => fun
  | [d1, d2] => { results := [.lit (.bool true)], args := [d1, d2] }
  | _ => none }
def ledgerFoldsRow : OpenClaim := { program := "ytbefbojeojokjaa", sum := "4911766cbebfaf6d213fafa9ad6a4f39767fd060e89c401561e22a6d29643e22", func := "bootjack/bootjacklaw23.LedgerFolds", spec := "ledgerFolds", unfollowed := true, recurses := true, apart := false }
def LedgerFoldsSaid : Prop := ledgerFoldsRow.holds Try.pinned (OpenSpec.ofChange ledgerFoldsSpec)

/-- ITS FALSE NEIGHBOUR: 'it returns false'. Refute it at one input. -/
def ledgerFoldsWrong : ChangeSpec := { name := "ledgerFolds", fn := fun _ => fun
  | [d1, d2] => { results := [.lit (.bool false)], args := [d1, d2] }
  | _ => none }
def LedgerFoldsWrongFalsely : Prop := ledgerFoldsRow.holds Try.pinned (OpenSpec.ofChange ledgerFoldsWrong)

/-- 'bootjacklaw23.LedgerBack': WHATEVER THE INPUT: true; the input reads as it did. -/
def ledgerBackSpec : ChangeSpec := { name := "ledgerBack", fn := fun _ => fun
  | [d] => { results := [.lit (.bool true)], args := [d] }
  | _ => none }
def ledgerBackRow : OpenClaim := { program := "ytbefbojeojokjaa", sum := "4911766cbebfaf6d213fafa9ad6a4f39767fd060e89c401561e22a6d29643e22", func := "bootjack/bootjacklaw23.LedgerBack", spec := "ledgerBack", unfollowed := true, recurses := true, apart := false }
def LedgerBackSaid : Prop := ledgerBackRow.holds Try.pinned (OpenSpec.ofChange ledgerBackSpec)

/-- ITS FALSE NEIGHBOUR: 'it returns false'. Refute it at one input. -/
def ledgerBackWrong : ChangeSpec := { name := "ledgerBack", fn := fun _ => fun
  | [d] => { results := [.lit (.bool false)], args := [d] }
  | _ => none }
def LedgerBackWrongFalsely : Prop := ledgerBackRow.holds Try.pinned (OpenSpec.ofChange ledgerBackWrong)

/-- 'bootjacklaw23.LedgerFloor': WHATEVER THE INPUT: true; the input reads as it did. -/
def ledgerFloorSpec : ChangeSpec := { name := "ledgerFloor", fn := fun _ => fun
  | [d1, d2, d3] => { results := [.lit (.bool true)], args := [d1, d2, d3] }
  | _ => none }
def ledgerFloorRow : OpenClaim := { program := "ytbefbojeojokjaa", sum := "4911766cbebfaf6d213fafa9ad6a4f39767fd060e89c401561e22a6d29643e22", func := "bootjack/bootjacklaw23.LedgerFloor", spec := "ledgerFloor", unfollowed := true, recurses := true, apart := false }
def LedgerFloorSaid : Prop := ledgerFloorRow.holds Try.pinned (OpenSpec.ofChange ledgerFloorSpec)

/-- ITS FALSE NEIGHBOUR: 'it returns false'. Refute it at one input. -/
def ledgerFloorWrong : ChangeSpec := { name := "ledgerFloor", fn := fun _ => fun
  | [d1, d2, d3] => { results := [.lit (.bool false)], args := [d1, d2, d3] }
  | _ => none }
def LedgerFloorWrongFalsely : Prop := ledgerFloorRow.holds Try.pinned (OpenSpec.ofChange ledgerFloorWrong)

/-- 'bootjacklaw23.LedgerCuts': WHATEVER THE INPUT: true; the input reads as it did. -/
def ledgerCutsSpec : ChangeSpec := { name := "ledgerCuts", fn := fun _ => fun
  | [d1, d2, d3, d4] => { results := [.lit (.bool true)], args := [d1, d2, d3, d4] }
  | _ => none }
def ledgerCutsRow : OpenClaim := { program := "ytbefbojeojokjaa", sum := "4911766cbebfaf6d213fafa9ad6a4f39767fd060e89c401561e22a6d29643e22", func := "bootjack/bootjacklaw23.LedgerCuts", spec := "ledgerCuts", unfollowed := true, recurses := true, apart := false }
def LedgerCutsSaid : Prop := ledgerCutsRow.holds Try.pinned (OpenSpec.ofChange ledgerCutsSpec)

/-- ITS FALSE NEIGHBOUR: 'it returns false'. Refute it at one input. -/
def ledgerCutsWrong : ChangeSpec := { name := "ledgerCuts", fn := fun _ => fun
  | [d1, d2, d3, d4] => { results := [.lit (.bool false)], args := [d1, d2, d3, d4] }
  | _ => none }
def LedgerCutsWrongFalsely : Prop := ledgerCutsRow.holds Try.pinned (OpenSpec.ofChange ledgerCutsWrong)

/- THE SECOND FORM. 'bulk': how many values and letters a reading holds, each counted each time it is reached (what is shared counts as often as it is met; a slice's spare places count too). A statement '..UptoSaid' is the law's where the arguments, and the package variables that the reading takes, are together of bulk at most 1048576: NARROWER than '..Said'. Prove '..Said' where nothing that the law and all that it calls make is longer than what came in: it says more and counts as full. Else prove '..UptoSaid'. A law counts once. -/
mutual
def uptoBulk {H : Type} : DataW H → Nat
  | .lit (.string bytes) => bytes.length + 1
  | .lit _ => 1
  | .nil => 1
  | .ptr d => uptoBulk d + 1
  | .slice elems spare => uptoBulkAll elems + uptoBulkAll spare + 1
  | .agg parts => uptoBulkAll parts + 1
  | .iface _ d => uptoBulk d + 1
  | .map entries => uptoBulkEntries entries + 1
  | .held _ => 1
def uptoBulkAll {H : Type} : List (DataW H) → Nat
  | [] => 0
  | d :: r => uptoBulk d + uptoBulkAll r
def uptoBulkEntries {H : Type} : List (Lit × DataW H) → Nat
  | [] => 0
  | x :: r => uptoBulkEntry x + uptoBulkEntries r
def uptoBulkEntry {H : Type} : Lit × DataW H → Nat
  | (.string bytes, d) => bytes.length + uptoBulk d + 1
  | (_, d) => uptoBulk d + 1
 end
def uptoSmall : (H : Type) → List (DataW H) → Bool := fun _ ds => decide (uptoBulkAll ds ≤ 1048576)
def OpenSpec.upto (s : _root_.Go.ChangeSpec) : _root_.Go.OpenSpec := { _root_.Go.OpenSpec.ofChange s with cond := some uptoSmall }

/-- 'bootjacklaw22.JournalEpochs', WHERE WHAT IT READS IS OF BULK AT MOST 1048576: true; the input reads as it did. -/
def journalEpochsUptoRow : OpenClaim := { program := "ytbefbojeojokjaa", sum := "4911766cbebfaf6d213fafa9ad6a4f39767fd060e89c401561e22a6d29643e22", func := "bootjack/bootjacklaw22.JournalEpochs", spec := "journalEpochs", unfollowed := true, recurses := true, apart := false, narrowed := true }
def JournalEpochsUptoSaid : Prop := journalEpochsUptoRow.holds Try.pinned (OpenSpec.upto journalEpochsSpec)

/-- 'bootjacklaw22.JournalCompacts', WHERE WHAT IT READS IS OF BULK AT MOST 1048576: true; the input reads as it did. -/
def journalCompactsUptoRow : OpenClaim := { program := "ytbefbojeojokjaa", sum := "4911766cbebfaf6d213fafa9ad6a4f39767fd060e89c401561e22a6d29643e22", func := "bootjack/bootjacklaw22.JournalCompacts", spec := "journalCompacts", unfollowed := true, recurses := true, apart := false, narrowed := true }
def JournalCompactsUptoSaid : Prop := journalCompactsUptoRow.holds Try.pinned (OpenSpec.upto journalCompactsSpec)

/-- 'bootjacklaw22.JournalBack', WHERE WHAT IT READS IS OF BULK AT MOST 1048576: true; the input reads as it did. -/
def journalBackUptoRow : OpenClaim := { program := "ytbefbojeojokjaa", sum := "4911766cbebfaf6d213fafa9ad6a4f39767fd060e89c401561e22a6d29643e22", func := "bootjack/bootjacklaw22.JournalBack", spec := "journalBack", unfollowed := true, recurses := true, apart := false, narrowed := true }
def JournalBackUptoSaid : Prop := journalBackUptoRow.holds Try.pinned (OpenSpec.upto journalBackSpec)

/-- 'bootjacklaw22.JournalWrong', WHERE WHAT IT READS IS OF BULK AT MOST 1048576: true; the input reads as it did. -/
def journalWrongUptoRow : OpenClaim := { program := "ytbefbojeojokjaa", sum := "4911766cbebfaf6d213fafa9ad6a4f39767fd060e89c401561e22a6d29643e22", func := "bootjack/bootjacklaw22.JournalWrong", spec := "journalWrong", unfollowed := true, recurses := true, apart := false, narrowed := true }
def JournalWrongUptoSaid : Prop := journalWrongUptoRow.holds Try.pinned (OpenSpec.upto journalWrongSpec)

/-- 'bootjacklaw22.JournalCuts', WHERE WHAT IT READS IS OF BULK AT MOST 1048576: true; the input reads as it did. -/
def journalCutsUptoRow : OpenClaim := { program := "ytbefbojeojokjaa", sum := "4911766cbebfaf6d213fafa9ad6a4f39767fd060e89c401561e22a6d29643e22", func := "bootjack/bootjacklaw22.JournalCuts", spec := "journalCuts", unfollowed := true, recurses := true, apart := false, narrowed := true }
def JournalCutsUptoSaid : Prop := journalCutsUptoRow.holds Try.pinned (OpenSpec.upto journalCutsSpec)

/-- 'bootjacklaw23.LedgerTells', WHERE WHAT IT READS IS OF BULK AT MOST 1048576: true; the input reads as it did. -/
def ledgerTellsUptoRow : OpenClaim := { program := "ytbefbojeojokjaa", sum := "4911766cbebfaf6d213fafa9ad6a4f39767fd060e89c401561e22a6d29643e22", func := "bootjack/bootjacklaw23.LedgerTells", spec := "ledgerTells", unfollowed := true, recurses := true, apart := false, narrowed := true }
def LedgerTellsUptoSaid : Prop := ledgerTellsUptoRow.holds Try.pinned (OpenSpec.upto ledgerTellsSpec)

/-- 'bootjacklaw23.LedgerFolds', WHERE WHAT IT READS IS OF BULK AT MOST 1048576: true; the input reads as it did. -/
def ledgerFoldsUptoRow : OpenClaim := { program := "ytbefbojeojokjaa", sum := "4911766cbebfaf6d213fafa9ad6a4f39767fd060e89c401561e22a6d29643e22", func := "bootjack/bootjacklaw23.LedgerFolds", spec := "ledgerFolds", unfollowed := true, recurses := true, apart := false, narrowed := true }
def LedgerFoldsUptoSaid : Prop := ledgerFoldsUptoRow.holds Try.pinned (OpenSpec.upto ledgerFoldsSpec)

/-- 'bootjacklaw23.LedgerBack', WHERE WHAT IT READS IS OF BULK AT MOST 1048576: true; the input reads as it did. -/
def ledgerBackUptoRow : OpenClaim := { program := "ytbefbojeojokjaa", sum := "4911766cbebfaf6d213fafa9ad6a4f39767fd060e89c401561e22a6d29643e22", func := "bootjack/bootjacklaw23.LedgerBack", spec := "ledgerBack", unfollowed := true, recurses := true, apart := false, narrowed := true }
def LedgerBackUptoSaid : Prop := ledgerBackUptoRow.holds Try.pinned (OpenSpec.upto ledgerBackSpec)

/-- 'bootjacklaw23.LedgerFloor', WHERE WHAT IT READS IS OF BULK AT MOST 1048576: true; the input reads as it did. -/
def ledgerFloorUptoRow : OpenClaim := { program := "ytbefbojeojokjaa", sum := "4911766cbebfaf6d213fafa9ad6a4f39767fd060e89c401561e22a6d29643e22", func := "bootjack/bootjacklaw23.LedgerFloor", spec := "ledgerFloor", unfollowed := true, recurses := true, apart := false, narrowed := true }
def LedgerFloorUptoSaid : Prop := ledgerFloorUptoRow.holds Try.pinned (OpenSpec.upto ledgerFloorSpec)

/-- 'bootjacklaw23.LedgerCuts', WHERE WHAT IT READS IS OF BULK AT MOST 1048576: true; the input reads as it did. -/
def ledgerCutsUptoRow : OpenClaim := { program := "ytbefbojeojokjaa", sum := "4911766cbebfaf6d213fafa9ad6a4f39767fd060e89c401561e22a6d29643e22", func := "bootjack/bootjacklaw23.LedgerCuts", spec := "ledgerCuts", unfollowed := true, recurses := true, apart := false, narrowed := true }
def LedgerCutsUptoSaid : Prop := ledgerCutsUptoRow.holds Try.pinned (OpenSpec.upto ledgerCutsSpec)

end Rows
end Go.Proofs.Ytbefbojeojokjaa
