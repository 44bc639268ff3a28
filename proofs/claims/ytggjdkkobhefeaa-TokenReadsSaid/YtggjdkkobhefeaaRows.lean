/-
  No cell of these rows narrows 'for every input' (looked for: loops, veiled, ifaces, maps, wideKeys, modest, calm, conditions, laid).
  DERIVED. THE GIVEN ROWS OF THIS SEAT. 12 by the template 'for every input the law returns true; each argument reads behind the call as it read before'; 0 by the template 'total and deterministic' (their statements: YtggjdkkobhefeaaTotals.lean).
  GIVEN WITH THE SEED: the statements are not yours to turn. If you find one false, say at which input.
  Laid BY PROGRAM, IN A SANDBOX (cutbox-rows.mjs): the forced cells as the released guide's own fill.sh prints them over the translation 3c15b2060fcc2d8c… (all of the seat's roots in one cut). By AI agents, Wed Nov 11 2026. No macro, syntax, notation, axiom, sorry.
-/
import Derived.Test.YtggjdkkobhefeaaChecked
import GoSem.Claim
import GoSem.ClaimJoined
import GoSem.ClaimMapViews
import Derived.JoinedTies
import Derived.KernelRfl
namespace Go.Proofs.Ytggjdkkobhefeaa
/- THE CELL 'sum', in the pinned program and in every row, IS THE sha256 OF THE DUMP (.gsa) THAT YtggjdkkobhefeaaProg.lean LOADS. Nothing in Lean hashes anything: it is a label: what it is worth is what the hold of that sum in a sandbox is worth. -/
noncomputable def Try.pinned : Pinned := { name := "ytggjdkkobhefeaa", sum := "3c15b2060fcc2d8c0caafb53bddc0b81d9976a6837bb8f08e68a347a9808984a", checked := Try.checked }
namespace Rows
def none {H : Type} : Left H := { results := [], args := [] }

/-- 'bootjacklaw20.LzPlays': WHATEVER THE INPUT: true; the input reads as it did. -/
def lzPlaysSpec : ChangeSpec := { name := "lzPlays", fn := fun _ => fun
  | [d1, d2] => { results := [.lit (.bool true)], args := [d1, d2] }
  | _ => none }
def lzPlaysRow : OpenClaim := { program := "ytggjdkkobhefeaa", sum := "3c15b2060fcc2d8c0caafb53bddc0b81d9976a6837bb8f08e68a347a9808984a", func := "bootjack/bootjacklaw20.LzPlays", spec := "lzPlays", apart := false }
def LzPlaysSaid : Prop := lzPlaysRow.holds Try.pinned (OpenSpec.ofChange lzPlaysSpec)

/-- ITS FALSE NEIGHBOUR: 'it returns false'. Refute it at one input. -/
def lzPlaysWrong : ChangeSpec := { name := "lzPlays", fn := fun _ => fun
  | [d1, d2] => { results := [.lit (.bool false)], args := [d1, d2] }
  | _ => none }
def LzPlaysWrongFalsely : Prop := lzPlaysRow.holds Try.pinned (OpenSpec.ofChange lzPlaysWrong)

/-- 'bootjacklaw20.LzWaits': WHATEVER THE INPUT: true; the input reads as it did. -/
def lzWaitsSpec : ChangeSpec := { name := "lzWaits", fn := fun _ => fun
  | [d1, d2] => { results := [.lit (.bool true)], args := [d1, d2] }
  | _ => none }
def lzWaitsRow : OpenClaim := { program := "ytggjdkkobhefeaa", sum := "3c15b2060fcc2d8c0caafb53bddc0b81d9976a6837bb8f08e68a347a9808984a", func := "bootjack/bootjacklaw20.LzWaits", spec := "lzWaits", apart := false }
def LzWaitsSaid : Prop := lzWaitsRow.holds Try.pinned (OpenSpec.ofChange lzWaitsSpec)

/-- ITS FALSE NEIGHBOUR: 'it returns false'. Refute it at one input. -/
def lzWaitsWrong : ChangeSpec := { name := "lzWaits", fn := fun _ => fun
  | [d1, d2] => { results := [.lit (.bool false)], args := [d1, d2] }
  | _ => none }
def LzWaitsWrongFalsely : Prop := lzWaitsRow.holds Try.pinned (OpenSpec.ofChange lzWaitsWrong)

/-- 'bootjacklaw20.LzNone': WHATEVER THE INPUT: true; the input reads as it did. -/
def lzNoneSpec : ChangeSpec := { name := "lzNone", fn := fun _ => fun
  | [d1, d2] => { results := [.lit (.bool true)], args := [d1, d2] }
  | _ => none }
def lzNoneRow : OpenClaim := { program := "ytggjdkkobhefeaa", sum := "3c15b2060fcc2d8c0caafb53bddc0b81d9976a6837bb8f08e68a347a9808984a", func := "bootjack/bootjacklaw20.LzNone", spec := "lzNone", apart := false }
def LzNoneSaid : Prop := lzNoneRow.holds Try.pinned (OpenSpec.ofChange lzNoneSpec)

/-- ITS FALSE NEIGHBOUR: 'it returns false'. Refute it at one input. -/
def lzNoneWrong : ChangeSpec := { name := "lzNone", fn := fun _ => fun
  | [d1, d2] => { results := [.lit (.bool false)], args := [d1, d2] }
  | _ => none }
def LzNoneWrongFalsely : Prop := lzNoneRow.holds Try.pinned (OpenSpec.ofChange lzNoneWrong)

/-- 'bootjacklaw19.TokenReads': WHATEVER THE INPUT: true; the input reads as it did. -/
def tokenReadsSpec : ChangeSpec := { name := "tokenReads", fn := fun _ => fun
  | [d1, d2] => { results := [.lit (.bool true)], args := [d1, d2] }
  | _ => none }
def tokenReadsRow : OpenClaim := { program := "ytggjdkkobhefeaa", sum := "3c15b2060fcc2d8c0caafb53bddc0b81d9976a6837bb8f08e68a347a9808984a", func := "bootjack/bootjacklaw19.TokenReads", spec := "tokenReads", apart := false }
def TokenReadsSaid : Prop := tokenReadsRow.holds Try.pinned (OpenSpec.ofChange tokenReadsSpec)

/-- ITS FALSE NEIGHBOUR: 'it returns false'. Refute it at one input. -/
def tokenReadsWrong : ChangeSpec := { name := "tokenReads", fn := fun _ => fun
  | [d1, d2] => { results := [.lit (.bool false)], args := [d1, d2] }
  | _ => none }
def TokenReadsWrongFalsely : Prop := tokenReadsRow.holds Try.pinned (OpenSpec.ofChange tokenReadsWrong)

/-- 'bootjacklaw19.TokenBack': WHATEVER THE INPUT: true; the input reads as it did. -/
def tokenBackSpec : ChangeSpec := { name := "tokenBack", fn := fun _ => fun
  | [d1, d2] => { results := [.lit (.bool true)], args := [d1, d2] }
  | _ => none }
def tokenBackRow : OpenClaim := { program := "ytggjdkkobhefeaa", sum := "3c15b2060fcc2d8c0caafb53bddc0b81d9976a6837bb8f08e68a347a9808984a", func := "bootjack/bootjacklaw19.TokenBack", spec := "tokenBack", apart := false }
def TokenBackSaid : Prop := tokenBackRow.holds Try.pinned (OpenSpec.ofChange tokenBackSpec)

/-- ITS FALSE NEIGHBOUR: 'it returns false'. Refute it at one input. -/
def tokenBackWrong : ChangeSpec := { name := "tokenBack", fn := fun _ => fun
  | [d1, d2] => { results := [.lit (.bool false)], args := [d1, d2] }
  | _ => none }
def TokenBackWrongFalsely : Prop := tokenBackRow.holds Try.pinned (OpenSpec.ofChange tokenBackWrong)

/-- 'bootjacklaw19.TokenCuts': WHATEVER THE INPUT: true; the input reads as it did. -/
def tokenCutsSpec : ChangeSpec := { name := "tokenCuts", fn := fun _ => fun
  | [d1, d2, d3] => { results := [.lit (.bool true)], args := [d1, d2, d3] }
  | _ => none }
def tokenCutsRow : OpenClaim := { program := "ytggjdkkobhefeaa", sum := "3c15b2060fcc2d8c0caafb53bddc0b81d9976a6837bb8f08e68a347a9808984a", func := "bootjack/bootjacklaw19.TokenCuts", spec := "tokenCuts", apart := false }
def TokenCutsSaid : Prop := tokenCutsRow.holds Try.pinned (OpenSpec.ofChange tokenCutsSpec)

/-- ITS FALSE NEIGHBOUR: 'it returns false'. Refute it at one input. -/
def tokenCutsWrong : ChangeSpec := { name := "tokenCuts", fn := fun _ => fun
  | [d1, d2, d3] => { results := [.lit (.bool false)], args := [d1, d2, d3] }
  | _ => none }
def TokenCutsWrongFalsely : Prop := tokenCutsRow.holds Try.pinned (OpenSpec.ofChange tokenCutsWrong)

/-- 'bootjacklaw19.TokenCopies': WHATEVER THE INPUT: true; the input reads as it did. -/
def tokenCopiesSpec : ChangeSpec := { name := "tokenCopies", fn := fun _ => fun
  | [d1, d2, d3] => { results := [.lit (.bool true)], args := [d1, d2, d3] }
  | _ => none }
def tokenCopiesRow : OpenClaim := { program := "ytggjdkkobhefeaa", sum := "3c15b2060fcc2d8c0caafb53bddc0b81d9976a6837bb8f08e68a347a9808984a", func := "bootjack/bootjacklaw19.TokenCopies", spec := "tokenCopies", apart := false }
def TokenCopiesSaid : Prop := tokenCopiesRow.holds Try.pinned (OpenSpec.ofChange tokenCopiesSpec)

/-- ITS FALSE NEIGHBOUR: 'it returns false'. Refute it at one input. -/
def tokenCopiesWrong : ChangeSpec := { name := "tokenCopies", fn := fun _ => fun
  | [d1, d2, d3] => { results := [.lit (.bool false)], args := [d1, d2, d3] }
  | _ => none }
def TokenCopiesWrongFalsely : Prop := tokenCopiesRow.holds Try.pinned (OpenSpec.ofChange tokenCopiesWrong)

/-- 'bootjacklaw20.LzParts': WHATEVER THE INPUT: true; the input reads as it did. -/
def lzPartsSpec : ChangeSpec := { name := "lzParts", fn := fun _ => fun
  | [d1, d2, d3] => { results := [.lit (.bool true)], args := [d1, d2, d3] }
  | _ => none }
def lzPartsRow : OpenClaim := { program := "ytggjdkkobhefeaa", sum := "3c15b2060fcc2d8c0caafb53bddc0b81d9976a6837bb8f08e68a347a9808984a", func := "bootjack/bootjacklaw20.LzParts", spec := "lzParts", apart := false }
def LzPartsSaid : Prop := lzPartsRow.holds Try.pinned (OpenSpec.ofChange lzPartsSpec)

/-- ITS FALSE NEIGHBOUR: 'it returns false'. Refute it at one input. -/
def lzPartsWrong : ChangeSpec := { name := "lzParts", fn := fun _ => fun
  | [d1, d2, d3] => { results := [.lit (.bool false)], args := [d1, d2, d3] }
  | _ => none }
def LzPartsWrongFalsely : Prop := lzPartsRow.holds Try.pinned (OpenSpec.ofChange lzPartsWrong)

/-- 'bootjacklaw20.LzJudges': WHATEVER THE INPUT: true; the input reads as it did. -/
def lzJudgesSpec : ChangeSpec := { name := "lzJudges", fn := fun _ => fun
  | [d1, d2, d3, d4] => { results := [.lit (.bool true)], args := [d1, d2, d3, d4] }
  | _ => none }
def lzJudgesRow : OpenClaim := { program := "ytggjdkkobhefeaa", sum := "3c15b2060fcc2d8c0caafb53bddc0b81d9976a6837bb8f08e68a347a9808984a", func := "bootjack/bootjacklaw20.LzJudges", spec := "lzJudges", apart := false }
def LzJudgesSaid : Prop := lzJudgesRow.holds Try.pinned (OpenSpec.ofChange lzJudgesSpec)

/-- ITS FALSE NEIGHBOUR: 'it returns false'. Refute it at one input. -/
def lzJudgesWrong : ChangeSpec := { name := "lzJudges", fn := fun _ => fun
  | [d1, d2, d3, d4] => { results := [.lit (.bool false)], args := [d1, d2, d3, d4] }
  | _ => none }
def LzJudgesWrongFalsely : Prop := lzJudgesRow.holds Try.pinned (OpenSpec.ofChange lzJudgesWrong)

/-- 'bootjacklaw21.SqueezeBack': WHATEVER THE INPUT: true; the input reads as it did. -/
def squeezeBackSpec : ChangeSpec := { name := "squeezeBack", fn := fun _ => fun
  | [d] => { results := [.lit (.bool true)], args := [d] }
  | _ => none }
def squeezeBackRow : OpenClaim := { program := "ytggjdkkobhefeaa", sum := "3c15b2060fcc2d8c0caafb53bddc0b81d9976a6837bb8f08e68a347a9808984a", func := "bootjack/bootjacklaw21.SqueezeBack", spec := "squeezeBack", apart := false }
def SqueezeBackSaid : Prop := squeezeBackRow.holds Try.pinned (OpenSpec.ofChange squeezeBackSpec)

/-- ITS FALSE NEIGHBOUR: 'it returns false'. Refute it at one input. -/
def squeezeBackWrong : ChangeSpec := { name := "squeezeBack", fn := fun _ => fun
  | [d] => { results := [.lit (.bool false)], args := [d] }
  | _ => none }
def SqueezeBackWrongFalsely : Prop := squeezeBackRow.holds Try.pinned (OpenSpec.ofChange squeezeBackWrong)

/-- 'bootjacklaw5.SealTells': WHATEVER THE INPUT: true; the input reads as it did. -/
def sealTellsSpec : ChangeSpec := { name := "sealTells", fn := fun _ => fun
  | [d1, d2, d3] => { results := [.lit (.bool true)], args := [d1, d2, d3] }
  | _ => none }
def sealTellsRow : OpenClaim := { program := "ytggjdkkobhefeaa", sum := "3c15b2060fcc2d8c0caafb53bddc0b81d9976a6837bb8f08e68a347a9808984a", func := "bootjack/bootjacklaw5.SealTells", spec := "sealTells", apart := false }
def SealTellsSaid : Prop := sealTellsRow.holds Try.pinned (OpenSpec.ofChange sealTellsSpec)

/-- ITS FALSE NEIGHBOUR: 'it returns false'. Refute it at one input. -/
def sealTellsWrong : ChangeSpec := { name := "sealTells", fn := fun _ => fun
  | [d1, d2, d3] => { results := [.lit (.bool false)], args := [d1, d2, d3] }
  | _ => none }
def SealTellsWrongFalsely : Prop := sealTellsRow.holds Try.pinned (OpenSpec.ofChange sealTellsWrong)

/-- 'bootjacklaw19.TokenOnly': WHATEVER THE INPUT: true; the input reads as it did. -/
def tokenOnlySpec : ChangeSpec := { name := "tokenOnly", fn := fun _ => fun
  | [d1, d2] => { results := [.lit (.bool true)], args := [d1, d2] }
  | _ => none }
def tokenOnlyRow : OpenClaim := { program := "ytggjdkkobhefeaa", sum := "3c15b2060fcc2d8c0caafb53bddc0b81d9976a6837bb8f08e68a347a9808984a", func := "bootjack/bootjacklaw19.TokenOnly", spec := "tokenOnly", apart := false }
def TokenOnlySaid : Prop := tokenOnlyRow.holds Try.pinned (OpenSpec.ofChange tokenOnlySpec)

/-- ITS FALSE NEIGHBOUR: 'it returns false'. Refute it at one input. -/
def tokenOnlyWrong : ChangeSpec := { name := "tokenOnly", fn := fun _ => fun
  | [d1, d2] => { results := [.lit (.bool false)], args := [d1, d2] }
  | _ => none }
def TokenOnlyWrongFalsely : Prop := tokenOnlyRow.holds Try.pinned (OpenSpec.ofChange tokenOnlyWrong)

/- THE SECOND FORM. 'bulk': how many values and letters a reading holds, each counted each time it is reached (what is shared counts as often as it is met; a slice's spare places count too). A statement '..UptoSaid' is the law's where the arguments, and the package variables that the reading takes, are together of bulk at most 1048576: NARROWER than '..Said'. Prove '..Said' where nothing that the law and all that it calls make is longer than what came in: it says more and counts as full. Else prove '..UptoSaid'. A law counts once. -/
mutual
def uptoBulk {H : Type} : DataW H → Nat
  | .lit (.string bytes) => bytes.length + 1
  | .lit _ => 1
  | .nil => 1
  | .ptr d => uptoBulk d + 1
  | .slice elems spare => uptoBulkAll elems + uptoBulkAll spare + 1
  | .agg parts => uptoBulkAll parts + 1
  | .iface _ d => uptoBulk d + 1
  | .map entries => uptoBulkEntries entries + 1
  | .held _ => 1
def uptoBulkAll {H : Type} : List (DataW H) → Nat
  | [] => 0
  | d :: r => uptoBulk d + uptoBulkAll r
def uptoBulkEntries {H : Type} : List (Lit × DataW H) → Nat
  | [] => 0
  | x :: r => uptoBulkEntry x + uptoBulkEntries r
def uptoBulkEntry {H : Type} : Lit × DataW H → Nat
  | (.string bytes, d) => bytes.length + uptoBulk d + 1
  | (_, d) => uptoBulk d + 1
 end
def uptoSmall : (H : Type) → List (DataW H) → Bool := fun _ ds => decide (uptoBulkAll ds ≤ 1048576)
def OpenSpec.upto (s : _root_.Go.ChangeSpec) : _root_.Go.OpenSpec := { _root_.Go.OpenSpec.ofChange s with cond := some uptoSmall }

/-- 'bootjacklaw20.LzPlays', WHERE WHAT IT READS IS OF BULK AT MOST 1048576: true; the input reads as it did. -/
def lzPlaysUptoRow : OpenClaim := { program := "ytggjdkkobhefeaa", sum := "3c15b2060fcc2d8c0caafb53bddc0b81d9976a6837bb8f08e68a347a9808984a", func := "bootjack/bootjacklaw20.LzPlays", spec := "lzPlays", apart := false, narrowed := true }
def LzPlaysUptoSaid : Prop := lzPlaysUptoRow.holds Try.pinned (OpenSpec.upto lzPlaysSpec)

/-- 'bootjacklaw20.LzWaits', WHERE WHAT IT READS IS OF BULK AT MOST 1048576: true; the input reads as it did. -/
def lzWaitsUptoRow : OpenClaim := { program := "ytggjdkkobhefeaa", sum := "3c15b2060fcc2d8c0caafb53bddc0b81d9976a6837bb8f08e68a347a9808984a", func := "bootjack/bootjacklaw20.LzWaits", spec := "lzWaits", apart := false, narrowed := true }
def LzWaitsUptoSaid : Prop := lzWaitsUptoRow.holds Try.pinned (OpenSpec.upto lzWaitsSpec)

/-- 'bootjacklaw20.LzNone', WHERE WHAT IT READS IS OF BULK AT MOST 1048576: true; the input reads as it did. -/
def lzNoneUptoRow : OpenClaim := { program := "ytggjdkkobhefeaa", sum := "3c15b2060fcc2d8c0caafb53bddc0b81d9976a6837bb8f08e68a347a9808984a", func := "bootjack/bootjacklaw20.LzNone", spec := "lzNone", apart := false, narrowed := true }
def LzNoneUptoSaid : Prop := lzNoneUptoRow.holds Try.pinned (OpenSpec.upto lzNoneSpec)

/-- 'bootjacklaw19.TokenReads', WHERE WHAT IT READS IS OF BULK AT MOST 1048576: true; the input reads as it did. -/
def tokenReadsUptoRow : OpenClaim := { program := "ytggjdkkobhefeaa", sum := "3c15b2060fcc2d8c0caafb53bddc0b81d9976a6837bb8f08e68a347a9808984a", func := "bootjack/bootjacklaw19.TokenReads", spec := "tokenReads", apart := false, narrowed := true }
def TokenReadsUptoSaid : Prop := tokenReadsUptoRow.holds Try.pinned (OpenSpec.upto tokenReadsSpec)

/-- 'bootjacklaw19.TokenBack', WHERE WHAT IT READS IS OF BULK AT MOST 1048576: true; the input reads as it did. -/
def tokenBackUptoRow : OpenClaim := { program := "ytggjdkkobhefeaa", sum := "3c15b2060fcc2d8c0caafb53bddc0b81d9976a6837bb8f08e68a347a9808984a", func := "bootjack/bootjacklaw19.TokenBack", spec := "tokenBack", apart := false, narrowed := true }
def TokenBackUptoSaid : Prop := tokenBackUptoRow.holds Try.pinned (OpenSpec.upto tokenBackSpec)

/-- 'bootjacklaw19.TokenCuts', WHERE WHAT IT READS IS OF BULK AT MOST 1048576: true; the input reads as it did. -/
def tokenCutsUptoRow : OpenClaim := { program := "ytggjdkkobhefeaa", sum := "3c15b2060fcc2d8c0caafb53bddc0b81d9976a6837bb8f08e68a347a9808984a", func := "bootjack/bootjacklaw19.TokenCuts", spec := "tokenCuts", apart := false, narrowed := true }
def TokenCutsUptoSaid : Prop := tokenCutsUptoRow.holds Try.pinned (OpenSpec.upto tokenCutsSpec)

/-- 'bootjacklaw19.TokenCopies', WHERE WHAT IT READS IS OF BULK AT MOST 1048576: true; the input reads as it did. -/
def tokenCopiesUptoRow : OpenClaim := { program := "ytggjdkkobhefeaa", sum := "3c15b2060fcc2d8c0caafb53bddc0b81d9976a6837bb8f08e68a347a9808984a", func := "bootjack/bootjacklaw19.TokenCopies", spec := "tokenCopies", apart := false, narrowed := true }
def TokenCopiesUptoSaid : Prop := tokenCopiesUptoRow.holds Try.pinned (OpenSpec.upto tokenCopiesSpec)

/-- 'bootjacklaw20.LzParts', WHERE WHAT IT READS IS OF BULK AT MOST 1048576: true; the input reads as it did. -/
def lzPartsUptoRow : OpenClaim := { program := "ytggjdkkobhefeaa", sum := "3c15b2060fcc2d8c0caafb53bddc0b81d9976a6837bb8f08e68a347a9808984a", func := "bootjack/bootjacklaw20.LzParts", spec := "lzParts", apart := false, narrowed := true }
def LzPartsUptoSaid : Prop := lzPartsUptoRow.holds Try.pinned (OpenSpec.upto lzPartsSpec)

/-- 'bootjacklaw20.LzJudges', WHERE WHAT IT READS IS OF BULK AT MOST 1048576: true; the input reads as it did. -/
def lzJudgesUptoRow : OpenClaim := { program := "ytggjdkkobhefeaa", sum := "3c15b2060fcc2d8c0caafb53bddc0b81d9976a6837bb8f08e68a347a9808984a", func := "bootjack/bootjacklaw20.LzJudges", spec := "lzJudges", apart := false, narrowed := true }
def LzJudgesUptoSaid : Prop := lzJudgesUptoRow.holds Try.pinned (OpenSpec.upto lzJudgesSpec)

/-- 'bootjacklaw21.SqueezeBack', WHERE WHAT IT READS IS OF BULK AT MOST 1048576: true; the input reads as it did. -/
def squeezeBackUptoRow : OpenClaim := { program := "ytggjdkkobhefeaa", sum := "3c15b2060fcc2d8c0caafb53bddc0b81d9976a6837bb8f08e68a347a9808984a", func := "bootjack/bootjacklaw21.SqueezeBack", spec := "squeezeBack", apart := false, narrowed := true }
def SqueezeBackUptoSaid : Prop := squeezeBackUptoRow.holds Try.pinned (OpenSpec.upto squeezeBackSpec)

/-- 'bootjacklaw5.SealTells', WHERE WHAT IT READS IS OF BULK AT MOST 1048576: true; the input reads as it did. -/
def sealTellsUptoRow : OpenClaim := { program := "ytggjdkkobhefeaa", sum := "3c15b2060fcc2d8c0caafb53bddc0b81d9976a6837bb8f08e68a347a9808984a", func := "bootjack/bootjacklaw5.SealTells", spec := "sealTells", apart := false, narrowed := true }
def SealTellsUptoSaid : Prop := sealTellsUptoRow.holds Try.pinned (OpenSpec.upto sealTellsSpec)

/-- 'bootjacklaw19.TokenOnly', WHERE WHAT IT READS IS OF BULK AT MOST 1048576: true; the input reads as it did. -/
def tokenOnlyUptoRow : OpenClaim := { program := "ytggjdkkobhefeaa", sum := "3c15b2060fcc2d8c0caafb53bddc0b81d9976a6837bb8f08e68a347a9808984a", func := "bootjack/bootjacklaw19.TokenOnly", spec := "tokenOnly", apart := false, narrowed := true }
def TokenOnlyUptoSaid : Prop := tokenOnlyUptoRow.holds Try.pinned (OpenSpec.upto tokenOnlySpec)

end Rows
end Go.Proofs.Ytggjdkkobhefeaa
