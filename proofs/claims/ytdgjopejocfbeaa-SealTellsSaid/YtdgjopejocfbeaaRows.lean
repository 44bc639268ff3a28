/-
  No cell of these rows narrows 'for every input' (looked for: loops, veiled, ifaces, maps, wideKeys, modest, calm, conditions, laid).
  DERIVED. THE GIVEN ROWS OF THIS SEAT. 4 by the template 'for every input the law returns true; each argument reads behind the call as it read before'; 0 by the template 'total and deterministic' (their statements: YtdgjopejocfbeaaTotals.lean).
  GIVEN WITH THE SEED: the statements are not yours to turn. If you find one false, say at which input.
  Laid BY PROGRAM, IN A SANDBOX (cutbox-rows.mjs): the forced cells as the released guide's own fill.sh prints them over the translation af2d7e61a1fdc133… (all of the seat's roots in one cut). By AI agents, Wed Nov 11 2026. No macro, syntax, notation, axiom, sorry.
-/
import Derived.Test.YtdgjopejocfbeaaChecked
import GoSem.Claim
import GoSem.ClaimJoined
import GoSem.ClaimMapViews
import Derived.JoinedTies
import Derived.KernelRfl
namespace Go.Proofs.Ytdgjopejocfbeaa
/- THE CELL 'sum', in the pinned program and in every row, IS THE sha256 OF THE DUMP (.gsa) THAT YtdgjopejocfbeaaProg.lean LOADS. Nothing in Lean hashes anything: it is a label: what it is worth is what the hold of that sum in a sandbox is worth. -/
noncomputable def Try.pinned : Pinned := { name := "ytdgjopejocfbeaa", sum := "af2d7e61a1fdc133423fa94525a8c27ed08d0c3a02b6dcecb3b461ea5bfb607d", checked := Try.checked }
namespace Rows
def none {H : Type} : Left H := { results := [], args := [] }

/-- 'bootjacklaw5.SealTells': WHATEVER THE INPUT: true; the input reads as it did. -/
def sealTellsSpec : ChangeSpec := { name := "sealTells", fn := fun _ => fun
  | [d1, d2, d3] => { results := [.lit (.bool true)], args := [d1, d2, d3] }
  | _ => none }
def sealTellsRow : OpenClaim := { program := "ytdgjopejocfbeaa", sum := "af2d7e61a1fdc133423fa94525a8c27ed08d0c3a02b6dcecb3b461ea5bfb607d", func := "bootjack/bootjacklaw5.SealTells", spec := "sealTells", apart := false }
def SealTellsSaid : Prop := sealTellsRow.holds Try.pinned (OpenSpec.ofChange sealTellsSpec)

/-- ITS FALSE NEIGHBOUR: 'it returns false'. Refute it at one input. -/
def sealTellsWrong : ChangeSpec := { name := "sealTells", fn := fun _ => fun
  | [d1, d2, d3] => { results := [.lit (.bool false)], args := [d1, d2, d3] }
  | _ => none }
def SealTellsWrongFalsely : Prop := sealTellsRow.holds Try.pinned (OpenSpec.ofChange sealTellsWrong)

/-- 'bootjacklaw20.LzPlays': WHATEVER THE INPUT: true; the input reads as it did. -/
def lzPlaysSpec : ChangeSpec := { name := "lzPlays", fn := fun _ => fun
  | [d1, d2] => { results := [.lit (.bool true)], args := [d1, d2] }
  | _ => none }
def lzPlaysRow : OpenClaim := { program := "ytdgjopejocfbeaa", sum := "af2d7e61a1fdc133423fa94525a8c27ed08d0c3a02b6dcecb3b461ea5bfb607d", func := "bootjack/bootjacklaw20.LzPlays", spec := "lzPlays", apart := false }
def LzPlaysSaid : Prop := lzPlaysRow.holds Try.pinned (OpenSpec.ofChange lzPlaysSpec)

/-- ITS FALSE NEIGHBOUR: 'it returns false'. Refute it at one input. -/
def lzPlaysWrong : ChangeSpec := { name := "lzPlays", fn := fun _ => fun
  | [d1, d2] => { results := [.lit (.bool false)], args := [d1, d2] }
  | _ => none }
def LzPlaysWrongFalsely : Prop := lzPlaysRow.holds Try.pinned (OpenSpec.ofChange lzPlaysWrong)

/-- 'bootjacklaw19.TokenReads': WHATEVER THE INPUT: true; the input reads as it did. -/
def tokenReadsSpec : ChangeSpec := { name := "tokenReads", fn := fun _ => fun
  | [d1, d2] => { results := [.lit (.bool true)], args := [d1, d2] }
  | _ => none }
def tokenReadsRow : OpenClaim := { program := "ytdgjopejocfbeaa", sum := "af2d7e61a1fdc133423fa94525a8c27ed08d0c3a02b6dcecb3b461ea5bfb607d", func := "bootjack/bootjacklaw19.TokenReads", spec := "tokenReads", apart := false }
def TokenReadsSaid : Prop := tokenReadsRow.holds Try.pinned (OpenSpec.ofChange tokenReadsSpec)

/-- ITS FALSE NEIGHBOUR: 'it returns false'. Refute it at one input. -/
def tokenReadsWrong : ChangeSpec := { name := "tokenReads", fn := fun _ => fun
  | [d1, d2] => { results := [.lit (.bool false)], args := [d1, d2] }
  | _ => none }
def TokenReadsWrongFalsely : Prop := tokenReadsRow.holds Try.pinned (OpenSpec.ofChange tokenReadsWrong)

/-- 'bootjacklaw19.TokenBack': WHATEVER THE INPUT: true; the input reads as it did. -/
def tokenBackSpec : ChangeSpec := { name := "tokenBack", fn := fun _ => fun
  | [d1, d2] => { results := [.lit (.bool true)], args := [d1, d2] }
  | _ => none }
def tokenBackRow : OpenClaim := { program := "ytdgjopejocfbeaa", sum := "af2d7e61a1fdc133423fa94525a8c27ed08d0c3a02b6dcecb3b461ea5bfb607d", func := "bootjack/bootjacklaw19.TokenBack", spec := "tokenBack", apart := false }
def TokenBackSaid : Prop := tokenBackRow.holds Try.pinned (OpenSpec.ofChange tokenBackSpec)

/-- ITS FALSE NEIGHBOUR: 'it returns false'. Refute it at one input. -/
def tokenBackWrong : ChangeSpec := { name := "tokenBack", fn := fun _ => fun
  | [d1, d2] => { results := [.lit (.bool false)], args := [d1, d2] }
  | _ => none }
def TokenBackWrongFalsely : Prop := tokenBackRow.holds Try.pinned (OpenSpec.ofChange tokenBackWrong)

/- THE SECOND FORM. 'bulk': how many values and letters a reading holds, each counted each time it is reached (what is shared counts as often as it is met; a slice's spare places count too). A statement '..UptoSaid' is the law's where the arguments, and the package variables that the reading takes, are together of bulk at most 1048576: NARROWER than '..Said'. Prove '..Said' where nothing that the law and all that it calls make is longer than what came in: it says more and counts as full. Else prove '..UptoSaid'. A law counts once. -/
mutual
def uptoBulk {H : Type} : DataW H → Nat
  | .lit (.string bytes) => bytes.length + 1
  | .lit _ => 1
  | .nil => 1
  | .ptr d => uptoBulk d + 1
  | .slice elems spare => uptoBulkAll elems + uptoBulkAll spare + 1
  | .agg parts => uptoBulkAll parts + 1
  | .iface _ d => uptoBulk d + 1
  | .map entries => uptoBulkEntries entries + 1
  | .held _ => 1
def uptoBulkAll {H : Type} : List (DataW H) → Nat
  | [] => 0
  | d :: r => uptoBulk d + uptoBulkAll r
def uptoBulkEntries {H : Type} : List (Lit × DataW H) → Nat
  | [] => 0
  | x :: r => uptoBulkEntry x + uptoBulkEntries r
def uptoBulkEntry {H : Type} : Lit × DataW H → Nat
  | (.string bytes, d) => bytes.length + uptoBulk d + 1
  | (_, d) => uptoBulk d + 1
 end
def uptoSmall : (H : Type) → List (DataW H) → Bool := fun _ ds => decide (uptoBulkAll ds ≤ 1048576)
def OpenSpec.upto (s : _root_.Go.ChangeSpec) : _root_.Go.OpenSpec := { _root_.Go.OpenSpec.ofChange s with cond := some uptoSmall }

/-- 'bootjacklaw5.SealTells', WHERE WHAT IT READS IS OF BULK AT MOST 1048576: true; the input reads as it did. -/
def sealTellsUptoRow : OpenClaim := { program := "ytdgjopejocfbeaa", sum := "af2d7e61a1fdc133423fa94525a8c27ed08d0c3a02b6dcecb3b461ea5bfb607d", func := "bootjack/bootjacklaw5.SealTells", spec := "sealTells", apart := false, narrowed := true }
def SealTellsUptoSaid : Prop := sealTellsUptoRow.holds Try.pinned (OpenSpec.upto sealTellsSpec)

/-- 'bootjacklaw20.LzPlays', WHERE WHAT IT READS IS OF BULK AT MOST 1048576: true; the input reads as it did. -/
def lzPlaysUptoRow : OpenClaim := { program := "ytdgjopejocfbeaa", sum := "af2d7e61a1fdc133423fa94525a8c27ed08d0c3a02b6dcecb3b461ea5bfb607d", func := "bootjack/bootjacklaw20.LzPlays", spec := "lzPlays", apart := false, narrowed := true }
def LzPlaysUptoSaid : Prop := lzPlaysUptoRow.holds Try.pinned (OpenSpec.upto lzPlaysSpec)

/-- 'bootjacklaw19.TokenReads', WHERE WHAT IT READS IS OF BULK AT MOST 1048576: true; the input reads as it did. -/
def tokenReadsUptoRow : OpenClaim := { program := "ytdgjopejocfbeaa", sum := "af2d7e61a1fdc133423fa94525a8c27ed08d0c3a02b6dcecb3b461ea5bfb607d", func := "bootjack/bootjacklaw19.TokenReads", spec := "tokenReads", apart := false, narrowed := true }
def TokenReadsUptoSaid : Prop := tokenReadsUptoRow.holds Try.pinned (OpenSpec.upto tokenReadsSpec)

/-- 'bootjacklaw19.TokenBack', WHERE WHAT IT READS IS OF BULK AT MOST 1048576: true; the input reads as it did. -/
def tokenBackUptoRow : OpenClaim := { program := "ytdgjopejocfbeaa", sum := "af2d7e61a1fdc133423fa94525a8c27ed08d0c3a02b6dcecb3b461ea5bfb607d", func := "bootjack/bootjacklaw19.TokenBack", spec := "tokenBack", apart := false, narrowed := true }
def TokenBackUptoSaid : Prop := tokenBackUptoRow.holds Try.pinned (OpenSpec.upto tokenBackSpec)

end Rows
end Go.Proofs.Ytdgjopejocfbeaa
