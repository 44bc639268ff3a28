/-
  No cell of these rows narrows 'for every input' (looked for: loops, veiled, ifaces, maps, wideKeys, modest, calm, conditions, laid).
  DERIVED. THE GIVEN ROWS OF THIS SEAT. 16 by the template 'for every input the law returns true; each argument reads behind the call as it read before'; 0 by the template 'total and deterministic' (their statements: YtknjmpeopikffaaTotals.lean).
  GIVEN WITH THE SEED: the statements are not yours to turn. If you find one false, say at which input.
  Laid BY PROGRAM, IN A SANDBOX (cutbox-rows.mjs): the forced cells as the released guide's own fill.sh prints them over the translation 23a3edb833f74874… (all of the seat's roots in one cut). By AI agents, Wed Nov 11 2026. No macro, syntax, notation, axiom, sorry.
-/
import Derived.Test.YtknjmpeopikffaaChecked
import GoSem.Claim
import GoSem.ClaimJoined
import GoSem.ClaimMapViews
import Derived.JoinedTies
import Derived.KernelRfl
namespace Go.Proofs.Ytknjmpeopikffaa
/- THE CELL 'sum', in the pinned program and in every row, IS THE sha256 OF THE DUMP (.gsa) THAT YtknjmpeopikffaaProg.lean LOADS. Nothing in Lean hashes anything: it is a label: what it is worth is what the hold of that sum in a sandbox is worth. -/
noncomputable def Try.pinned : Pinned := { name := "ytknjmpeopikffaa", sum := "23a3edb833f74874a78ccc3304c16cdf6aaa4c0d19cf698724d7bc143470e5ba", checked := Try.checked }
namespace Rows
def none {H : Type} : Left H := { results := [], args := [] }

/-- 'bootjacklaw20.LzPlays': WHATEVER THE INPUT: true; the input reads as it did. -/
def lzPlaysSpec : ChangeSpec := { name := "lzPlays", fn := fun _ => fun
  | [d1, d2] => { results := [.lit (.bool true)], args := [d1, d2] }
  | _ => none }
def lzPlaysRow : OpenClaim := { program := "ytknjmpeopikffaa", sum := "23a3edb833f74874a78ccc3304c16cdf6aaa4c0d19cf698724d7bc143470e5ba", func := "bootjack/bootjacklaw20.LzPlays", spec := "lzPlays", apart := false }
def LzPlaysSaid : Prop := lzPlaysRow.holds Try.pinned (OpenSpec.ofChange lzPlaysSpec)

/-- ITS FALSE NEIGHBOUR: 'it returns false'. Refute it at one input. -/
def lzPlaysWrong : ChangeSpec := { name := "lzPlays", fn := fun _ => fun
  | [d1, d2] => { results := [.lit (.bool false)], args := [d1, d2] }
  | _ => none }
def LzPlaysWrongFalsely : Prop := lzPlaysRow.holds Try.pinned (OpenSpec.ofChange lzPlaysWrong)

/-- 'bootjacklaw20.LzWaits': WHATEVER THE INPUT: true; the input reads as it did. -/
def lzWaitsSpec : ChangeSpec := { name := "lzWaits", fn := fun _ => fun
  | [d1, d2] => { results := [.lit (.bool true)], args := [d1, d2] }
  | _ => none }
def lzWaitsRow : OpenClaim := { program := "ytknjmpeopikffaa", sum := "23a3edb833f74874a78ccc3304c16cdf6aaa4c0d19cf698724d7bc143470e5ba", func := "bootjack/bootjacklaw20.LzWaits", spec := "lzWaits", apart := false }
def LzWaitsSaid : Prop := lzWaitsRow.holds Try.pinned (OpenSpec.ofChange lzWaitsSpec)

/-- ITS FALSE NEIGHBOUR: 'it returns false'. Refute it at one input. -/
def lzWaitsWrong : ChangeSpec := { name := "lzWaits", fn := fun _ => fun
  | [d1, d2] => { results := [.lit (.bool false)], args := [d1, d2] }
  | _ => none }
def LzWaitsWrongFalsely : Prop := lzWaitsRow.holds Try.pinned (OpenSpec.ofChange lzWaitsWrong)

/-- 'bootjacklaw20.LzNone': WHATEVER THE INPUT: true; the input reads as it did. -/
def lzNoneSpec : ChangeSpec := { name := "lzNone", fn := fun _ => fun
  | [d1, d2] => { results := [.lit (.bool true)], args := [d1, d2] }
  | _ => none }
def lzNoneRow : OpenClaim := { program := "ytknjmpeopikffaa", sum := "23a3edb833f74874a78ccc3304c16cdf6aaa4c0d19cf698724d7bc143470e5ba", func := "bootjack/bootjacklaw20.LzNone", spec := "lzNone", apart := false }
def LzNoneSaid : Prop := lzNoneRow.holds Try.pinned (OpenSpec.ofChange lzNoneSpec)

/-- ITS FALSE NEIGHBOUR: 'it returns false'. Refute it at one input. -/
def lzNoneWrong : ChangeSpec := { name := "lzNone", fn := fun _ => fun
  | [d1, d2] => { results := [.lit (.bool false)], args := [d1, d2] }
  | _ => none }
def LzNoneWrongFalsely : Prop := lzNoneRow.holds Try.pinned (OpenSpec.ofChange lzNoneWrong)

/-- 'bootjacklaw19.TokenTells': WHATEVER THE INPUT: true; the input reads as it did. -/
def tokenTellsSpec : ChangeSpec := { name := "tokenTells", fn := fun _ => fun
  | [d] => { results := [.lit (.bool true)], args := [d] }
  | _ => none }
def tokenTellsRow : OpenClaim := { program := "ytknjmpeopikffaa", sum := "23a3edb833f74874a78ccc3304c16cdf6aaa4c0d19cf698724d7bc143470e5ba", func := "bootjack/bootjacklaw19.TokenTells", spec := "tokenTells", apart := false }
def TokenTellsSaid : Prop := tokenTellsRow.holds Try.pinned (OpenSpec.ofChange tokenTellsSpec)

/-- ITS FALSE NEIGHBOUR: 'it returns false'. Refute it at one input. -/
def tokenTellsWrong : ChangeSpec := { name := "tokenTells", fn := fun _ => fun
  | [d] => { results := [.lit (.bool false)], args := [d] }
  | _ => none }
def TokenTellsWrongFalsely : Prop := tokenTellsRow.holds Try.pinned (OpenSpec.ofChange tokenTellsWrong)

/-- 'bootjacklaw19.TokenReads': WHATEVER THE INPUT: true; the input reads as it did. -/
def tokenReadsSpec : ChangeSpec := { name := "tokenReads", fn := fun _ => fun
  | [d1, d2] => { results := [.lit (.bool true)], args := [d1, d2] }
  | _ => none }
def tokenReadsRow : OpenClaim := { program := "ytknjmpeopikffaa", sum := "23a3edb833f74874a78ccc3304c16cdf6aaa4c0d19cf698724d7bc143470e5ba", func := "bootjack/bootjacklaw19.TokenReads", spec := "tokenReads", apart := false }
def TokenReadsSaid : Prop := tokenReadsRow.holds Try.pinned (OpenSpec.ofChange tokenReadsSpec)

/-- ITS FALSE NEIGHBOUR: 'it returns false'. Refute it at one input. -/
def tokenReadsWrong : ChangeSpec := { name := "tokenReads", fn := fun _ => fun
  | [d1, d2] => { results := [.lit (.bool false)], args := [d1, d2] }
  | _ => none }
def TokenReadsWrongFalsely : Prop := tokenReadsRow.holds Try.pinned (OpenSpec.ofChange tokenReadsWrong)

/-- 'bootjacklaw19.TokenBack': WHATEVER THE INPUT: true; the input reads as it did. -/
def tokenBackSpec : ChangeSpec := { name := "tokenBack", fn := fun _ => fun
  | [d1, d2] => { results := [.lit (.bool true)], args := [d1, d2] }
  | _ => none }
def tokenBackRow : OpenClaim := { program := "ytknjmpeopikffaa", sum := "23a3edb833f74874a78ccc3304c16cdf6aaa4c0d19cf698724d7bc143470e5ba", func := "bootjack/bootjacklaw19.TokenBack", spec := "tokenBack", apart := false }
def TokenBackSaid : Prop := tokenBackRow.holds Try.pinned (OpenSpec.ofChange tokenBackSpec)

/-- ITS FALSE NEIGHBOUR: 'it returns false'. Refute it at one input. -/
def tokenBackWrong : ChangeSpec := { name := "tokenBack", fn := fun _ => fun
  | [d1, d2] => { results := [.lit (.bool false)], args := [d1, d2] }
  | _ => none }
def TokenBackWrongFalsely : Prop := tokenBackRow.holds Try.pinned (OpenSpec.ofChange tokenBackWrong)

/-- 'bootjacklaw19.TokenCuts': WHATEVER THE INPUT: true; the input reads as it did. -/
def tokenCutsSpec : ChangeSpec := { name := "tokenCuts", fn := fun _ => fun
  | [d1, d2, d3] => { results := [.lit (.bool true)], args := [d1, d2, d3] }
  | _ => none }
def tokenCutsRow : OpenClaim := { program := "ytknjmpeopikffaa", sum := "23a3edb833f74874a78ccc3304c16cdf6aaa4c0d19cf698724d7bc143470e5ba", func := "bootjack/bootjacklaw19.TokenCuts", spec := "tokenCuts", apart := false }
def TokenCutsSaid : Prop := tokenCutsRow.holds Try.pinned (OpenSpec.ofChange tokenCutsSpec)

/-- ITS FALSE NEIGHBOUR: 'it returns false'. Refute it at one input. -/
def tokenCutsWrong : ChangeSpec := { name := "tokenCuts", fn := fun _ => fun
  | [d1, d2, d3] => { results := [.lit (.bool false)], args := [d1, d2, d3] }
  | _ => none }
def TokenCutsWrongFalsely : Prop := tokenCutsRow.holds Try.pinned (OpenSpec.ofChange tokenCutsWrong)

/-- 'bootjacklaw19.TokenOnly': WHATEVER THE INPUT: true; the input reads as it did. -/
def tokenOnlySpec : ChangeSpec := { name := "tokenOnly", fn := fun _ => fun
  | [d1, d2] => { results := [.lit (.bool true)], args := [d1, d2] }
  | _ => none }
def tokenOnlyRow : OpenClaim := { program := "ytknjmpeopikffaa", sum := "23a3edb833f74874a78ccc3304c16cdf6aaa4c0d19cf698724d7bc143470e5ba", func := "bootjack/bootjacklaw19.TokenOnly", spec := "tokenOnly", apart := false }
def TokenOnlySaid : Prop := tokenOnlyRow.holds Try.pinned (OpenSpec.ofChange tokenOnlySpec)

/-- ITS FALSE NEIGHBOUR: 'it returns false'. Refute it at one input. -/
def tokenOnlyWrong : ChangeSpec := { name := "tokenOnly", fn := fun _ => fun
  | [d1, d2] => { results := [.lit (.bool false)], args := [d1, d2] }
  | _ => none }
def TokenOnlyWrongFalsely : Prop := tokenOnlyRow.holds Try.pinned (OpenSpec.ofChange tokenOnlyWrong)

/-- 'bootjacklaw19.TokenCopies': WHATEVER THE INPUT: true; the input reads as it did. -/
def tokenCopiesSpec : ChangeSpec := { name := "tokenCopies", fn := fun _ => fun
  | [d1, d2, d3] => { results := [.lit (.bool true)], args := [d1, d2, d3] }
  | _ => none }
def tokenCopiesRow : OpenClaim := { program := "ytknjmpeopikffaa", sum := "23a3edb833f74874a78ccc3304c16cdf6aaa4c0d19cf698724d7bc143470e5ba", func := "bootjack/bootjacklaw19.TokenCopies", spec := "tokenCopies", apart := false }
def TokenCopiesSaid : Prop := tokenCopiesRow.holds Try.pinned (OpenSpec.ofChange tokenCopiesSpec)

/-- ITS FALSE NEIGHBOUR: 'it returns false'. Refute it at one input. -/
def tokenCopiesWrong : ChangeSpec := { name := "tokenCopies", fn := fun _ => fun
  | [d1, d2, d3] => { results := [.lit (.bool false)], args := [d1, d2, d3] }
  | _ => none }
def TokenCopiesWrongFalsely : Prop := tokenCopiesRow.holds Try.pinned (OpenSpec.ofChange tokenCopiesWrong)

/-- 'bootjacklaw20.LzParts': WHATEVER THE INPUT: true; the input reads as it did. -/
def lzPartsSpec : ChangeSpec := { name := "lzParts", fn := fun _ => fun
  | [d1, d2, d3] => { results := [.lit (.bool true)], args := [d1, d2, d3] }
  | _ => none }
def lzPartsRow : OpenClaim := { program := "ytknjmpeopikffaa", sum := "23a3edb833f74874a78ccc3304c16cdf6aaa4c0d19cf698724d7bc143470e5ba", func := "bootjack/bootjacklaw20.LzParts", spec := "lzParts", apart := false }
def LzPartsSaid : Prop := lzPartsRow.holds Try.pinned (OpenSpec.ofChange lzPartsSpec)

/-- ITS FALSE NEIGHBOUR: 'it returns false'. Refute it at one input. -/
def lzPartsWrong : ChangeSpec := { name := "lzParts", fn := fun _ => fun
  | [d1, d2, d3] => { results := [.lit (.bool false)], args := [d1, d2, d3] }
  | _ => none }
def LzPartsWrongFalsely : Prop := lzPartsRow.holds Try.pinned (OpenSpec.ofChange lzPartsWrong)

/-- 'bootjacklaw20.LzJudges': WHATEVER THE INPUT: true; the input reads as it did. -/
def lzJudgesSpec : ChangeSpec := { name := "lzJudges", fn := fun _ => fun
  | [d1, d2, d3, d4] => { results := [.lit (.bool true)], args := [d1, d2, d3, d4] }
  | _ => none }
def lzJudgesRow : OpenClaim := { program := "ytknjmpeopikffaa", sum := "23a3edb833f74874a78ccc3304c16cdf6aaa4c0d19cf698724d7bc143470e5ba", func := "bootjack/bootjacklaw20.LzJudges", spec := "lzJudges", apart := false }
def LzJudgesSaid : Prop := lzJudgesRow.holds Try.pinned (OpenSpec.ofChange lzJudgesSpec)

/-- ITS FALSE NEIGHBOUR: 'it returns false'. Refute it at one input. -/
def lzJudgesWrong : ChangeSpec := { name := "lzJudges", fn := fun _ => fun
  | [d1, d2, d3, d4] => { results := [.lit (.bool false)], args := [d1, d2, d3, d4] }
  | _ => none }
def LzJudgesWrongFalsely : Prop := lzJudgesRow.holds Try.pinned (OpenSpec.ofChange lzJudgesWrong)

/-- 'bootjacklaw21.SqueezeRounds': WHATEVER THE INPUT: true; the input reads as it did. -/
def squeezeRoundsSpec : ChangeSpec := { name := "squeezeRounds", fn := fun _ => fun
  | [d1, d2, d3] => { results := [.lit (.bool true)], args := [d1, d2, d3] }
  | _ => none }
def squeezeRoundsRow : OpenClaim := { program := "ytknjmpeopikffaa", sum := "23a3edb833f74874a78ccc3304c16cdf6aaa4c0d19cf698724d7bc143470e5ba", func := "bootjack/bootjacklaw21.SqueezeRounds", spec := "squeezeRounds", apart := false }
def SqueezeRoundsSaid : Prop := squeezeRoundsRow.holds Try.pinned (OpenSpec.ofChange squeezeRoundsSpec)

/-- ITS FALSE NEIGHBOUR: 'it returns false'. Refute it at one input. -/
def squeezeRoundsWrong : ChangeSpec := { name := "squeezeRounds", fn := fun _ => fun
  | [d1, d2, d3] => { results := [.lit (.bool false)], args := [d1, d2, d3] }
  | _ => none }
def SqueezeRoundsWrongFalsely : Prop := squeezeRoundsRow.holds Try.pinned (OpenSpec.ofChange squeezeRoundsWrong)

/-- 'bootjacklaw21.SqueezeTells': WHATEVER THE INPUT: true; the input reads as it did. -/
def squeezeTellsSpec : ChangeSpec := { name := "squeezeTells", fn := fun _ => fun
  | [d1, d2] => { results := [.lit (.bool true)], args := [d1, d2] }
  | _ => none }
def squeezeTellsRow : OpenClaim := { program := "ytknjmpeopikffaa", sum := "23a3edb833f74874a78ccc3304c16cdf6aaa4c0d19cf698724d7bc143470e5ba", func := "bootjack/bootjacklaw21.SqueezeTells", spec := "squeezeTells", apart := false }
def SqueezeTellsSaid : Prop := squeezeTellsRow.holds Try.pinned (OpenSpec.ofChange squeezeTellsSpec)

/-- ITS FALSE NEIGHBOUR: 'it returns false'. Refute it at one input. -/
def squeezeTellsWrong : ChangeSpec := { name := "squeezeTells", fn := fun _ => fun
  | [d1, d2] => { results := [.lit (.bool false)], args := [d1, d2] }
  | _ => none }
def SqueezeTellsWrongFalsely : Prop := squeezeTellsRow.holds Try.pinned (OpenSpec.ofChange squeezeTellsWrong)

/-- 'bootjacklaw21.SqueezeGreat': WHATEVER THE INPUT: true; the input reads as it did. -/
def squeezeGreatSpec : ChangeSpec := { name := "squeezeGreat", fn := fun _ => fun
  | [d] => { results := [.lit (.bool true)], args := [d] }
  | _ => none }
def squeezeGreatRow : OpenClaim := { program := "ytknjmpeopikffaa", sum := "23a3edb833f74874a78ccc3304c16cdf6aaa4c0d19cf698724d7bc143470e5ba", func := "bootjack/bootjacklaw21.SqueezeGreat", spec := "squeezeGreat", apart := false }
def SqueezeGreatSaid : Prop := squeezeGreatRow.holds Try.pinned (OpenSpec.ofChange squeezeGreatSpec)

/-- ITS FALSE NEIGHBOUR: 'it returns false'. Refute it at one input. -/
def squeezeGreatWrong : ChangeSpec := { name := "squeezeGreat", fn := fun _ => fun
  | [d] => { results := [.lit (.bool false)], args := [d] }
  | _ => none }
def SqueezeGreatWrongFalsely : Prop := squeezeGreatRow.holds Try.pinned (OpenSpec.ofChange squeezeGreatWrong)

/-- 'bootjacklaw21.SqueezeBack': WHATEVER THE INPUT: true; the input reads as it did. -/
def squeezeBackSpec : ChangeSpec := { name := "squeezeBack", fn := fun _ => fun
  | [d] => { results := [.lit (.bool true)], args := [d] }
  | _ => none }
def squeezeBackRow : OpenClaim := { program := "ytknjmpeopikffaa", sum := "23a3edb833f74874a78ccc3304c16cdf6aaa4c0d19cf698724d7bc143470e5ba", func := "bootjack/bootjacklaw21.SqueezeBack", spec := "squeezeBack", apart := false }
def SqueezeBackSaid : Prop := squeezeBackRow.holds Try.pinned (OpenSpec.ofChange squeezeBackSpec)

/-- ITS FALSE NEIGHBOUR: 'it returns false'. Refute it at one input. -/
def squeezeBackWrong : ChangeSpec := { name := "squeezeBack", fn := fun _ => fun
  | [d] => { results := [.lit (.bool false)], args := [d] }
  | _ => none }
def SqueezeBackWrongFalsely : Prop := squeezeBackRow.holds Try.pinned (OpenSpec.ofChange squeezeBackWrong)

/-- 'bootjacklaw5.SealTells': WHATEVER THE INPUT: true; the input reads as it did. -/
def sealTellsSpec : ChangeSpec := { name := "sealTells", fn := fun _ => fun
  | [d1, d2, d3] => { results := [.lit (.bool true)], args := [d1, d2, d3] }
  | _ => none }
def sealTellsRow : OpenClaim := { program := "ytknjmpeopikffaa", sum := "23a3edb833f74874a78ccc3304c16cdf6aaa4c0d19cf698724d7bc143470e5ba", func := "bootjack/bootjacklaw5.SealTells", spec := "sealTells", apart := false }
def SealTellsSaid : Prop := sealTellsRow.holds Try.pinned (OpenSpec.ofChange sealTellsSpec)

/-- ITS FALSE NEIGHBOUR: 'it returns false'. Refute it at one input. -/
def sealTellsWrong : ChangeSpec := { name := "sealTells", fn := fun _ => fun
  | [d1, d2, d3] => { results := [.lit (.bool false)], args := [d1, d2, d3] }
  | _ => none }
def SealTellsWrongFalsely : Prop := sealTellsRow.holds Try.pinned (OpenSpec.ofChange sealTellsWrong)

/- THE SECOND FORM. 'bulk': how many values and letters a reading holds, each counted each time it is reached (what is shared counts as often as it is met; a slice's spare places count too). A statement '..UptoSaid' is the law's where the arguments, and the package variables that the reading takes, are together of bulk at most 1048576: NARROWER than '..Said'. Prove '..Said' where nothing that the law and all that it calls make is longer than what came in: it says more and counts as full. Else prove '..UptoSaid'. A law counts once. -/
mutual
def uptoBulk {H : Type} : DataW H → Nat
  | .lit (.string bytes) => bytes.length + 1
  | .lit _ => 1
  | .nil => 1
  | .ptr d => uptoBulk d + 1
  | .slice elems spare => uptoBulkAll elems + uptoBulkAll spare + 1
  | .agg parts => uptoBulkAll parts + 1
  | .iface _ d => uptoBulk d + 1
  | .map entries => uptoBulkEntries entries + 1
  | .held _ => 1
def uptoBulkAll {H : Type} : List (DataW H) → Nat
  | [] => 0
  | d :: r => uptoBulk d + uptoBulkAll r
def uptoBulkEntries {H : Type} : List (Lit × DataW H) → Nat
  | [] => 0
  | x :: r => uptoBulkEntry x + uptoBulkEntries r
def uptoBulkEntry {H : Type} : Lit × DataW H → Nat
  | (.string bytes, d) => bytes.length + uptoBulk d + 1
  | (_, d) => uptoBulk d + 1
 end
def uptoSmall : (H : Type) → List (DataW H) → Bool := fun _ ds => decide (uptoBulkAll ds ≤ 1048576)
def OpenSpec.upto (s : _root_.Go.ChangeSpec) : _root_.Go.OpenSpec := { _root_.Go.OpenSpec.ofChange s with cond := some uptoSmall }

/-- 'bootjacklaw20.LzPlays', WHERE WHAT IT READS IS OF BULK AT MOST 1048576: true; the input reads as it did. -/
def lzPlaysUptoRow : OpenClaim := { program := "ytknjmpeopikffaa", sum := "23a3edb833f74874a78ccc3304c16cdf6aaa4c0d19cf698724d7bc143470e5ba", func := "bootjack/bootjacklaw20.LzPlays", spec := "lzPlays", apart := false, narrowed := true }
def LzPlaysUptoSaid : Prop := lzPlaysUptoRow.holds Try.pinned (OpenSpec.upto lzPlaysSpec)

/-- 'bootjacklaw20.LzWaits', WHERE WHAT IT READS IS OF BULK AT MOST 1048576: true; the input reads as it did. -/
def lzWaitsUptoRow : OpenClaim := { program := "ytknjmpeopikffaa", sum := "23a3edb833f74874a78ccc3304c16cdf6aaa4c0d19cf698724d7bc143470e5ba", func := "bootjack/bootjacklaw20.LzWaits", spec := "lzWaits", apart := false, narrowed := true }
def LzWaitsUptoSaid : Prop := lzWaitsUptoRow.holds Try.pinned (OpenSpec.upto lzWaitsSpec)

/-- 'bootjacklaw20.LzNone', WHERE WHAT IT READS IS OF BULK AT MOST 1048576: true; the input reads as it did. -/
def lzNoneUptoRow : OpenClaim := { program := "ytknjmpeopikffaa", sum := "23a3edb833f74874a78ccc3304c16cdf6aaa4c0d19cf698724d7bc143470e5ba", func := "bootjack/bootjacklaw20.LzNone", spec := "lzNone", apart := false, narrowed := true }
def LzNoneUptoSaid : Prop := lzNoneUptoRow.holds Try.pinned (OpenSpec.upto lzNoneSpec)

/-- 'bootjacklaw19.TokenTells', WHERE WHAT IT READS IS OF BULK AT MOST 1048576: true; the input reads as it did. -/
def tokenTellsUptoRow : OpenClaim := { program := "ytknjmpeopikffaa", sum := "23a3edb833f74874a78ccc3304c16cdf6aaa4c0d19cf698724d7bc143470e5ba", func := "bootjack/bootjacklaw19.TokenTells", spec := "tokenTells", apart := false, narrowed := true }
def TokenTellsUptoSaid : Prop := tokenTellsUptoRow.holds Try.pinned (OpenSpec.upto tokenTellsSpec)

/-- 'bootjacklaw19.TokenReads', WHERE WHAT IT READS IS OF BULK AT MOST 1048576: true; the input reads as it did. -/
def tokenReadsUptoRow : OpenClaim := { program := "ytknjmpeopikffaa", sum := "23a3edb833f74874a78ccc3304c16cdf6aaa4c0d19cf698724d7bc143470e5ba", func := "bootjack/bootjacklaw19.TokenReads", spec := "tokenReads", apart := false, narrowed := true }
def TokenReadsUptoSaid : Prop := tokenReadsUptoRow.holds Try.pinned (OpenSpec.upto tokenReadsSpec)

/-- 'bootjacklaw19.TokenBack', WHERE WHAT IT READS IS OF BULK AT MOST 1048576: true; the input reads as it did. -/
def tokenBackUptoRow : OpenClaim := { program := "ytknjmpeopikffaa", sum := "23a3edb833f74874a78ccc3304c16cdf6aaa4c0d19cf698724d7bc143470e5ba", func := "bootjack/bootjacklaw19.TokenBack", spec := "tokenBack", apart := false, narrowed := true }
def TokenBackUptoSaid : Prop := tokenBackUptoRow.holds Try.pinned (OpenSpec.upto tokenBackSpec)

/-- 'bootjacklaw19.TokenCuts', WHERE WHAT IT READS IS OF BULK AT MOST 1048576: true; the input reads as it did. -/
def tokenCutsUptoRow : OpenClaim := { program := "ytknjmpeopikffaa", sum := "23a3edb833f74874a78ccc3304c16cdf6aaa4c0d19cf698724d7bc143470e5ba", func := "bootjack/bootjacklaw19.TokenCuts", spec := "tokenCuts", apart := false, narrowed := true }
def TokenCutsUptoSaid : Prop := tokenCutsUptoRow.holds Try.pinned (OpenSpec.upto tokenCutsSpec)

/-- 'bootjacklaw19.TokenOnly', WHERE WHAT IT READS IS OF BULK AT MOST 1048576: true; the input reads as it did. -/
def tokenOnlyUptoRow : OpenClaim := { program := "ytknjmpeopikffaa", sum := "23a3edb833f74874a78ccc3304c16cdf6aaa4c0d19cf698724d7bc143470e5ba", func := "bootjack/bootjacklaw19.TokenOnly", spec := "tokenOnly", apart := false, narrowed := true }
def TokenOnlyUptoSaid : Prop := tokenOnlyUptoRow.holds Try.pinned (OpenSpec.upto tokenOnlySpec)

/-- 'bootjacklaw19.TokenCopies', WHERE WHAT IT READS IS OF BULK AT MOST 1048576: true; the input reads as it did. -/
def tokenCopiesUptoRow : OpenClaim := { program := "ytknjmpeopikffaa", sum := "23a3edb833f74874a78ccc3304c16cdf6aaa4c0d19cf698724d7bc143470e5ba", func := "bootjack/bootjacklaw19.TokenCopies", spec := "tokenCopies", apart := false, narrowed := true }
def TokenCopiesUptoSaid : Prop := tokenCopiesUptoRow.holds Try.pinned (OpenSpec.upto tokenCopiesSpec)

/-- 'bootjacklaw20.LzParts', WHERE WHAT IT READS IS OF BULK AT MOST 1048576: true; the input reads as it did. -/
def lzPartsUptoRow : OpenClaim := { program := "ytknjmpeopikffaa", sum := "23a3edb833f74874a78ccc3304c16cdf6aaa4c0d19cf698724d7bc143470e5ba", func := "bootjack/bootjacklaw20.LzParts", spec := "lzParts", apart := false, narrowed := true }
def LzPartsUptoSaid : Prop := lzPartsUptoRow.holds Try.pinned (OpenSpec.upto lzPartsSpec)

/-- 'bootjacklaw20.LzJudges', WHERE WHAT IT READS IS OF BULK AT MOST 1048576: true; the input reads as it did. -/
def lzJudgesUptoRow : OpenClaim := { program := "ytknjmpeopikffaa", sum := "23a3edb833f74874a78ccc3304c16cdf6aaa4c0d19cf698724d7bc143470e5ba", func := "bootjack/bootjacklaw20.LzJudges", spec := "lzJudges", apart := false, narrowed := true }
def LzJudgesUptoSaid : Prop := lzJudgesUptoRow.holds Try.pinned (OpenSpec.upto lzJudgesSpec)

/-- 'bootjacklaw21.SqueezeRounds', WHERE WHAT IT READS IS OF BULK AT MOST 1048576: true; the input reads as it did. -/
def squeezeRoundsUptoRow : OpenClaim := { program := "ytknjmpeopikffaa", sum := "23a3edb833f74874a78ccc3304c16cdf6aaa4c0d19cf698724d7bc143470e5ba", func := "bootjack/bootjacklaw21.SqueezeRounds", spec := "squeezeRounds", apart := false, narrowed := true }
def SqueezeRoundsUptoSaid : Prop := squeezeRoundsUptoRow.holds Try.pinned (OpenSpec.upto squeezeRoundsSpec)

/-- 'bootjacklaw21.SqueezeTells', WHERE WHAT IT READS IS OF BULK AT MOST 1048576: true; the input reads as it did. -/
def squeezeTellsUptoRow : OpenClaim := { program := "ytknjmpeopikffaa", sum := "23a3edb833f74874a78ccc3304c16cdf6aaa4c0d19cf698724d7bc143470e5ba", func := "bootjack/bootjacklaw21.SqueezeTells", spec := "squeezeTells", apart := false, narrowed := true }
def SqueezeTellsUptoSaid : Prop := squeezeTellsUptoRow.holds Try.pinned (OpenSpec.upto squeezeTellsSpec)

/-- 'bootjacklaw21.SqueezeGreat', WHERE WHAT IT READS IS OF BULK AT MOST 1048576: true; the input reads as it did. -/
def squeezeGreatUptoRow : OpenClaim := { program := "ytknjmpeopikffaa", sum := "23a3edb833f74874a78ccc3304c16cdf6aaa4c0d19cf698724d7bc143470e5ba", func := "bootjack/bootjacklaw21.SqueezeGreat", spec := "squeezeGreat", apart := false, narrowed := true }
def SqueezeGreatUptoSaid : Prop := squeezeGreatUptoRow.holds Try.pinned (OpenSpec.upto squeezeGreatSpec)

/-- 'bootjacklaw21.SqueezeBack', WHERE WHAT IT READS IS OF BULK AT MOST 1048576: true; the input reads as it did. -/
def squeezeBackUptoRow : OpenClaim := { program := "ytknjmpeopikffaa", sum := "23a3edb833f74874a78ccc3304c16cdf6aaa4c0d19cf698724d7bc143470e5ba", func := "bootjack/bootjacklaw21.SqueezeBack", spec := "squeezeBack", apart := false, narrowed := true }
def SqueezeBackUptoSaid : Prop := squeezeBackUptoRow.holds Try.pinned (OpenSpec.upto squeezeBackSpec)

/-- 'bootjacklaw5.SealTells', WHERE WHAT IT READS IS OF BULK AT MOST 1048576: true; the input reads as it did. -/
def sealTellsUptoRow : OpenClaim := { program := "ytknjmpeopikffaa", sum := "23a3edb833f74874a78ccc3304c16cdf6aaa4c0d19cf698724d7bc143470e5ba", func := "bootjack/bootjacklaw5.SealTells", spec := "sealTells", apart := false, narrowed := true }
def SealTellsUptoSaid : Prop := sealTellsUptoRow.holds Try.pinned (OpenSpec.upto sealTellsSpec)

end Rows
end Go.Proofs.Ytknjmpeopikffaa
