/-
  No cell of these rows narrows 'for every input' (looked for: loops, veiled, ifaces, maps, wideKeys, modest, calm, conditions, laid).
  DERIVED. THE GIVEN ROWS OF THIS SEAT. 12 by the template 'for every input the law returns true; each argument reads behind the call as it read before'; 0 by the template 'total and deterministic' (their statements: YteogaacdmoafpaaTotals.lean).
  GIVEN WITH THE SEED: the statements are not yours to turn. If you find one false, say at which input.
  Laid BY PROGRAM, IN A SANDBOX (cutbox-rows.mjs): the forced cells as the released guide's own fill.sh prints them over the translation a8f797101c222996… (all of the seat's roots in one cut). By AI agents, Wed Nov 11 2026. No macro, syntax, notation, axiom, sorry.
-/
import Derived.Test.YteogaacdmoafpaaChecked
import GoSem.Claim
import GoSem.ClaimJoined
import GoSem.ClaimMapViews
import Derived.JoinedTies
import Derived.KernelRfl
namespace Go.Proofs.Yteogaacdmoafpaa
/- THE CELL 'sum', in the pinned program and in every row, IS THE sha256 OF THE DUMP (.gsa) THAT YteogaacdmoafpaaProg.lean LOADS. Nothing in Lean hashes anything: it is a label: what it is worth is what the hold of that sum in a sandbox is worth. -/
noncomputable def Try.pinned : Pinned := { name := "yteogaacdmoafpaa", sum := "a8f797101c2229964a0a2711dbee14d1fbf9fd934f762b6e1817d0e4796670ed", checked := Try.checked }
namespace Rows
def none {H : Type} : Left H := { results := [], args := [] }

/-- 'bootjacklaw21.SqueezeBest': WHATEVER THE INPUT: true; the input reads as it did. -/
def squeezeBestSpec : ChangeSpec := { name := "squeezeBest", fn := fun _ => fun
  | [d1, d2, d3] => { results := [.lit (.bool true)], args := [d1, d2, d3] }
  | _ => none }
def squeezeBestRow : OpenClaim := { program := "yteogaacdmoafpaa", sum := "a8f797101c2229964a0a2711dbee14d1fbf9fd934f762b6e1817d0e4796670ed", func := "bootjack/bootjacklaw21.SqueezeBest", spec := "squeezeBest", apart := false }
def SqueezeBestSaid : Prop := squeezeBestRow.holds Try.pinned (OpenSpec.ofChange squeezeBestSpec)

/-- ITS FALSE NEIGHBOUR: 'it returns false'. Refute it at one input. -/
def squeezeBestWrong : ChangeSpec := { name := "squeezeBest", fn := fun _ => fun
  | [d1, d2, d3] => { results := [.lit (.bool false)], args := [d1, d2, d3] }
  | _ => none }
def SqueezeBestWrongFalsely : Prop := squeezeBestRow.holds Try.pinned (OpenSpec.ofChange squeezeBestWrong)

/-- 'bootjacklaw1.NorTells': WHATEVER THE INPUT: true; the input reads as it did. -/
def norTellsSpec : ChangeSpec := { name := "norTells", fn := fun _ => fun
  | [d1, d2, d3, d4, d5] => { results := [.lit (.bool true)], args := [d1, d2, d3, d4, d5] }
  | _ => none }
def norTellsRow : OpenClaim := { program := "yteogaacdmoafpaa", sum := "a8f797101c2229964a0a2711dbee14d1fbf9fd934f762b6e1817d0e4796670ed", func := "bootjack/bootjacklaw1.NorTells", spec := "norTells", unfollowed := true, recurses := true, apart := false }
def NorTellsSaid : Prop := norTellsRow.holds Try.pinned (OpenSpec.ofChange norTellsSpec)

/-- ITS FALSE NEIGHBOUR: 'it returns false'. Refute it at one input. -/
def norTellsWrong : ChangeSpec := { name := "norTells", fn := fun _ => fun
  | [d1, d2, d3, d4, d5] => { results := [.lit (.bool false)], args := [d1, d2, d3, d4, d5] }
  | _ => none }
def NorTellsWrongFalsely : Prop := norTellsRow.holds Try.pinned (OpenSpec.ofChange norTellsWrong)

/-- 'bootjacklaw21.SqueezeRounds': WHATEVER THE INPUT: true; the input reads as it did. -/
def squeezeRoundsSpec : ChangeSpec := { name := "squeezeRounds", fn := fun _ => fun
  | [d1, d2, d3] => { results := [.lit (.bool true)], args := [d1, d2, d3] }
  | _ => none }
def squeezeRoundsRow : OpenClaim := { program := "yteogaacdmoafpaa", sum := "a8f797101c2229964a0a2711dbee14d1fbf9fd934f762b6e1817d0e4796670ed", func := "bootjack/bootjacklaw21.SqueezeRounds", spec := "squeezeRounds", apart := false }
def SqueezeRoundsSaid : Prop := squeezeRoundsRow.holds Try.pinned (OpenSpec.ofChange squeezeRoundsSpec)

/-- ITS FALSE NEIGHBOUR: 'it returns false'. Refute it at one input. -/
def squeezeRoundsWrong : ChangeSpec := { name := "squeezeRounds", fn := fun _ => fun
  | [d1, d2, d3] => { results := [.lit (.bool false)], args := [d1, d2, d3] }
  | _ => none }
def SqueezeRoundsWrongFalsely : Prop := squeezeRoundsRow.holds Try.pinned (OpenSpec.ofChange squeezeRoundsWrong)

/-- 'bootjacklaw5.SealTells': WHATEVER THE INPUT: true; the input reads as it did. -/
def sealTellsSpec : ChangeSpec := { name := "sealTells", fn := fun _ => fun
  | [d1, d2, d3] => { results := [.lit (.bool true)], args := [d1, d2, d3] }
  | _ => none }
def sealTellsRow : OpenClaim := { program := "yteogaacdmoafpaa", sum := "a8f797101c2229964a0a2711dbee14d1fbf9fd934f762b6e1817d0e4796670ed", func := "bootjack/bootjacklaw5.SealTells", spec := "sealTells", apart := false }
def SealTellsSaid : Prop := sealTellsRow.holds Try.pinned (OpenSpec.ofChange sealTellsSpec)

/-- ITS FALSE NEIGHBOUR: 'it returns false'. Refute it at one input. -/
def sealTellsWrong : ChangeSpec := { name := "sealTells", fn := fun _ => fun
  | [d1, d2, d3] => { results := [.lit (.bool false)], args := [d1, d2, d3] }
  | _ => none }
def SealTellsWrongFalsely : Prop := sealTellsRow.holds Try.pinned (OpenSpec.ofChange sealTellsWrong)

/-- 'bootjacklaw5.SealSums': WHATEVER THE INPUT: true; the input reads as it did. -/
def sealSumsSpec : ChangeSpec := { name := "sealSums", fn := fun _ => fun
  | [d1, d2] => { results := [.lit (.bool true)], args := [d1, d2] }
  | _ => none }
def sealSumsRow : OpenClaim := { program := "yteogaacdmoafpaa", sum := "a8f797101c2229964a0a2711dbee14d1fbf9fd934f762b6e1817d0e4796670ed", func := "bootjack/bootjacklaw5.SealSums", spec := "sealSums", apart := false }
def SealSumsSaid : Prop := sealSumsRow.holds Try.pinned (OpenSpec.ofChange sealSumsSpec)

/-- ITS FALSE NEIGHBOUR: 'it returns false'. Refute it at one input. -/
def sealSumsWrong : ChangeSpec := { name := "sealSums", fn := fun _ => fun
  | [d1, d2] => { results := [.lit (.bool false)], args := [d1, d2] }
  | _ => none }
def SealSumsWrongFalsely : Prop := sealSumsRow.holds Try.pinned (OpenSpec.ofChange sealSumsWrong)

/-- 'bootjacklaw5.SealBack': WHATEVER THE INPUT: true; the input reads as it did. -/
def sealBackSpec : ChangeSpec := { name := "sealBack", fn := fun _ => fun
  | [d1, d2, d3] => { results := [.lit (.bool true)], args := [d1, d2, d3] }
  | _ => none }
def sealBackRow : OpenClaim := { program := "yteogaacdmoafpaa", sum := "a8f797101c2229964a0a2711dbee14d1fbf9fd934f762b6e1817d0e4796670ed", func := "bootjack/bootjacklaw5.SealBack", spec := "sealBack", apart := false }
def SealBackSaid : Prop := sealBackRow.holds Try.pinned (OpenSpec.ofChange sealBackSpec)

/-- ITS FALSE NEIGHBOUR: 'it returns false'. Refute it at one input. -/
def sealBackWrong : ChangeSpec := { name := "sealBack", fn := fun _ => fun
  | [d1, d2, d3] => { results := [.lit (.bool false)], args := [d1, d2, d3] }
  | _ => none }
def SealBackWrongFalsely : Prop := sealBackRow.holds Try.pinned (OpenSpec.ofChange sealBackWrong)

/-- 'bootjacklaw5.SealTurns': WHATEVER THE INPUT: true; the input reads as it did. -/
def sealTurnsSpec : ChangeSpec := { name := "sealTurns", fn := fun _ => fun
  | [d1, d2] => { results := [.lit (.bool true)], args := [d1, d2] }
  | _ => none }
def sealTurnsRow : OpenClaim := { program := "yteogaacdmoafpaa", sum := "a8f797101c2229964a0a2711dbee14d1fbf9fd934f762b6e1817d0e4796670ed", func := "bootjack/bootjacklaw5.SealTurns", spec := "sealTurns", apart := false }
def SealTurnsSaid : Prop := sealTurnsRow.holds Try.pinned (OpenSpec.ofChange sealTurnsSpec)

/-- ITS FALSE NEIGHBOUR: 'it returns false'. Refute it at one input. -/
def sealTurnsWrong : ChangeSpec := { name := "sealTurns", fn := fun _ => fun
  | [d1, d2] => { results := [.lit (.bool false)], args := [d1, d2] }
  | _ => none }
def SealTurnsWrongFalsely : Prop := sealTurnsRow.holds Try.pinned (OpenSpec.ofChange sealTurnsWrong)

/-- 'bootjacklaw5.SealMixes': WHATEVER THE INPUT: true; the input reads as it did. -/
def sealMixesSpec : ChangeSpec := { name := "sealMixes", fn := fun _ => fun
  | [d1, d2, d3] => { results := [.lit (.bool true)], args := [d1, d2, d3] }
  | _ => none }
def sealMixesRow : OpenClaim := { program := "yteogaacdmoafpaa", sum := "a8f797101c2229964a0a2711dbee14d1fbf9fd934f762b6e1817d0e4796670ed", func := "bootjack/bootjacklaw5.SealMixes", spec := "sealMixes", apart := false }
def SealMixesSaid : Prop := sealMixesRow.holds Try.pinned (OpenSpec.ofChange sealMixesSpec)

/-- ITS FALSE NEIGHBOUR: 'it returns false'. Refute it at one input. -/
def sealMixesWrong : ChangeSpec := { name := "sealMixes", fn := fun _ => fun
  | [d1, d2, d3] => { results := [.lit (.bool false)], args := [d1, d2, d3] }
  | _ => none }
def SealMixesWrongFalsely : Prop := sealMixesRow.holds Try.pinned (OpenSpec.ofChange sealMixesWrong)

/-- 'bootjacklaw5.SealTorn': WHATEVER THE INPUT: true; the input reads as it did. -/
def sealTornSpec : ChangeSpec := { name := "sealTorn", fn := fun _ => fun
  | [d1, d2, d3] => { results := [.lit (.bool true)], args := [d1, d2, d3] }
  | _ => none }
def sealTornRow : OpenClaim := { program := "yteogaacdmoafpaa", sum := "a8f797101c2229964a0a2711dbee14d1fbf9fd934f762b6e1817d0e4796670ed", func := "bootjack/bootjacklaw5.SealTorn", spec := "sealTorn", apart := false }
def SealTornSaid : Prop := sealTornRow.holds Try.pinned (OpenSpec.ofChange sealTornSpec)

/-- ITS FALSE NEIGHBOUR: 'it returns false'. Refute it at one input. -/
def sealTornWrong : ChangeSpec := { name := "sealTorn", fn := fun _ => fun
  | [d1, d2, d3] => { results := [.lit (.bool false)], args := [d1, d2, d3] }
  | _ => none }
def SealTornWrongFalsely : Prop := sealTornRow.holds Try.pinned (OpenSpec.ofChange sealTornWrong)

/-- 'bootjacklaw21.SqueezeTells': WHATEVER THE INPUT: true; the input reads as it did. -/
def squeezeTellsSpec : ChangeSpec := { name := "squeezeTells", fn := fun _ => fun
  | [d1, d2] => { results := [.lit (.bool true)], args := [d1, d2] }
  | _ => none }
def squeezeTellsRow : OpenClaim := { program := "yteogaacdmoafpaa", sum := "a8f797101c2229964a0a2711dbee14d1fbf9fd934f762b6e1817d0e4796670ed", func := "bootjack/bootjacklaw21.SqueezeTells", spec := "squeezeTells", apart := false }
def SqueezeTellsSaid : Prop := squeezeTellsRow.holds Try.pinned (OpenSpec.ofChange squeezeTellsSpec)

/-- ITS FALSE NEIGHBOUR: 'it returns false'. Refute it at one input. -/
def squeezeTellsWrong : ChangeSpec := { name := "squeezeTells", fn := fun _ => fun
  | [d1, d2] => { results := [.lit (.bool false)], args := [d1, d2] }
  | _ => none }
def SqueezeTellsWrongFalsely : Prop := squeezeTellsRow.holds Try.pinned (OpenSpec.ofChange squeezeTellsWrong)

/-- 'bootjacklaw21.SqueezeGreat': WHATEVER THE INPUT: true; the input reads as it did. -/
def squeezeGreatSpec : ChangeSpec := { name := "squeezeGreat", fn := fun _ => fun
  | [d] => { results := [.lit (.bool true)], args := [d] }
  | _ => none }
def squeezeGreatRow : OpenClaim := { program := "yteogaacdmoafpaa", sum := "a8f797101c2229964a0a2711dbee14d1fbf9fd934f762b6e1817d0e4796670ed", func := "bootjack/bootjacklaw21.SqueezeGreat", spec := "squeezeGreat", apart := false }
def SqueezeGreatSaid : Prop := squeezeGreatRow.holds Try.pinned (OpenSpec.ofChange squeezeGreatSpec)

/-- ITS FALSE NEIGHBOUR: 'it returns false'. Refute it at one input. -/
def squeezeGreatWrong : ChangeSpec := { name := "squeezeGreat", fn := fun _ => fun
  | [d] => { results := [.lit (.bool false)], args := [d] }
  | _ => none }
def SqueezeGreatWrongFalsely : Prop := squeezeGreatRow.holds Try.pinned (OpenSpec.ofChange squeezeGreatWrong)

/-- 'bootjacklaw21.SqueezeBack': WHATEVER THE INPUT: true; the input reads as it did. -/
def squeezeBackSpec : ChangeSpec := { name := "squeezeBack", fn := fun _ => fun
  | [d] => { results := [.lit (.bool true)], args := [d] }
  | _ => none }
def squeezeBackRow : OpenClaim := { program := "yteogaacdmoafpaa", sum := "a8f797101c2229964a0a2711dbee14d1fbf9fd934f762b6e1817d0e4796670ed", func := "bootjack/bootjacklaw21.SqueezeBack", spec := "squeezeBack", apart := false }
def SqueezeBackSaid : Prop := squeezeBackRow.holds Try.pinned (OpenSpec.ofChange squeezeBackSpec)

/-- ITS FALSE NEIGHBOUR: 'it returns false'. Refute it at one input. -/
def squeezeBackWrong : ChangeSpec := { name := "squeezeBack", fn := fun _ => fun
  | [d] => { results := [.lit (.bool false)], args := [d] }
  | _ => none }
def SqueezeBackWrongFalsely : Prop := squeezeBackRow.holds Try.pinned (OpenSpec.ofChange squeezeBackWrong)

/- THE SECOND FORM. 'bulk': how many values and letters a reading holds, each counted each time it is reached (what is shared counts as often as it is met; a slice's spare places count too). A statement '..UptoSaid' is the law's where the arguments, and the package variables that the reading takes, are together of bulk at most 1048576: NARROWER than '..Said'. Prove '..Said' where nothing that the law and all that it calls make is longer than what came in: it says more and counts as full. Else prove '..UptoSaid'. A law counts once. -/
mutual
def uptoBulk {H : Type} : DataW H → Nat
  | .lit (.string bytes) => bytes.length + 1
  | .lit _ => 1
  | .nil => 1
  | .ptr d => uptoBulk d + 1
  | .slice elems spare => uptoBulkAll elems + uptoBulkAll spare + 1
  | .agg parts => uptoBulkAll parts + 1
  | .iface _ d => uptoBulk d + 1
  | .map entries => uptoBulkEntries entries + 1
  | .held _ => 1
def uptoBulkAll {H : Type} : List (DataW H) → Nat
  | [] => 0
  | d :: r => uptoBulk d + uptoBulkAll r
def uptoBulkEntries {H : Type} : List (Lit × DataW H) → Nat
  | [] => 0
  | x :: r => uptoBulkEntry x + uptoBulkEntries r
def uptoBulkEntry {H : Type} : Lit × DataW H → Nat
  | (.string bytes, d) => bytes.length + uptoBulk d + 1
  | (_, d) => uptoBulk d + 1
 end
def uptoSmall : (H : Type) → List (DataW H) → Bool := fun _ ds => decide (uptoBulkAll ds ≤ 1048576)
def OpenSpec.upto (s : _root_.Go.ChangeSpec) : _root_.Go.OpenSpec := { _root_.Go.OpenSpec.ofChange s with cond := some uptoSmall }

/-- 'bootjacklaw21.SqueezeBest', WHERE WHAT IT READS IS OF BULK AT MOST 1048576: true; the input reads as it did. -/
def squeezeBestUptoRow : OpenClaim := { program := "yteogaacdmoafpaa", sum := "a8f797101c2229964a0a2711dbee14d1fbf9fd934f762b6e1817d0e4796670ed", func := "bootjack/bootjacklaw21.SqueezeBest", spec := "squeezeBest", apart := false, narrowed := true }
def SqueezeBestUptoSaid : Prop := squeezeBestUptoRow.holds Try.pinned (OpenSpec.upto squeezeBestSpec)

/-- 'bootjacklaw1.NorTells', WHERE WHAT IT READS IS OF BULK AT MOST 1048576: true; the input reads as it did. -/
def norTellsUptoRow : OpenClaim := { program := "yteogaacdmoafpaa", sum := "a8f797101c2229964a0a2711dbee14d1fbf9fd934f762b6e1817d0e4796670ed", func := "bootjack/bootjacklaw1.NorTells", spec := "norTells", unfollowed := true, recurses := true, apart := false, narrowed := true }
def NorTellsUptoSaid : Prop := norTellsUptoRow.holds Try.pinned (OpenSpec.upto norTellsSpec)

/-- 'bootjacklaw21.SqueezeRounds', WHERE WHAT IT READS IS OF BULK AT MOST 1048576: true; the input reads as it did. -/
def squeezeRoundsUptoRow : OpenClaim := { program := "yteogaacdmoafpaa", sum := "a8f797101c2229964a0a2711dbee14d1fbf9fd934f762b6e1817d0e4796670ed", func := "bootjack/bootjacklaw21.SqueezeRounds", spec := "squeezeRounds", apart := false, narrowed := true }
def SqueezeRoundsUptoSaid : Prop := squeezeRoundsUptoRow.holds Try.pinned (OpenSpec.upto squeezeRoundsSpec)

/-- 'bootjacklaw5.SealTells', WHERE WHAT IT READS IS OF BULK AT MOST 1048576: true; the input reads as it did. -/
def sealTellsUptoRow : OpenClaim := { program := "yteogaacdmoafpaa", sum := "a8f797101c2229964a0a2711dbee14d1fbf9fd934f762b6e1817d0e4796670ed", func := "bootjack/bootjacklaw5.SealTells", spec := "sealTells", apart := false, narrowed := true }
def SealTellsUptoSaid : Prop := sealTellsUptoRow.holds Try.pinned (OpenSpec.upto sealTellsSpec)

/-- 'bootjacklaw5.SealSums', WHERE WHAT IT READS IS OF BULK AT MOST 1048576: true; the input reads as it did. -/
def sealSumsUptoRow : OpenClaim := { program := "yteogaacdmoafpaa", sum := "a8f797101c2229964a0a2711dbee14d1fbf9fd934f762b6e1817d0e4796670ed", func := "bootjack/bootjacklaw5.SealSums", spec := "sealSums", apart := false, narrowed := true }
def SealSumsUptoSaid : Prop := sealSumsUptoRow.holds Try.pinned (OpenSpec.upto sealSumsSpec)

/-- 'bootjacklaw5.SealBack', WHERE WHAT IT READS IS OF BULK AT MOST 1048576: true; the input reads as it did. -/
def sealBackUptoRow : OpenClaim := { program := "yteogaacdmoafpaa", sum := "a8f797101c2229964a0a2711dbee14d1fbf9fd934f762b6e1817d0e4796670ed", func := "bootjack/bootjacklaw5.SealBack", spec := "sealBack", apart := false, narrowed := true }
def SealBackUptoSaid : Prop := sealBackUptoRow.holds Try.pinned (OpenSpec.upto sealBackSpec)

/-- 'bootjacklaw5.SealTurns', WHERE WHAT IT READS IS OF BULK AT MOST 1048576: true; the input reads as it did. -/
def sealTurnsUptoRow : OpenClaim := { program := "yteogaacdmoafpaa", sum := "a8f797101c2229964a0a2711dbee14d1fbf9fd934f762b6e1817d0e4796670ed", func := "bootjack/bootjacklaw5.SealTurns", spec := "sealTurns", apart := false, narrowed := true }
def SealTurnsUptoSaid : Prop := sealTurnsUptoRow.holds Try.pinned (OpenSpec.upto sealTurnsSpec)

/-- 'bootjacklaw5.SealMixes', WHERE WHAT IT READS IS OF BULK AT MOST 1048576: true; the input reads as it did. -/
def sealMixesUptoRow : OpenClaim := { program := "yteogaacdmoafpaa", sum := "a8f797101c2229964a0a2711dbee14d1fbf9fd934f762b6e1817d0e4796670ed", func := "bootjack/bootjacklaw5.SealMixes", spec := "sealMixes", apart := false, narrowed := true }
def SealMixesUptoSaid : Prop := sealMixesUptoRow.holds Try.pinned (OpenSpec.upto sealMixesSpec)

/-- 'bootjacklaw5.SealTorn', WHERE WHAT IT READS IS OF BULK AT MOST 1048576: true; the input reads as it did. -/
def sealTornUptoRow : OpenClaim := { program := "yteogaacdmoafpaa", sum := "a8f797101c2229964a0a2711dbee14d1fbf9fd934f762b6e1817d0e4796670ed", func := "bootjack/bootjacklaw5.SealTorn", spec := "sealTorn", apart := false, narrowed := true }
def SealTornUptoSaid : Prop := sealTornUptoRow.holds Try.pinned (OpenSpec.upto sealTornSpec)

/-- 'bootjacklaw21.SqueezeTells', WHERE WHAT IT READS IS OF BULK AT MOST 1048576: true; the input reads as it did. -/
def squeezeTellsUptoRow : OpenClaim := { program := "yteogaacdmoafpaa", sum := "a8f797101c2229964a0a2711dbee14d1fbf9fd934f762b6e1817d0e4796670ed", func := "bootjack/bootjacklaw21.SqueezeTells", spec := "squeezeTells", apart := false, narrowed := true }
def SqueezeTellsUptoSaid : Prop := squeezeTellsUptoRow.holds Try.pinned (OpenSpec.upto squeezeTellsSpec)

/-- 'bootjacklaw21.SqueezeGreat', WHERE WHAT IT READS IS OF BULK AT MOST 1048576: true; the input reads as it did. -/
def squeezeGreatUptoRow : OpenClaim := { program := "yteogaacdmoafpaa", sum := "a8f797101c2229964a0a2711dbee14d1fbf9fd934f762b6e1817d0e4796670ed", func := "bootjack/bootjacklaw21.SqueezeGreat", spec := "squeezeGreat", apart := false, narrowed := true }
def SqueezeGreatUptoSaid : Prop := squeezeGreatUptoRow.holds Try.pinned (OpenSpec.upto squeezeGreatSpec)

/-- 'bootjacklaw21.SqueezeBack', WHERE WHAT IT READS IS OF BULK AT MOST 1048576: true; the input reads as it did. -/
def squeezeBackUptoRow : OpenClaim := { program := "yteogaacdmoafpaa", sum := "a8f797101c2229964a0a2711dbee14d1fbf9fd934f762b6e1817d0e4796670ed", func := "bootjack/bootjacklaw21.SqueezeBack", spec := "squeezeBack", apart := false, narrowed := true }
def SqueezeBackUptoSaid : Prop := squeezeBackUptoRow.holds Try.pinned (OpenSpec.upto squeezeBackSpec)

end Rows
end Go.Proofs.Yteogaacdmoafpaa
