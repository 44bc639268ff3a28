/-
  No cell of these rows narrows 'for every input' (looked for: loops, veiled, ifaces, maps, wideKeys, modest, calm, conditions, laid).
  DERIVED. THE GIVEN ROWS OF THIS SEAT. 35 by the template 'for every input the law returns true; each argument reads behind the call as it read before'; 0 by the template 'total and deterministic' (their statements: YtmpijfehmngmgaaTotals.lean).
  GIVEN WITH THE SEED: the statements are not yours to turn. If you find one false, say at which input.
  Laid BY PROGRAM, IN A SANDBOX (cutbox-rows.mjs): the forced cells as the released guide's own fill.sh prints them over the translation 5d69fead430a426d… (all of the seat's roots in one cut). By AI agents, Wed Nov 11 2026. No macro, syntax, notation, axiom, sorry.
-/
import Derived.Test.YtmpijfehmngmgaaChecked
import GoSem.Claim
import GoSem.ClaimJoined
import GoSem.ClaimMapViews
import Derived.JoinedTies
import Derived.KernelRfl
namespace Go.Proofs.Ytmpijfehmngmgaa
/- THE CELL 'sum', in the pinned program and in every row, IS THE sha256 OF THE DUMP (.gsa) THAT YtmpijfehmngmgaaProg.lean LOADS. Nothing in Lean hashes anything: it is a label: what it is worth is what the hold of that sum in a sandbox is worth. -/
noncomputable def Try.pinned : Pinned := { name := "ytmpijfehmngmgaa", sum := "5d69fead430a426d644f17f1b9a0753fa0b4579bb6649a051b5ded0fddc2fd7a", checked := Try.checked }
namespace Rows
def none {H : Type} : Left H := { results := [], args := [] }

/-- 'bootjacklaw1.NorOrder': WHATEVER THE INPUT: true; the input reads as it did. -/
def norOrderSpec : ChangeSpec := { name := "norOrder", fn := fun _ => fun
  | [d1, d2, d3] => { results := [.lit (.bool true)], args := [d1, d2, d3] }
  | _ => none }
def norOrderRow : OpenClaim := { program := "ytmpijfehmngmgaa", sum := "5d69fead430a426d644f17f1b9a0753fa0b4579bb6649a051b5ded0fddc2fd7a", func := "bootjack/bootjacklaw1.NorOrder", spec := "norOrder", unfollowed := true, recurses := true, apart := false }
def NorOrderSaid : Prop := norOrderRow.holds Try.pinned (OpenSpec.ofChange norOrderSpec)

/-- ITS FALSE NEIGHBOUR: 'it returns false'. Refute it at one input. -/
def norOrderWrong : ChangeSpec := { name := "norOrder", fn := fun _ => fun
  | [d1, d2, d3] => { results := [.lit (.bool false)], args := [d1, d2, d3] }
  | _ => none }
def NorOrderWrongFalsely : Prop := norOrderRow.holds Try.pinned (OpenSpec.ofChange norOrderWrong)

/-- 'bootjacklaw1.NorTwice': WHATEVER THE INPUT: true; the input reads as it did. -/
def norTwiceSpec : ChangeSpec := { name := "norTwice", fn := fun _ => fun
  | [d1, d2, d3] => { results := [.lit (.bool true)], args := [d1, d2, d3] }
  | _ => none }
def norTwiceRow : OpenClaim := { program := "ytmpijfehmngmgaa", sum := "5d69fead430a426d644f17f1b9a0753fa0b4579bb6649a051b5ded0fddc2fd7a", func := "bootjack/bootjacklaw1.NorTwice", spec := "norTwice", unfollowed := true, recurses := true, apart := false }
def NorTwiceSaid : Prop := norTwiceRow.holds Try.pinned (OpenSpec.ofChange norTwiceSpec)

/-- ITS FALSE NEIGHBOUR: 'it returns false'. Refute it at one input. -/
def norTwiceWrong : ChangeSpec := { name := "norTwice", fn := fun _ => fun
  | [d1, d2, d3] => { results := [.lit (.bool false)], args := [d1, d2, d3] }
  | _ => none }
def NorTwiceWrongFalsely : Prop := norTwiceRow.holds Try.pinned (OpenSpec.ofChange norTwiceWrong)

/-- 'bootjacklaw1.NorTorn': WHATEVER THE INPUT: true; the input reads as it did. -/
def norTornSpec : ChangeSpec := { name := "norTorn", fn := fun _ => fun
  | [d1, d2, d3] => { results := [.lit (.bool true)], args := [d1, d2, d3] }
  | _ => none }
def norTornRow : OpenClaim := { program := "ytmpijfehmngmgaa", sum := "5d69fead430a426d644f17f1b9a0753fa0b4579bb6649a051b5ded0fddc2fd7a", func := "bootjack/bootjacklaw1.NorTorn", spec := "norTorn", unfollowed := true, recurses := true, apart := false }
def NorTornSaid : Prop := norTornRow.holds Try.pinned (OpenSpec.ofChange norTornSpec)

/-- ITS FALSE NEIGHBOUR: 'it returns false'. Refute it at one input. -/
def norTornWrong : ChangeSpec := { name := "norTorn", fn := fun _ => fun
  | [d1, d2, d3] => { results := [.lit (.bool false)], args := [d1, d2, d3] }
  | _ => none }
def NorTornWrongFalsely : Prop := norTornRow.holds Try.pinned (OpenSpec.ofChange norTornWrong)

/-- 'bootjacklaw1.NorHalf': WHATEVER THE INPUT: true; the input reads as it did. -/
def norHalfSpec : ChangeSpec := { name := "norHalf", fn := fun _ => fun
  | [d1, d2] => { results := [.lit (.bool true)], args := [d1, d2] }
  | _ => none }
def norHalfRow : OpenClaim := { program := "ytmpijfehmngmgaa", sum := "5d69fead430a426d644f17f1b9a0753fa0b4579bb6649a051b5ded0fddc2fd7a", func := "bootjack/bootjacklaw1.NorHalf", spec := "norHalf", unfollowed := true, recurses := true, apart := false }
def NorHalfSaid : Prop := norHalfRow.holds Try.pinned (OpenSpec.ofChange norHalfSpec)

/-- ITS FALSE NEIGHBOUR: 'it returns false'. Refute it at one input. -/
def norHalfWrong : ChangeSpec := { name := "norHalf", fn := fun _ => fun
  | [d1, d2] => { results := [.lit (.bool false)], args := [d1, d2] }
  | _ => none }
def NorHalfWrongFalsely : Prop := norHalfRow.holds Try.pinned (OpenSpec.ofChange norHalfWrong)

/-- 'bootjacklaw1.NorTells': WHATEVER THE INPUT: true; the input reads as it did. -/
def norTellsSpec : ChangeSpec := { name := "norTells", fn := fun _ => fun
  | [d1, d2, d3, d4, d5] => { results := [.lit (.bool true)], args := [d1, d2, d3, d4, d5] }
  | _ => none }
def norTellsRow : OpenClaim := { program := "ytmpijfehmngmgaa", sum := "5d69fead430a426d644f17f1b9a0753fa0b4579bb6649a051b5ded0fddc2fd7a", func := "bootjack/bootjacklaw1.NorTells", spec := "norTells", unfollowed := true, recurses := true, apart := false }
def NorTellsSaid : Prop := norTellsRow.holds Try.pinned (OpenSpec.ofChange norTellsSpec)

/-- ITS FALSE NEIGHBOUR: 'it returns false'. Refute it at one input. -/
def norTellsWrong : ChangeSpec := { name := "norTells", fn := fun _ => fun
  | [d1, d2, d3, d4, d5] => { results := [.lit (.bool false)], args := [d1, d2, d3, d4, d5] }
  | _ => none }
def NorTellsWrongFalsely : Prop := norTellsRow.holds Try.pinned (OpenSpec.ofChange norTellsWrong)

/-- 'bootjacklaw5.SealTells': WHATEVER THE INPUT: true; the input reads as it did. -/
def sealTellsSpec : ChangeSpec := { name := "sealTells", fn := fun _ => fun
  | [d1, d2, d3] => { results := [.lit (.bool true)], args := [d1, d2, d3] }
  | _ => none }
def sealTellsRow : OpenClaim := { program := "ytmpijfehmngmgaa", sum := "5d69fead430a426d644f17f1b9a0753fa0b4579bb6649a051b5ded0fddc2fd7a", func := "bootjack/bootjacklaw5.SealTells", spec := "sealTells", apart := false }
def SealTellsSaid : Prop := sealTellsRow.holds Try.pinned (OpenSpec.ofChange sealTellsSpec)

/-- ITS FALSE NEIGHBOUR: 'it returns false'. Refute it at one input. -/
def sealTellsWrong : ChangeSpec := { name := "sealTells", fn := fun _ => fun
  | [d1, d2, d3] => { results := [.lit (.bool false)], args := [d1, d2, d3] }
  | _ => none }
def SealTellsWrongFalsely : Prop := sealTellsRow.holds Try.pinned (OpenSpec.ofChange sealTellsWrong)

/-- 'bootjacklaw5.SealSums': WHATEVER THE INPUT: true; the input reads as it did. -/
def sealSumsSpec : ChangeSpec := { name := "sealSums", fn := fun _ => fun
  | [d1, d2] => { results := [.lit (.bool true)], args := [d1, d2] }
  | _ => none }
def sealSumsRow : OpenClaim := { program := "ytmpijfehmngmgaa", sum := "5d69fead430a426d644f17f1b9a0753fa0b4579bb6649a051b5ded0fddc2fd7a", func := "bootjack/bootjacklaw5.SealSums", spec := "sealSums", apart := false }
def SealSumsSaid : Prop := sealSumsRow.holds Try.pinned (OpenSpec.ofChange sealSumsSpec)

/-- ITS FALSE NEIGHBOUR: 'it returns false'. Refute it at one input. -/
def sealSumsWrong : ChangeSpec := { name := "sealSums", fn := fun _ => fun
  | [d1, d2] => { results := [.lit (.bool false)], args := [d1, d2] }
  | _ => none }
def SealSumsWrongFalsely : Prop := sealSumsRow.holds Try.pinned (OpenSpec.ofChange sealSumsWrong)

/-- 'bootjacklaw5.SealBack': WHATEVER THE INPUT: true; the input reads as it did. -/
def sealBackSpec : ChangeSpec := { name := "sealBack", fn := fun _ => fun
  | [d1, d2, d3] => { results := [.lit (.bool true)], args := [d1, d2, d3] }
  | _ => none }
def sealBackRow : OpenClaim := { program := "ytmpijfehmngmgaa", sum := "5d69fead430a426d644f17f1b9a0753fa0b4579bb6649a051b5ded0fddc2fd7a", func := "bootjack/bootjacklaw5.SealBack", spec := "sealBack", apart := false }
def SealBackSaid : Prop := sealBackRow.holds Try.pinned (OpenSpec.ofChange sealBackSpec)

/-- ITS FALSE NEIGHBOUR: 'it returns false'. Refute it at one input. -/
def sealBackWrong : ChangeSpec := { name := "sealBack", fn := fun _ => fun
  | [d1, d2, d3] => { results := [.lit (.bool false)], args := [d1, d2, d3] }
  | _ => none }
def SealBackWrongFalsely : Prop := sealBackRow.holds Try.pinned (OpenSpec.ofChange sealBackWrong)

/-- 'bootjacklaw5.SealTurns': WHATEVER THE INPUT: true; the input reads as it did. -/
def sealTurnsSpec : ChangeSpec := { name := "sealTurns", fn := fun _ => fun
  | [d1, d2] => { results := [.lit (.bool true)], args := [d1, d2] }
  | _ => none }
def sealTurnsRow : OpenClaim := { program := "ytmpijfehmngmgaa", sum := "5d69fead430a426d644f17f1b9a0753fa0b4579bb6649a051b5ded0fddc2fd7a", func := "bootjack/bootjacklaw5.SealTurns", spec := "sealTurns", apart := false }
def SealTurnsSaid : Prop := sealTurnsRow.holds Try.pinned (OpenSpec.ofChange sealTurnsSpec)

/-- ITS FALSE NEIGHBOUR: 'it returns false'. Refute it at one input. -/
def sealTurnsWrong : ChangeSpec := { name := "sealTurns", fn := fun _ => fun
  | [d1, d2] => { results := [.lit (.bool false)], args := [d1, d2] }
  | _ => none }
def SealTurnsWrongFalsely : Prop := sealTurnsRow.holds Try.pinned (OpenSpec.ofChange sealTurnsWrong)

/-- 'bootjacklaw5.SealMixes': WHATEVER THE INPUT: true; the input reads as it did. -/
def sealMixesSpec : ChangeSpec := { name := "sealMixes", fn := fun _ => fun
  | [d1, d2, d3] => { results := [.lit (.bool true)], args := [d1, d2, d3] }
  | _ => none }
def sealMixesRow : OpenClaim := { program := "ytmpijfehmngmgaa", sum := "5d69fead430a426d644f17f1b9a0753fa0b4579bb6649a051b5ded0fddc2fd7a", func := "bootjack/bootjacklaw5.SealMixes", spec := "sealMixes", apart := false }
def SealMixesSaid : Prop := sealMixesRow.holds Try.pinned (OpenSpec.ofChange sealMixesSpec)

/-- ITS FALSE NEIGHBOUR: 'it returns false'. Refute it at one input. -/
def sealMixesWrong : ChangeSpec := { name := "sealMixes", fn := fun _ => fun
  | [d1, d2, d3] => { results := [.lit (.bool false)], args := [d1, d2, d3] }
  | _ => none }
def SealMixesWrongFalsely : Prop := sealMixesRow.holds Try.pinned (OpenSpec.ofChange sealMixesWrong)

/-- 'bootjacklaw5.SealTorn': WHATEVER THE INPUT: true; the input reads as it did. -/
def sealTornSpec : ChangeSpec := { name := "sealTorn", fn := fun _ => fun
  | [d1, d2, d3] => { results := [.lit (.bool true)], args := [d1, d2, d3] }
  | _ => none }
def sealTornRow : OpenClaim := { program := "ytmpijfehmngmgaa", sum := "5d69fead430a426d644f17f1b9a0753fa0b4579bb6649a051b5ded0fddc2fd7a", func := "bootjack/bootjacklaw5.SealTorn", spec := "sealTorn", apart := false }
def SealTornSaid : Prop := sealTornRow.holds Try.pinned (OpenSpec.ofChange sealTornSpec)

/-- ITS FALSE NEIGHBOUR: 'it returns false'. Refute it at one input. -/
def sealTornWrong : ChangeSpec := { name := "sealTorn", fn := fun _ => fun
  | [d1, d2, d3] => { results := [.lit (.bool false)], args := [d1, d2, d3] }
  | _ => none }
def SealTornWrongFalsely : Prop := sealTornRow.holds Try.pinned (OpenSpec.ofChange sealTornWrong)

/-- 'bootjacklaw3.RegionParts': WHATEVER THE INPUT: true; the input reads as it did. -/
def regionPartsSpec : ChangeSpec := { name := "regionParts", fn := fun _ => fun
  | [d1, d2, d3, d4, d5] => { results := [.lit (.bool true)], args := [d1, d2, d3, d4, d5] }
  | _ => none }
def regionPartsRow : OpenClaim := { program := "ytmpijfehmngmgaa", sum := "5d69fead430a426d644f17f1b9a0753fa0b4579bb6649a051b5ded0fddc2fd7a", func := "bootjack/bootjacklaw3.RegionParts", spec := "regionParts", apart := false }
def RegionPartsSaid : Prop := regionPartsRow.holds Try.pinned (OpenSpec.ofChange regionPartsSpec)

/-- ITS FALSE NEIGHBOUR: 'it returns false'. Refute it at one input. -/
def regionPartsWrong : ChangeSpec := { name := "regionParts", fn := fun _ => fun
  | [d1, d2, d3, d4, d5] => { results := [.lit (.bool false)], args := [d1, d2, d3, d4, d5] }
  | _ => none }
def RegionPartsWrongFalsely : Prop := regionPartsRow.holds Try.pinned (OpenSpec.ofChange regionPartsWrong)

/-- 'bootjacklaw2.FlashRefuses': WHATEVER THE INPUT: true; the input reads as it did. -/
def flashRefusesSpec : ChangeSpec := { name := "flashRefuses", fn := fun _ => fun
  | [d1, d2, d3, d4] => { results := [.lit (.bool true)], args := [d1, d2, d3, d4] }
  | _ => none }
def flashRefusesRow : OpenClaim := { program := "ytmpijfehmngmgaa", sum := "5d69fead430a426d644f17f1b9a0753fa0b4579bb6649a051b5ded0fddc2fd7a", func := "bootjack/bootjacklaw2.FlashRefuses", spec := "flashRefuses", apart := false }
def FlashRefusesSaid : Prop := flashRefusesRow.holds Try.pinned (OpenSpec.ofChange flashRefusesSpec)

/-- ITS FALSE NEIGHBOUR: 'it returns false'. Refute it at one input. -/
def flashRefusesWrong : ChangeSpec := { name := "flashRefuses", fn := fun _ => fun
  | [d1, d2, d3, d4] => { results := [.lit (.bool false)], args := [d1, d2, d3, d4] }
  | _ => none }
def FlashRefusesWrongFalsely : Prop := flashRefusesRow.holds Try.pinned (OpenSpec.ofChange flashRefusesWrong)

/-- 'bootjacklaw2.FlashPlays': WHATEVER THE INPUT: true; the input reads as it did. -/
def flashPlaysSpec : ChangeSpec := { name := "flashPlays", fn := fun _ => fun
  | [d1, d2] => { results := [.lit (.bool true)], args := [d1, d2] }
  | _ => none }
def flashPlaysRow : OpenClaim := { program := "ytmpijfehmngmgaa", sum := "5d69fead430a426d644f17f1b9a0753fa0b4579bb6649a051b5ded0fddc2fd7a", func := "bootjack/bootjacklaw2.FlashPlays", spec := "flashPlays", apart := false }
def FlashPlaysSaid : Prop := flashPlaysRow.holds Try.pinned (OpenSpec.ofChange flashPlaysSpec)

/-- ITS FALSE NEIGHBOUR: 'it returns false'. Refute it at one input. -/
def flashPlaysWrong : ChangeSpec := { name := "flashPlays", fn := fun _ => fun
  | [d1, d2] => { results := [.lit (.bool false)], args := [d1, d2] }
  | _ => none }
def FlashPlaysWrongFalsely : Prop := flashPlaysRow.holds Try.pinned (OpenSpec.ofChange flashPlaysWrong)

/-- 'bootjacklaw2.FlashErases': WHATEVER THE INPUT: true; the input reads as it did. -/
def flashErasesSpec : ChangeSpec := { name := "flashErases", fn := fun _ => fun
  | [d1, d2, d3, d4] => { results := [.lit (.bool true)], args := [d1, d2, d3, d4] }
  | _ => none }
def flashErasesRow : OpenClaim := { program := "ytmpijfehmngmgaa", sum := "5d69fead430a426d644f17f1b9a0753fa0b4579bb6649a051b5ded0fddc2fd7a", func := "bootjack/bootjacklaw2.FlashErases", spec := "flashErases", unfollowed := true, recurses := true, apart := false }
def FlashErasesSaid : Prop := flashErasesRow.holds Try.pinned (OpenSpec.ofChange flashErasesSpec)

/-- ITS FALSE NEIGHBOUR: 'it returns false'. Refute it at one input. -/
def flashErasesWrong : ChangeSpec := { name := "flashErases", fn := fun _ => fun
  | [d1, d2, d3, d4] => { results := [.lit (.bool false)], args := [d1, d2, d3, d4] }
  | _ => none }
def FlashErasesWrongFalsely : Prop := flashErasesRow.holds Try.pinned (OpenSpec.ofChange flashErasesWrong)

/-- 'bootjacklaw2.FlashBoots': WHATEVER THE INPUT: true; the input reads as it did. -/
def flashBootsSpec : ChangeSpec := { name := "flashBoots", fn := fun _ => fun
  | [d1, d2] => { results := [.lit (.bool true)], args := [d1, d2] }
  | _ => none }
def flashBootsRow : OpenClaim := { program := "ytmpijfehmngmgaa", sum := "5d69fead430a426d644f17f1b9a0753fa0b4579bb6649a051b5ded0fddc2fd7a", func := "bootjack/bootjacklaw2.FlashBoots", spec := "flashBoots", unfollowed := true, recurses := true, apart := false }
def FlashBootsSaid : Prop := flashBootsRow.holds Try.pinned (OpenSpec.ofChange flashBootsSpec)

/-- ITS FALSE NEIGHBOUR: 'it returns false'. Refute it at one input. -/
def flashBootsWrong : ChangeSpec := { name := "flashBoots", fn := fun _ => fun
  | [d1, d2] => { results := [.lit (.bool false)], args := [d1, d2] }
  | _ => none }
def FlashBootsWrongFalsely : Prop := flashBootsRow.holds Try.pinned (OpenSpec.ofChange flashBootsWrong)

/-- 'bootjacklaw3.RegionOnly': WHATEVER THE INPUT: true; the input reads as it did. -/
def regionOnlySpec : ChangeSpec := { name := "regionOnly", fn := fun _ => fun
  | [d1, d2, d3] => { results := [.lit (.bool true)], args := [d1, d2, d3] }
  | _ => none }
def regionOnlyRow : OpenClaim := { program := "ytmpijfehmngmgaa", sum := "5d69fead430a426d644f17f1b9a0753fa0b4579bb6649a051b5ded0fddc2fd7a", func := "bootjack/bootjacklaw3.RegionOnly", spec := "regionOnly", apart := false }
def RegionOnlySaid : Prop := regionOnlyRow.holds Try.pinned (OpenSpec.ofChange regionOnlySpec)

/-- ITS FALSE NEIGHBOUR: 'it returns false'. Refute it at one input. -/
def regionOnlyWrong : ChangeSpec := { name := "regionOnly", fn := fun _ => fun
  | [d1, d2, d3] => { results := [.lit (.bool false)], args := [d1, d2, d3] }
  | _ => none }
def RegionOnlyWrongFalsely : Prop := regionOnlyRow.holds Try.pinned (OpenSpec.ofChange regionOnlyWrong)

/-- 'bootjacklaw3.RegionNone': WHATEVER THE INPUT: true; the input reads as it did. -/
def regionNoneSpec : ChangeSpec := { name := "regionNone", fn := fun _ => fun
  | [d1, d2, d3] => { results := [.lit (.bool true)], args := [d1, d2, d3] }
  | _ => none }
def regionNoneRow : OpenClaim := { program := "ytmpijfehmngmgaa", sum := "5d69fead430a426d644f17f1b9a0753fa0b4579bb6649a051b5ded0fddc2fd7a", func := "bootjack/bootjacklaw3.RegionNone", spec := "regionNone", unfollowed := true, recurses := true, apart := false }
def RegionNoneSaid : Prop := regionNoneRow.holds Try.pinned (OpenSpec.ofChange regionNoneSpec)

/-- ITS FALSE NEIGHBOUR: 'it returns false'. Refute it at one input. -/
def regionNoneWrong : ChangeSpec := { name := "regionNone", fn := fun _ => fun
  | [d1, d2, d3] => { results := [.lit (.bool false)], args := [d1, d2, d3] }
  | _ => none }
def RegionNoneWrongFalsely : Prop := regionNoneRow.holds Try.pinned (OpenSpec.ofChange regionNoneWrong)

/-- 'bootjacklaw3.RegionPlays': WHATEVER THE INPUT: true; the input reads as it did. -/
def regionPlaysSpec : ChangeSpec := { name := "regionPlays", fn := fun _ => fun
  | [d1, d2, d3] => { results := [.lit (.bool true)], args := [d1, d2, d3] }
  | _ => none }
def regionPlaysRow : OpenClaim := { program := "ytmpijfehmngmgaa", sum := "5d69fead430a426d644f17f1b9a0753fa0b4579bb6649a051b5ded0fddc2fd7a", func := "bootjack/bootjacklaw3.RegionPlays", spec := "regionPlays", unfollowed := true, recurses := true, apart := false }
def RegionPlaysSaid : Prop := regionPlaysRow.holds Try.pinned (OpenSpec.ofChange regionPlaysSpec)

/-- ITS FALSE NEIGHBOUR: 'it returns false'. Refute it at one input. -/
def regionPlaysWrong : ChangeSpec := { name := "regionPlays", fn := fun _ => fun
  | [d1, d2, d3] => { results := [.lit (.bool false)], args := [d1, d2, d3] }
  | _ => none }
def RegionPlaysWrongFalsely : Prop := regionPlaysRow.holds Try.pinned (OpenSpec.ofChange regionPlaysWrong)

/-- 'bootjacklaw4.CursorFull': WHATEVER THE INPUT: true; the input reads as it did. -/
def cursorFullSpec : ChangeSpec := { name := "cursorFull", fn := fun _ => fun
  | [d1, d2] => { results := [.lit (.bool true)], args := [d1, d2] }
  | _ => none }
def cursorFullRow : OpenClaim := { program := "ytmpijfehmngmgaa", sum := "5d69fead430a426d644f17f1b9a0753fa0b4579bb6649a051b5ded0fddc2fd7a", func := "bootjack/bootjacklaw4.CursorFull", spec := "cursorFull", unfollowed := true, recurses := true, apart := false }
def CursorFullSaid : Prop := cursorFullRow.holds Try.pinned (OpenSpec.ofChange cursorFullSpec)

/-- ITS FALSE NEIGHBOUR: 'it returns false'. Refute it at one input. -/
def cursorFullWrong : ChangeSpec := { name := "cursorFull", fn := fun _ => fun
  | [d1, d2] => { results := [.lit (.bool false)], args := [d1, d2] }
  | _ => none }
def CursorFullWrongFalsely : Prop := cursorFullRow.holds Try.pinned (OpenSpec.ofChange cursorFullWrong)

/-- 'bootjacklaw4.CursorParts': WHATEVER THE INPUT: true; the input reads as it did. -/
def cursorPartsSpec : ChangeSpec := { name := "cursorParts", fn := fun _ => fun
  | [d1, d2, d3, d4] => { results := [.lit (.bool true)], args := [d1, d2, d3, d4] }
  | _ => none }
def cursorPartsRow : OpenClaim := { program := "ytmpijfehmngmgaa", sum := "5d69fead430a426d644f17f1b9a0753fa0b4579bb6649a051b5ded0fddc2fd7a", func := "bootjack/bootjacklaw4.CursorParts", spec := "cursorParts", unfollowed := true, recurses := true, apart := false }
def CursorPartsSaid : Prop := cursorPartsRow.holds Try.pinned (OpenSpec.ofChange cursorPartsSpec)

/-- ITS FALSE NEIGHBOUR: 'it returns false'. Refute it at one input. -/
def cursorPartsWrong : ChangeSpec := { name := "cursorParts", fn := fun _ => fun
  | [d1, d2, d3, d4] => { results := [.lit (.bool false)], args := [d1, d2, d3, d4] }
  | _ => none }
def CursorPartsWrongFalsely : Prop := cursorPartsRow.holds Try.pinned (OpenSpec.ofChange cursorPartsWrong)

/-- 'bootjacklaw4.CursorGoesOn': WHATEVER THE INPUT: true; the input reads as it did. -/
def cursorGoesOnSpec : ChangeSpec := { name := "cursorGoesOn", fn := fun _ => fun
  | [d1, d2, d3] => { results := [.lit (.bool true)], args := [d1, d2, d3] }
  | _ => none }
def cursorGoesOnRow : OpenClaim := { program := "ytmpijfehmngmgaa", sum := "5d69fead430a426d644f17f1b9a0753fa0b4579bb6649a051b5ded0fddc2fd7a", func := "bootjack/bootjacklaw4.CursorGoesOn", spec := "cursorGoesOn", unfollowed := true, recurses := true, apart := false }
def CursorGoesOnSaid : Prop := cursorGoesOnRow.holds Try.pinned (OpenSpec.ofChange cursorGoesOnSpec)

/-- ITS FALSE NEIGHBOUR: 'it returns false'. Refute it at one input. -/
def cursorGoesOnWrong : ChangeSpec := { name := "cursorGoesOn", fn := fun _ => fun
  | [d1, d2, d3] => { results := [.lit (.bool false)], args := [d1, d2, d3] }
  | _ => none }
def CursorGoesOnWrongFalsely : Prop := cursorGoesOnRow.holds Try.pinned (OpenSpec.ofChange cursorGoesOnWrong)

/-- 'bootjacklaw4.CursorOnce': WHATEVER THE INPUT: true; the input reads as it did. -/
def cursorOnceSpec : ChangeSpec := { name := "cursorOnce", fn := fun _ => fun
  | [d1, d2, d3, d4] => { results := [.lit (.bool true)], args := [d1, d2, d3, d4] }
  | _ => none }
def cursorOnceRow : OpenClaim := { program := "ytmpijfehmngmgaa", sum := "5d69fead430a426d644f17f1b9a0753fa0b4579bb6649a051b5ded0fddc2fd7a", func := "bootjack/bootjacklaw4.CursorOnce", spec := "cursorOnce", unfollowed := true, recurses := true, apart := false }
def CursorOnceSaid : Prop := cursorOnceRow.holds Try.pinned (OpenSpec.ofChange cursorOnceSpec)

/-- ITS FALSE NEIGHBOUR: 'it returns false'. Refute it at one input. -/
def cursorOnceWrong : ChangeSpec := { name := "cursorOnce", fn := fun _ => fun
  | [d1, d2, d3, d4] => { results := [.lit (.bool false)], args := [d1, d2, d3, d4] }
  | _ => none }
def CursorOnceWrongFalsely : Prop := cursorOnceRow.holds Try.pinned (OpenSpec.ofChange cursorOnceWrong)

/-- 'bootjacklaw4.CursorRepeats': WHATEVER THE INPUT: true; the input reads as it did. -/
def cursorRepeatsSpec : ChangeSpec := { name := "cursorRepeats", fn := fun _ => fun
  | [d1, d2, d3, d4, d5] => { results := [.lit (.bool true)], args := [d1, d2, d3, d4, d5] }
  | _ => none }
def cursorRepeatsRow : OpenClaim := { program := "ytmpijfehmngmgaa", sum := "5d69fead430a426d644f17f1b9a0753fa0b4579bb6649a051b5ded0fddc2fd7a", func := "bootjack/bootjacklaw4.CursorRepeats", spec := "cursorRepeats", unfollowed := true, recurses := true, apart := false }
def CursorRepeatsSaid : Prop := cursorRepeatsRow.holds Try.pinned (OpenSpec.ofChange cursorRepeatsSpec)

/-- ITS FALSE NEIGHBOUR: 'it returns false'. Refute it at one input. -/
def cursorRepeatsWrong : ChangeSpec := { name := "cursorRepeats", fn := fun _ => fun
  | [d1, d2, d3, d4, d5] => { results := [.lit (.bool false)], args := [d1, d2, d3, d4, d5] }
  | _ => none }
def CursorRepeatsWrongFalsely : Prop := cursorRepeatsRow.holds Try.pinned (OpenSpec.ofChange cursorRepeatsWrong)

/-- 'bootjacklaw4.CursorPlays': WHATEVER THE INPUT: true; the input reads as it did. -/
def cursorPlaysSpec : ChangeSpec := { name := "cursorPlays", fn := fun _ => fun
  | [d1, d2, d3] => { results := [.lit (.bool true)], args := [d1, d2, d3] }
  | _ => none }
def cursorPlaysRow : OpenClaim := { program := "ytmpijfehmngmgaa", sum := "5d69fead430a426d644f17f1b9a0753fa0b4579bb6649a051b5ded0fddc2fd7a", func := "bootjack/bootjacklaw4.CursorPlays", spec := "cursorPlays", unfollowed := true, recurses := true, apart := false }
def CursorPlaysSaid : Prop := cursorPlaysRow.holds Try.pinned (OpenSpec.ofChange cursorPlaysSpec)

/-- ITS FALSE NEIGHBOUR: 'it returns false'. Refute it at one input. -/
def cursorPlaysWrong : ChangeSpec := { name := "cursorPlays", fn := fun _ => fun
  | [d1, d2, d3] => { results := [.lit (.bool false)], args := [d1, d2, d3] }
  | _ => none }
def CursorPlaysWrongFalsely : Prop := cursorPlaysRow.holds Try.pinned (OpenSpec.ofChange cursorPlaysWrong)

/-- 'bootjacklaw22.JournalEpochs': WHATEVER THE INPUT: true; the input reads as it did. -/
def journalEpochsSpec : ChangeSpec := { name := "journalEpochs", fn := fun _ => fun
  | [d1, d2] => { results := [.lit (.bool true)], args := [d1, d2] }
  | _ => none }
def journalEpochsRow : OpenClaim := { program := "ytmpijfehmngmgaa", sum := "5d69fead430a426d644f17f1b9a0753fa0b4579bb6649a051b5ded0fddc2fd7a", func := "bootjack/bootjacklaw22.JournalEpochs", spec := "journalEpochs", unfollowed := true, recurses := true, apart := false }
def JournalEpochsSaid : Prop := journalEpochsRow.holds Try.pinned (OpenSpec.ofChange journalEpochsSpec)

/-- ITS FALSE NEIGHBOUR: 'it returns false'. Refute it at one input. -/
def journalEpochsWrong : ChangeSpec := { name := "journalEpochs", fn := fun _ => fun
  | [d1, d2] => { results := [.lit (.bool false)], args := [d1, d2] }
  | _ => none }
def JournalEpochsWrongFalsely : Prop := journalEpochsRow.holds Try.pinned (OpenSpec.ofChange journalEpochsWrong)

/-- 'bootjacklaw22.JournalCompacts': WHATEVER THE INPUT: true; the input reads as it did. -/
def journalCompactsSpec : ChangeSpec := { name := "journalCompacts", fn := fun _ => fun
  | [d1, d2, d3, d4] => { results := [.lit (.bool true)], args := [d1, d2, d3, d4] }
  | _ => none }
def journalCompactsRow : OpenClaim := { program := "ytmpijfehmngmgaa", sum := "5d69fead430a426d644f17f1b9a0753fa0b4579bb6649a051b5ded0fddc2fd7a", func := "bootjack/bootjacklaw22.JournalCompacts", spec := "journalCompacts", unfollowed := true, recurses := true, apart := false }
def JournalCompactsSaid : Prop := journalCompactsRow.holds Try.pinned (OpenSpec.ofChange journalCompactsSpec)

/-- ITS FALSE NEIGHBOUR: 'it returns false'. Refute it at one input. -/
def journalCompactsWrong : ChangeSpec := { name := "journalCompacts", fn := fun _ => fun
  | [d1, d2, d3, d4] => { results := [.lit (.bool false)], args := [d1, d2, d3, d4] }
  | _ => none }
def JournalCompactsWrongFalsely : Prop := journalCompactsRow.holds Try.pinned (OpenSpec.ofChange journalCompactsWrong)

/-- 'bootjacklaw22.JournalBack': WHATEVER THE INPUT: true; the input reads as it did. -/
def journalBackSpec : ChangeSpec := { name := "journalBack", fn := fun _ => fun
  | [d] => { results := [.lit (.bool true)], args := [d] }
  | _ => none }
def journalBackRow : OpenClaim := { program := "ytmpijfehmngmgaa", sum := "5d69fead430a426d644f17f1b9a0753fa0b4579bb6649a051b5ded0fddc2fd7a", func := "bootjack/bootjacklaw22.JournalBack", spec := "journalBack", unfollowed := true, recurses := true, apart := false }
def JournalBackSaid : Prop := journalBackRow.holds Try.pinned (OpenSpec.ofChange journalBackSpec)

/-- ITS FALSE NEIGHBOUR: 'it returns false'. Refute it at one input. -/
def journalBackWrong : ChangeSpec := { name := "journalBack", fn := fun _ => fun
  | [d] => { results := [.lit (.bool false)], args := [d] }
  | _ => none }
def JournalBackWrongFalsely : Prop := journalBackRow.holds Try.pinned (OpenSpec.ofChange journalBackWrong)

/-- 'bootjacklaw22.JournalWrong': WHATEVER THE INPUT: true; the input reads as it did. -/
def journalWrongSpec : ChangeSpec := { name := "journalWrong", fn := fun _ => fun
  | [d1, d2, d3] => { results := [.lit (.bool true)], args := [d1, d2, d3] }
  | _ => none }
def journalWrongRow : OpenClaim := { program := "ytmpijfehmngmgaa", sum := "5d69fead430a426d644f17f1b9a0753fa0b4579bb6649a051b5ded0fddc2fd7a", func := "bootjack/bootjacklaw22.JournalWrong", spec := "journalWrong", unfollowed := true, recurses := true, apart := false }
def JournalWrongSaid : Prop := journalWrongRow.holds Try.pinned (OpenSpec.ofChange journalWrongSpec)

/-- ITS FALSE NEIGHBOUR: 'it returns false'. Refute it at one input. -/
def journalWrongWrong : ChangeSpec := { name := "journalWrong", fn := fun _ => fun
  | [d1, d2, d3] => { results := [.lit (.bool false)], args := [d1, d2, d3] }
  | _ => none }
def JournalWrongWrongFalsely : Prop := journalWrongRow.holds Try.pinned (OpenSpec.ofChange journalWrongWrong)

/-- 'bootjacklaw22.JournalCuts': WHATEVER THE INPUT: true; the input reads as it did. -/
def journalCutsSpec : ChangeSpec := { name := "journalCuts", fn := fun _ => fun
  | [d1, d2, d3, d4, d5] => { results := [.lit (.bool true)], args := [d1, d2, d3, d4, d5] }
  | _ => none }
def journalCutsRow : OpenClaim := { program := "ytmpijfehmngmgaa", sum := "5d69fead430a426d644f17f1b9a0753fa0b4579bb6649a051b5ded0fddc2fd7a", func := "bootjack/bootjacklaw22.JournalCuts", spec := "journalCuts", unfollowed := true, recurses := true, apart := false }
def JournalCutsSaid : Prop := journalCutsRow.holds Try.pinned (OpenSpec.ofChange journalCutsSpec)

/-- ITS FALSE NEIGHBOUR: 'it returns false'. Refute it at one input. -/
def journalCutsWrong : ChangeSpec := { name := "journalCuts", fn := fun _ => fun
  | [d1, d2, d3, d4, d5] => { results := [.lit (.bool false)], args := [d1, d2, d3, d4, d5] }
  | _ => none }
def JournalCutsWrongFalsely : Prop := journalCutsRow.holds Try.pinned (OpenSpec.ofChange journalCutsWrong)

/-- 'bootjacklaw23.LedgerTells': WHATEVER THE INPUT: true; the input reads as it did. -/
def ledgerTellsSpec : ChangeSpec := { name := "ledgerTells", fn := fun _ => fun
  | [d1, d2, d3] => { results := [.lit (.bool true)], args := [d1, d2, d3] }
  | _ => none }
def ledgerTellsRow : OpenClaim := { program := "ytmpijfehmngmgaa", sum := "5d69fead430a426d644f17f1b9a0753fa0b4579bb6649a051b5ded0fddc2fd7a", func := "bootjack/bootjacklaw23.LedgerTells", spec := "ledgerTells", unfollowed := true, recurses := true, apart := false }
def LedgerTellsSaid : Prop := ledgerTellsRow.holds Try.pinned (OpenSpec.ofChange ledgerTellsSpec)

/-- ITS FALSE NEIGHBOUR: 'it returns false'. Refute it at one input. -/
def ledgerTellsWrong : ChangeSpec := { name := "ledgerTells", fn := fun _ => fun
  | [d1, d2, d3] => { results := [.lit (.bool false)], args := [d1, d2, d3] }
  | _ => none }
def LedgerTellsWrongFalsely : Prop := ledgerTellsRow.holds Try.pinned (OpenSpec.ofChange ledgerTellsWrong)

/-- 'bootjacklaw23.LedgerFolds': WHATEVER THE INPUT: true; the input reads as it did. -/
def ledgerFoldsSpec : ChangeSpec := { name := "ledgerFolds", fn := fun _ => fun
  | [d1, d2] => { results := [.lit (.bool true)], args := [d1, d2] }
  | _ => none }
def ledgerFoldsRow : OpenClaim := { program := "ytmpijfehmngmgaa", sum := "5d69fead430a426d644f17f1b9a0753fa0b4579bb6649a051b5ded0fddc2fd7a", func := "bootjack/bootjacklaw23.LedgerFolds", spec := "ledgerFolds", unfollowed := true, recurses := true, apart := false }
def LedgerFoldsSaid : Prop := ledgerFoldsRow.holds Try.pinned (OpenSpec.ofChange ledgerFoldsSpec)

/-- ITS FALSE NEIGHBOUR: 'it returns false'. Refute it at one input. -/
def ledgerFoldsWrong : ChangeSpec := { name := "ledgerFolds", fn := fun _ => fun
  | [d1, d2] => { results := [.lit (.bool false)], args := [d1, d2] }
  | _ => none }
def LedgerFoldsWrongFalsely : Prop := ledgerFoldsRow.holds Try.pinned (OpenSpec.ofChange ledgerFoldsWrong)

/-- 'bootjacklaw23.LedgerBack': WHATEVER THE INPUT: true; the input reads as it did. -/
def ledgerBackSpec : ChangeSpec := { name := "ledgerBack", fn := fun _ => fun
  | [d] => { results := [.lit (.bool true)], args := [d] }
  | _ => none }
def ledgerBackRow : OpenClaim := { program := "ytmpijfehmngmgaa", sum := "5d69fead430a426d644f17f1b9a0753fa0b4579bb6649a051b5ded0fddc2fd7a", func := "bootjack/bootjacklaw23.LedgerBack", spec := "ledgerBack", unfollowed := true, recurses := true, apart := false }
def LedgerBackSaid : Prop := ledgerBackRow.holds Try.pinned (OpenSpec.ofChange ledgerBackSpec)

/-- ITS FALSE NEIGHBOUR: 'it returns false'. Refute it at one input. -/
def ledgerBackWrong : ChangeSpec := { name := "ledgerBack", fn := fun _ => fun
  | [d] => { results := [.lit (.bool false)], args := [d] }
  | _ => none }
def LedgerBackWrongFalsely : Prop := ledgerBackRow.holds Try.pinned (OpenSpec.ofChange ledgerBackWrong)

/-- 'bootjacklaw23.LedgerFloor': WHATEVER THE INPUT: true; the input reads as it did. -/
def ledgerFloorSpec : ChangeSpec := { name := "ledgerFloor", fn := fun _ => fun
  | [d1, d2, d3] => { results := [.lit (.bool true)], args := [d1, d2, d3] }
  | _ => none }
def ledgerFloorRow : OpenClaim := { program := "ytmpijfehmngmgaa", sum := "5d69fead430a426d644f17f1b9a0753fa0b4579bb6649a051b5ded0fddc2fd7a", func := "bootjack/bootjacklaw23.LedgerFloor", spec := "ledgerFloor", unfollowed := true, recurses := true, apart := false }
def LedgerFloorSaid : Prop := ledgerFloorRow.holds Try.pinned (OpenSpec.ofChange ledgerFloorSpec)

/-- ITS FALSE NEIGHBOUR: 'it returns false'. Refute it at one input. -/
def ledgerFloorWrong : ChangeSpec := { name := "ledgerFloor", fn := fun _ => fun
  | [d1, d2, d3] => { results := [.lit (.bool false)], args := [d1, d2, d3] }
  | _ => none }
def LedgerFloorWrongFalsely : Prop := ledgerFloorRow.holds Try.pinned (OpenSpec.ofChange ledgerFloorWrong)

/-- 'bootjacklaw23.LedgerCuts': WHATEVER THE INPUT: true; the input reads as it did. -/
def ledgerCutsSpec : ChangeSpec := { name := "ledgerCuts", fn := fun _ => fun
  | [d1, d2, d3, d4] => { results := [.lit (.bool true)], args := [d1, d2, d3, d4] }
  | _ => none }
def ledgerCutsRow : OpenClaim := { program := "ytmpijfehmngmgaa", sum := "5d69fead430a426d644f17f1b9a0753fa0b4579bb6649a051b5ded0fddc2fd7a", func := "bootjack/bootjacklaw23.LedgerCuts", spec := "ledgerCuts", unfollowed := true, recurses := true, apart := false }
def LedgerCutsSaid : Prop := ledgerCutsRow.holds Try.pinned (OpenSpec.ofChange ledgerCutsSpec)

/-- ITS FALSE NEIGHBOUR: 'it returns false'. Refute it at one input. -/
def ledgerCutsWrong : ChangeSpec := { name := "ledgerCuts", fn := fun _ => fun
  | [d1, d2, d3, d4] => { results := [.lit (.bool false)], args := [d1, d2, d3, d4] }
  | _ => none }
def LedgerCutsWrongFalsely : Prop := ledgerCutsRow.holds Try.pinned (OpenSpec.ofChange ledgerCutsWrong)

/- THE SECOND FORM. 'bulk': how many values and letters a reading holds, each counted each time it is reached (what is shared counts as often as it is met; a slice's spare places count too). A statement '..UptoSaid' is the law's where the arguments, and the package variables that the reading takes, are together of bulk at most 1048576: NARROWER than '..Said'. Prove '..Said' where nothing that the law and all that it calls make is longer than what came in: it says more and counts as full. Else prove '..UptoSaid'. A law counts once. -/
mutual
def uptoBulk {H : Type} : DataW H → Nat
  | .lit (.string bytes) => bytes.length + 1
  | .lit _ => 1
  | .nil => 1
  | .ptr d => uptoBulk d + 1
  | .slice elems spare => uptoBulkAll elems + uptoBulkAll spare + 1
  | .agg parts => uptoBulkAll parts + 1
  | .iface _ d => uptoBulk d + 1
  | .map entries => uptoBulkEntries entries + 1
  | .held _ => 1
def uptoBulkAll {H : Type} : List (DataW H) → Nat
  | [] => 0
  | d :: r => uptoBulk d + uptoBulkAll r
def uptoBulkEntries {H : Type} : List (Lit × DataW H) → Nat
  | [] => 0
  | x :: r => uptoBulkEntry x + uptoBulkEntries r
def uptoBulkEntry {H : Type} : Lit × DataW H → Nat
  | (.string bytes, d) => bytes.length + uptoBulk d + 1
  | (_, d) => uptoBulk d + 1
 end
def uptoSmall : (H : Type) → List (DataW H) → Bool := fun _ ds => decide (uptoBulkAll ds ≤ 1048576)
def OpenSpec.upto (s : _root_.Go.ChangeSpec) : _root_.Go.OpenSpec := { _root_.Go.OpenSpec.ofChange s with cond := some uptoSmall }

/-- 'bootjacklaw1.NorOrder', WHERE WHAT IT READS IS OF BULK AT MOST 1048576: true; the input reads as it did. -/
def norOrderUptoRow : OpenClaim := { program := "ytmpijfehmngmgaa", sum := "5d69fead430a426d644f17f1b9a0753fa0b4579bb6649a051b5ded0fddc2fd7a", func := "bootjack/bootjacklaw1.NorOrder", spec := "norOrder", unfollowed := true, recurses := true, apart := false, narrowed := true }
def NorOrderUptoSaid : Prop := norOrderUptoRow.holds Try.pinned (OpenSpec.upto norOrderSpec)

/-- 'bootjacklaw1.NorTwice', WHERE WHAT IT READS IS OF BULK AT MOST 1048576: true; the input reads as it did. -/
def norTwiceUptoRow : OpenClaim := { program := "ytmpijfehmngmgaa", sum := "5d69fead430a426d644f17f1b9a0753fa0b4579bb6649a051b5ded0fddc2fd7a", func := "bootjack/bootjacklaw1.NorTwice", spec := "norTwice", unfollowed := true, recurses := true, apart := false, narrowed := true }
def NorTwiceUptoSaid : Prop := norTwiceUptoRow.holds Try.pinned (OpenSpec.upto norTwiceSpec)

/-- 'bootjacklaw1.NorTorn', WHERE WHAT IT READS IS OF BULK AT MOST 1048576: true; the input reads as it did. -/
def norTornUptoRow : OpenClaim := { program := "ytmpijfehmngmgaa", sum := "5d69fead430a426d644f17f1b9a0753fa0b4579bb6649a051b5ded0fddc2fd7a", func := "bootjack/bootjacklaw1.NorTorn", spec := "norTorn", unfollowed := true, recurses := true, apart := false, narrowed := true }
def NorTornUptoSaid : Prop := norTornUptoRow.holds Try.pinned (OpenSpec.upto norTornSpec)

/-- 'bootjacklaw1.NorHalf', WHERE WHAT IT READS IS OF BULK AT MOST 1048576: true; the input reads as it did. -/
def norHalfUptoRow : OpenClaim := { program := "ytmpijfehmngmgaa", sum := "5d69fead430a426d644f17f1b9a0753fa0b4579bb6649a051b5ded0fddc2fd7a", func := "bootjack/bootjacklaw1.NorHalf", spec := "norHalf", unfollowed := true, recurses := true, apart := false, narrowed := true }
def NorHalfUptoSaid : Prop := norHalfUptoRow.holds Try.pinned (OpenSpec.upto norHalfSpec)

/-- 'bootjacklaw1.NorTells', WHERE WHAT IT READS IS OF BULK AT MOST 1048576: true; the input reads as it did. -/
def norTellsUptoRow : OpenClaim := { program := "ytmpijfehmngmgaa", sum := "5d69fead430a426d644f17f1b9a0753fa0b4579bb6649a051b5ded0fddc2fd7a", func := "bootjack/bootjacklaw1.NorTells", spec := "norTells", unfollowed := true, recurses := true, apart := false, narrowed := true }
def NorTellsUptoSaid : Prop := norTellsUptoRow.holds Try.pinned (OpenSpec.upto norTellsSpec)

/-- 'bootjacklaw5.SealTells', WHERE WHAT IT READS IS OF BULK AT MOST 1048576: true; the input reads as it did. -/
def sealTellsUptoRow : OpenClaim := { program := "ytmpijfehmngmgaa", sum := "5d69fead430a426d644f17f1b9a0753fa0b4579bb6649a051b5ded0fddc2fd7a", func := "bootjack/bootjacklaw5.SealTells", spec := "sealTells", apart := false, narrowed := true }
def SealTellsUptoSaid : Prop := sealTellsUptoRow.holds Try.pinned (OpenSpec.upto sealTellsSpec)

/-- 'bootjacklaw5.SealSums', WHERE WHAT IT READS IS OF BULK AT MOST 1048576: true; the input reads as it did. -/
def sealSumsUptoRow : OpenClaim := { program := "ytmpijfehmngmgaa", sum := "5d69fead430a426d644f17f1b9a0753fa0b4579bb6649a051b5ded0fddc2fd7a", func := "bootjack/bootjacklaw5.SealSums", spec := "sealSums", apart := false, narrowed := true }
def SealSumsUptoSaid : Prop := sealSumsUptoRow.holds Try.pinned (OpenSpec.upto sealSumsSpec)

/-- 'bootjacklaw5.SealBack', WHERE WHAT IT READS IS OF BULK AT MOST 1048576: true; the input reads as it did. -/
def sealBackUptoRow : OpenClaim := { program := "ytmpijfehmngmgaa", sum := "5d69fead430a426d644f17f1b9a0753fa0b4579bb6649a051b5ded0fddc2fd7a", func := "bootjack/bootjacklaw5.SealBack", spec := "sealBack", apart := false, narrowed := true }
def SealBackUptoSaid : Prop := sealBackUptoRow.holds Try.pinned (OpenSpec.upto sealBackSpec)

/-- 'bootjacklaw5.SealTurns', WHERE WHAT IT READS IS OF BULK AT MOST 1048576: true; the input reads as it did. -/
def sealTurnsUptoRow : OpenClaim := { program := "ytmpijfehmngmgaa", sum := "5d69fead430a426d644f17f1b9a0753fa0b4579bb6649a051b5ded0fddc2fd7a", func := "bootjack/bootjacklaw5.SealTurns", spec := "sealTurns", apart := false, narrowed := true }
def SealTurnsUptoSaid : Prop := sealTurnsUptoRow.holds Try.pinned (OpenSpec.upto sealTurnsSpec)

/-- 'bootjacklaw5.SealMixes', WHERE WHAT IT READS IS OF BULK AT MOST 1048576: true; the input reads as it did. -/
def sealMixesUptoRow : OpenClaim := { program := "ytmpijfehmngmgaa", sum := "5d69fead430a426d644f17f1b9a0753fa0b4579bb6649a051b5ded0fddc2fd7a", func := "bootjack/bootjacklaw5.SealMixes", spec := "sealMixes", apart := false, narrowed := true }
def SealMixesUptoSaid : Prop := sealMixesUptoRow.holds Try.pinned (OpenSpec.upto sealMixesSpec)

/-- 'bootjacklaw5.SealTorn', WHERE WHAT IT READS IS OF BULK AT MOST 1048576: true; the input reads as it did. -/
def sealTornUptoRow : OpenClaim := { program := "ytmpijfehmngmgaa", sum := "5d69fead430a426d644f17f1b9a0753fa0b4579bb6649a051b5ded0fddc2fd7a", func := "bootjack/bootjacklaw5.SealTorn", spec := "sealTorn", apart := false, narrowed := true }
def SealTornUptoSaid : Prop := sealTornUptoRow.holds Try.pinned (OpenSpec.upto sealTornSpec)

/-- 'bootjacklaw3.RegionParts', WHERE WHAT IT READS IS OF BULK AT MOST 1048576: true; the input reads as it did. -/
def regionPartsUptoRow : OpenClaim := { program := "ytmpijfehmngmgaa", sum := "5d69fead430a426d644f17f1b9a0753fa0b4579bb6649a051b5ded0fddc2fd7a", func := "bootjack/bootjacklaw3.RegionParts", spec := "regionParts", apart := false, narrowed := true }
def RegionPartsUptoSaid : Prop := regionPartsUptoRow.holds Try.pinned (OpenSpec.upto regionPartsSpec)

/-- 'bootjacklaw2.FlashRefuses', WHERE WHAT IT READS IS OF BULK AT MOST 1048576: true; the input reads as it did. -/
def flashRefusesUptoRow : OpenClaim := { program := "ytmpijfehmngmgaa", sum := "5d69fead430a426d644f17f1b9a0753fa0b4579bb6649a051b5ded0fddc2fd7a", func := "bootjack/bootjacklaw2.FlashRefuses", spec := "flashRefuses", apart := false, narrowed := true }
def FlashRefusesUptoSaid : Prop := flashRefusesUptoRow.holds Try.pinned (OpenSpec.upto flashRefusesSpec)

/-- 'bootjacklaw2.FlashPlays', WHERE WHAT IT READS IS OF BULK AT MOST 1048576: true; the input reads as it did. -/
def flashPlaysUptoRow : OpenClaim := { program := "ytmpijfehmngmgaa", sum := "5d69fead430a426d644f17f1b9a0753fa0b4579bb6649a051b5ded0fddc2fd7a", func := "bootjack/bootjacklaw2.FlashPlays", spec := "flashPlays", apart := false, narrowed := true }
def FlashPlaysUptoSaid : Prop := flashPlaysUptoRow.holds Try.pinned (OpenSpec.upto flashPlaysSpec)

/-- 'bootjacklaw2.FlashErases', WHERE WHAT IT READS IS OF BULK AT MOST 1048576: true; the input reads as it did. -/
def flashErasesUptoRow : OpenClaim := { program := "ytmpijfehmngmgaa", sum := "5d69fead430a426d644f17f1b9a0753fa0b4579bb6649a051b5ded0fddc2fd7a", func := "bootjack/bootjacklaw2.FlashErases", spec := "flashErases", unfollowed := true, recurses := true, apart := false, narrowed := true }
def FlashErasesUptoSaid : Prop := flashErasesUptoRow.holds Try.pinned (OpenSpec.upto flashErasesSpec)

/-- 'bootjacklaw2.FlashBoots', WHERE WHAT IT READS IS OF BULK AT MOST 1048576: true; the input reads as it did. -/
def flashBootsUptoRow : OpenClaim := { program := "ytmpijfehmngmgaa", sum := "5d69fead430a426d644f17f1b9a0753fa0b4579bb6649a051b5ded0fddc2fd7a", func := "bootjack/bootjacklaw2.FlashBoots", spec := "flashBoots", unfollowed := true, recurses := true, apart := false, narrowed := true }
def FlashBootsUptoSaid : Prop := flashBootsUptoRow.holds Try.pinned (OpenSpec.upto flashBootsSpec)

/-- 'bootjacklaw3.RegionOnly', WHERE WHAT IT READS IS OF BULK AT MOST 1048576: true; the input reads as it did. -/
def regionOnlyUptoRow : OpenClaim := { program := "ytmpijfehmngmgaa", sum := "5d69fead430a426d644f17f1b9a0753fa0b4579bb6649a051b5ded0fddc2fd7a", func := "bootjack/bootjacklaw3.RegionOnly", spec := "regionOnly", apart := false, narrowed := true }
def RegionOnlyUptoSaid : Prop := regionOnlyUptoRow.holds Try.pinned (OpenSpec.upto regionOnlySpec)

/-- 'bootjacklaw3.RegionNone', WHERE WHAT IT READS IS OF BULK AT MOST 1048576: true; the input reads as it did. -/
def regionNoneUptoRow : OpenClaim := { program := "ytmpijfehmngmgaa", sum := "5d69fead430a426d644f17f1b9a0753fa0b4579bb6649a051b5ded0fddc2fd7a", func := "bootjack/bootjacklaw3.RegionNone", spec := "regionNone", unfollowed := true, recurses := true, apart := false, narrowed := true }
def RegionNoneUptoSaid : Prop := regionNoneUptoRow.holds Try.pinned (OpenSpec.upto regionNoneSpec)

/-- 'bootjacklaw3.RegionPlays', WHERE WHAT IT READS IS OF BULK AT MOST 1048576: true; the input reads as it did. -/
def regionPlaysUptoRow : OpenClaim := { program := "ytmpijfehmngmgaa", sum := "5d69fead430a426d644f17f1b9a0753fa0b4579bb6649a051b5ded0fddc2fd7a", func := "bootjack/bootjacklaw3.RegionPlays", spec := "regionPlays", unfollowed := true, recurses := true, apart := false, narrowed := true }
def RegionPlaysUptoSaid : Prop := regionPlaysUptoRow.holds Try.pinned (OpenSpec.upto regionPlaysSpec)

/-- 'bootjacklaw4.CursorFull', WHERE WHAT IT READS IS OF BULK AT MOST 1048576: true; the input reads as it did. -/
def cursorFullUptoRow : OpenClaim := { program := "ytmpijfehmngmgaa", sum := "5d69fead430a426d644f17f1b9a0753fa0b4579bb6649a051b5ded0fddc2fd7a", func := "bootjack/bootjacklaw4.CursorFull", spec := "cursorFull", unfollowed := true, recurses := true, apart := false, narrowed := true }
def CursorFullUptoSaid : Prop := cursorFullUptoRow.holds Try.pinned (OpenSpec.upto cursorFullSpec)

/-- 'bootjacklaw4.CursorParts', WHERE WHAT IT READS IS OF BULK AT MOST 1048576: true; the input reads as it did. -/
def cursorPartsUptoRow : OpenClaim := { program := "ytmpijfehmngmgaa", sum := "5d69fead430a426d644f17f1b9a0753fa0b4579bb6649a051b5ded0fddc2fd7a", func := "bootjack/bootjacklaw4.CursorParts", spec := "cursorParts", unfollowed := true, recurses := true, apart := false, narrowed := true }
def CursorPartsUptoSaid : Prop := cursorPartsUptoRow.holds Try.pinned (OpenSpec.upto cursorPartsSpec)

/-- 'bootjacklaw4.CursorGoesOn', WHERE WHAT IT READS IS OF BULK AT MOST 1048576: true; the input reads as it did. -/
def cursorGoesOnUptoRow : OpenClaim := { program := "ytmpijfehmngmgaa", sum := "5d69fead430a426d644f17f1b9a0753fa0b4579bb6649a051b5ded0fddc2fd7a", func := "bootjack/bootjacklaw4.CursorGoesOn", spec := "cursorGoesOn", unfollowed := true, recurses := true, apart := false, narrowed := true }
def CursorGoesOnUptoSaid : Prop := cursorGoesOnUptoRow.holds Try.pinned (OpenSpec.upto cursorGoesOnSpec)

/-- 'bootjacklaw4.CursorOnce', WHERE WHAT IT READS IS OF BULK AT MOST 1048576: true; the input reads as it did. -/
def cursorOnceUptoRow : OpenClaim := { program := "ytmpijfehmngmgaa", sum := "5d69fead430a426d644f17f1b9a0753fa0b4579bb6649a051b5ded0fddc2fd7a", func := "bootjack/bootjacklaw4.CursorOnce", spec := "cursorOnce", unfollowed := true, recurses := true, apart := false, narrowed := true }
def CursorOnceUptoSaid : Prop := cursorOnceUptoRow.holds Try.pinned (OpenSpec.upto cursorOnceSpec)

/-- 'bootjacklaw4.CursorRepeats', WHERE WHAT IT READS IS OF BULK AT MOST 1048576: true; the input reads as it did. -/
def cursorRepeatsUptoRow : OpenClaim := { program := "ytmpijfehmngmgaa", sum := "5d69fead430a426d644f17f1b9a0753fa0b4579bb6649a051b5ded0fddc2fd7a", func := "bootjack/bootjacklaw4.CursorRepeats", spec := "cursorRepeats", unfollowed := true, recurses := true, apart := false, narrowed := true }
def CursorRepeatsUptoSaid : Prop := cursorRepeatsUptoRow.holds Try.pinned (OpenSpec.upto cursorRepeatsSpec)

/-- 'bootjacklaw4.CursorPlays', WHERE WHAT IT READS IS OF BULK AT MOST 1048576: true; the input reads as it did. -/
def cursorPlaysUptoRow : OpenClaim := { program := "ytmpijfehmngmgaa", sum := "5d69fead430a426d644f17f1b9a0753fa0b4579bb6649a051b5ded0fddc2fd7a", func := "bootjack/bootjacklaw4.CursorPlays", spec := "cursorPlays", unfollowed := true, recurses := true, apart := false, narrowed := true }
def CursorPlaysUptoSaid : Prop := cursorPlaysUptoRow.holds Try.pinned (OpenSpec.upto cursorPlaysSpec)

/-- 'bootjacklaw22.JournalEpochs', WHERE WHAT IT READS IS OF BULK AT MOST 1048576: true; the input reads as it did. -/
def journalEpochsUptoRow : OpenClaim := { program := "ytmpijfehmngmgaa", sum := "5d69fead430a426d644f17f1b9a0753fa0b4579bb6649a051b5ded0fddc2fd7a", func := "bootjack/bootjacklaw22.JournalEpochs", spec := "journalEpochs", unfollowed := true, recurses := true, apart := false, narrowed := true }
def JournalEpochsUptoSaid : Prop := journalEpochsUptoRow.holds Try.pinned (OpenSpec.upto journalEpochsSpec)

/-- 'bootjacklaw22.JournalCompacts', WHERE WHAT IT READS IS OF BULK AT MOST 1048576: true; the input reads as it did. -/
def journalCompactsUptoRow : OpenClaim := { program := "ytmpijfehmngmgaa", sum := "5d69fead430a426d644f17f1b9a0753fa0b4579bb6649a051b5ded0fddc2fd7a", func := "bootjack/bootjacklaw22.JournalCompacts", spec := "journalCompacts", unfollowed := true, recurses := true, apart := false, narrowed := true }
def JournalCompactsUptoSaid : Prop := journalCompactsUptoRow.holds Try.pinned (OpenSpec.upto journalCompactsSpec)

/-- 'bootjacklaw22.JournalBack', WHERE WHAT IT READS IS OF BULK AT MOST 1048576: true; the input reads as it did. -/
def journalBackUptoRow : OpenClaim := { program := "ytmpijfehmngmgaa", sum := "5d69fead430a426d644f17f1b9a0753fa0b4579bb6649a051b5ded0fddc2fd7a", func := "bootjack/bootjacklaw22.JournalBack", spec := "journalBack", unfollowed := true, recurses := true, apart := false, narrowed := true }
def JournalBackUptoSaid : Prop := journalBackUptoRow.holds Try.pinned (OpenSpec.upto journalBackSpec)

/-- 'bootjacklaw22.JournalWrong', WHERE WHAT IT READS IS OF BULK AT MOST 1048576: true; the input reads as it did. -/
def journalWrongUptoRow : OpenClaim := { program := "ytmpijfehmngmgaa", sum := "5d69fead430a426d644f17f1b9a0753fa0b4579bb6649a051b5ded0fddc2fd7a", func := "bootjack/bootjacklaw22.JournalWrong", spec := "journalWrong", unfollowed := true, recurses := true, apart := false, narrowed := true }
def JournalWrongUptoSaid : Prop := journalWrongUptoRow.holds Try.pinned (OpenSpec.upto journalWrongSpec)

/-- 'bootjacklaw22.JournalCuts', WHERE WHAT IT READS IS OF BULK AT MOST 1048576: true; the input reads as it did. -/
def journalCutsUptoRow : OpenClaim := { program := "ytmpijfehmngmgaa", sum := "5d69fead430a426d644f17f1b9a0753fa0b4579bb6649a051b5ded0fddc2fd7a", func := "bootjack/bootjacklaw22.JournalCuts", spec := "journalCuts", unfollowed := true, recurses := true, apart := false, narrowed := true }
def JournalCutsUptoSaid : Prop := journalCutsUptoRow.holds Try.pinned (OpenSpec.upto journalCutsSpec)

/-- 'bootjacklaw23.LedgerTells', WHERE WHAT IT READS IS OF BULK AT MOST 1048576: true; the input reads as it did. -/
def ledgerTellsUptoRow : OpenClaim := { program := "ytmpijfehmngmgaa", sum := "5d69fead430a426d644f17f1b9a0753fa0b4579bb6649a051b5ded0fddc2fd7a", func := "bootjack/bootjacklaw23.LedgerTells", spec := "ledgerTells", unfollowed := true, recurses := true, apart := false, narrowed := true }
def LedgerTellsUptoSaid : Prop := ledgerTellsUptoRow.holds Try.pinned (OpenSpec.upto ledgerTellsSpec)

/-- 'bootjacklaw23.LedgerFolds', WHERE WHAT IT READS IS OF BULK AT MOST 1048576: true; the input reads as it did. -/
def ledgerFoldsUptoRow : OpenClaim := { program := "ytmpijfehmngmgaa", sum := "5d69fead430a426d644f17f1b9a0753fa0b4579bb6649a051b5ded0fddc2fd7a", func := "bootjack/bootjacklaw23.LedgerFolds", spec := "ledgerFolds", unfollowed := true, recurses := true, apart := false, narrowed := true }
def LedgerFoldsUptoSaid : Prop := ledgerFoldsUptoRow.holds Try.pinned (OpenSpec.upto ledgerFoldsSpec)

/-- 'bootjacklaw23.LedgerBack', WHERE WHAT IT READS IS OF BULK AT MOST 1048576: true; the input reads as it did. -/
def ledgerBackUptoRow : OpenClaim := { program := "ytmpijfehmngmgaa", sum := "5d69fead430a426d644f17f1b9a0753fa0b4579bb6649a051b5ded0fddc2fd7a", func := "bootjack/bootjacklaw23.LedgerBack", spec := "ledgerBack", unfollowed := true, recurses := true, apart := false, narrowed := true }
def LedgerBackUptoSaid : Prop := ledgerBackUptoRow.holds Try.pinned (OpenSpec.upto ledgerBackSpec)

/-- 'bootjacklaw23.LedgerFloor', WHERE WHAT IT READS IS OF BULK AT MOST 1048576: true; the input reads as it did. -/
def ledgerFloorUptoRow : OpenClaim := { program := "ytmpijfehmngmgaa", sum := "5d69fead430a426d644f17f1b9a0753fa0b4579bb6649a051b5ded0fddc2fd7a", func := "bootjack/bootjacklaw23.LedgerFloor", spec := "ledgerFloor", unfollowed := true, recurses := true, apart := false, narrowed := true }
def LedgerFloorUptoSaid : Prop := ledgerFloorUptoRow.holds Try.pinned (OpenSpec.upto ledgerFloorSpec)

/-- 'bootjacklaw23.LedgerCuts', WHERE WHAT IT READS IS OF BULK AT MOST 1048576: true; the input reads as it did. -/
def ledgerCutsUptoRow : OpenClaim := { program := "ytmpijfehmngmgaa", sum := "5d69fead430a426d644f17f1b9a0753fa0b4579bb6649a051b5ded0fddc2fd7a", func := "bootjack/bootjacklaw23.LedgerCuts", spec := "ledgerCuts", unfollowed := true, recurses := true, apart := false, narrowed := true }
def LedgerCutsUptoSaid : Prop := ledgerCutsUptoRow.holds Try.pinned (OpenSpec.upto ledgerCutsSpec)

end Rows
end Go.Proofs.Ytmpijfehmngmgaa
