/-
  No cell of these rows narrows 'for every input' (looked for: loops, veiled, ifaces, maps, wideKeys, modest, calm, conditions, laid).
  DERIVED. THE GIVEN ROWS OF THIS SEAT. 14 by the template 'for every input the law returns true; each argument reads behind the call as it read before'; 0 by the template 'total and deterministic' (their statements: YtngofnlhbhfigaaTotals.lean).
  GIVEN WITH THE SEED: the statements are not yours to turn. If you find one false, say at which input.
  Laid BY PROGRAM, IN A SANDBOX (cutbox-rows.mjs): the forced cells as the released guide's own fill.sh prints them over the translation 9e807ca18140340d… (all of the seat's roots in one cut). By AI agents, Wed Nov 11 2026. No macro, syntax, notation, axiom, sorry.
-/
import Derived.Test.YtngofnlhbhfigaaChecked
import GoSem.Claim
import GoSem.ClaimJoined
import GoSem.ClaimMapViews
import Derived.JoinedTies
import Derived.KernelRfl
namespace Go.Proofs.Ytngofnlhbhfigaa
/- THE CELL 'sum', in the pinned program and in every row, IS THE sha256 OF THE DUMP (.gsa) THAT YtngofnlhbhfigaaProg.lean LOADS. Nothing in Lean hashes anything: it is a label: what it is worth is what the hold of that sum in a sandbox is worth. -/
noncomputable def Try.pinned : Pinned := { name := "ytngofnlhbhfigaa", sum := "9e807ca18140340d0d0339d09154606ca73055af0391314be90b01a5d7d8018f", checked := Try.checked }
namespace Rows
def none {H : Type} : Left H := { results := [], args := [] }

/-- 'bootjacklaw3.RegionParts': WHATEVER THE INPUT: true; the input reads as it did. -/
def regionPartsSpec : ChangeSpec := { name := "regionParts", fn := fun _ => fun
  | [d1, d2, d3, d4, d5] => { results := [.lit (.bool true)], args := [d1, d2, d3, d4, d5] }
  | _ => none }
def regionPartsRow : OpenClaim := { program := "ytngofnlhbhfigaa", sum := "9e807ca18140340d0d0339d09154606ca73055af0391314be90b01a5d7d8018f", func := "bootjack/bootjacklaw3.RegionParts", spec := "regionParts", apart := false }
def RegionPartsSaid : Prop := regionPartsRow.holds Try.pinned (OpenSpec.ofChange regionPartsSpec)

/-- ITS FALSE NEIGHBOUR: 'it returns false'. Refute it at one input. -/
def regionPartsWrong : ChangeSpec := { name := "regionParts", fn := fun _ => fun
  | [d1, d2, d3, d4, d5] => { results := [.lit (.bool false)], args := [d1, d2, d3, d4, d5] }
  | _ => none }
def RegionPartsWrongFalsely : Prop := regionPartsRow.holds Try.pinned (OpenSpec.ofChange regionPartsWrong)

/-- 'bootjacklaw2.FlashRefuses': WHATEVER THE INPUT: true; the input reads as it did. -/
def flashRefusesSpec : ChangeSpec := { name := "flashRefuses", fn := fun _ => fun
  | [d1, d2, d3, d4] => { results := [.lit (.bool true)], args := [d1, d2, d3, d4] }
  | _ => none }
def flashRefusesRow : OpenClaim := { program := "ytngofnlhbhfigaa", sum := "9e807ca18140340d0d0339d09154606ca73055af0391314be90b01a5d7d8018f", func := "bootjack/bootjacklaw2.FlashRefuses", spec := "flashRefuses", apart := false }
def FlashRefusesSaid : Prop := flashRefusesRow.holds Try.pinned (OpenSpec.ofChange flashRefusesSpec)

/-- ITS FALSE NEIGHBOUR: 'it returns false'. Refute it at one input. -/
def flashRefusesWrong : ChangeSpec := { name := "flashRefuses", fn := fun _ => fun
  | [d1, d2, d3, d4] => { results := [.lit (.bool false)], args := [d1, d2, d3, d4] }
  | _ => none }
def FlashRefusesWrongFalsely : Prop := flashRefusesRow.holds Try.pinned (OpenSpec.ofChange flashRefusesWrong)

/-- 'bootjacklaw2.FlashPlays': WHATEVER THE INPUT: true; the input reads as it did. -/
def flashPlaysSpec : ChangeSpec := { name := "flashPlays", fn := fun _ => fun
  | [d1, d2] => { results := [.lit (.bool true)], args := [d1, d2] }
  | _ => none }
def flashPlaysRow : OpenClaim := { program := "ytngofnlhbhfigaa", sum := "9e807ca18140340d0d0339d09154606ca73055af0391314be90b01a5d7d8018f", func := "bootjack/bootjacklaw2.FlashPlays", spec := "flashPlays", apart := false }
def FlashPlaysSaid : Prop := flashPlaysRow.holds Try.pinned (OpenSpec.ofChange flashPlaysSpec)

/-- ITS FALSE NEIGHBOUR: 'it returns false'. Refute it at one input. -/
def flashPlaysWrong : ChangeSpec := { name := "flashPlays", fn := fun _ => fun
  | [d1, d2] => { results := [.lit (.bool false)], args := [d1, d2] }
  | _ => none }
def FlashPlaysWrongFalsely : Prop := flashPlaysRow.holds Try.pinned (OpenSpec.ofChange flashPlaysWrong)

/-- 'bootjacklaw2.FlashErases': WHATEVER THE INPUT: true; the input reads as it did. -/
def flashErasesSpec : ChangeSpec := { name := "flashErases", fn := fun _ => fun
  | [d1, d2, d3, d4] => { results := [.lit (.bool true)], args := [d1, d2, d3, d4] }
  | _ => none }
def flashErasesRow : OpenClaim := { program := "ytngofnlhbhfigaa", sum := "9e807ca18140340d0d0339d09154606ca73055af0391314be90b01a5d7d8018f", func := "bootjack/bootjacklaw2.FlashErases", spec := "flashErases", unfollowed := true, recurses := true, apart := false }
def FlashErasesSaid : Prop := flashErasesRow.holds Try.pinned (OpenSpec.ofChange flashErasesSpec)

/-- ITS FALSE NEIGHBOUR: 'it returns false'. Refute it at one input. -/
def flashErasesWrong : ChangeSpec := { name := "flashErases", fn := fun _ => fun
  | [d1, d2, d3, d4] => { results := [.lit (.bool false)], args := [d1, d2, d3, d4] }
  | _ => none }
def FlashErasesWrongFalsely : Prop := flashErasesRow.holds Try.pinned (OpenSpec.ofChange flashErasesWrong)

/-- 'bootjacklaw2.FlashBoots': WHATEVER THE INPUT: true; the input reads as it did. -/
def flashBootsSpec : ChangeSpec := { name := "flashBoots", fn := fun _ => fun
  | [d1, d2] => { results := [.lit (.bool true)], args := [d1, d2] }
  | _ => none }
def flashBootsRow : OpenClaim := { program := "ytngofnlhbhfigaa", sum := "9e807ca18140340d0d0339d09154606ca73055af0391314be90b01a5d7d8018f", func := "bootjack/bootjacklaw2.FlashBoots", spec := "flashBoots", unfollowed := true, recurses := true, apart := false }
def FlashBootsSaid : Prop := flashBootsRow.holds Try.pinned (OpenSpec.ofChange flashBootsSpec)

/-- ITS FALSE NEIGHBOUR: 'it returns false'. Refute it at one input. -/
def flashBootsWrong : ChangeSpec := { name := "flashBoots", fn := fun _ => fun
  | [d1, d2] => { results := [.lit (.bool false)], args := [d1, d2] }
  | _ => none }
def FlashBootsWrongFalsely : Prop := flashBootsRow.holds Try.pinned (OpenSpec.ofChange flashBootsWrong)

/-- 'bootjacklaw3.RegionOnly': WHATEVER THE INPUT: true; the input reads as it did. -/
def regionOnlySpec : ChangeSpec := { name := "regionOnly", fn := fun _ => fun
  | [d1, d2, d3] => { results := [.lit (.bool true)], args := [d1, d2, d3] }
  | _ => none }
def regionOnlyRow : OpenClaim := { program := "ytngofnlhbhfigaa", sum := "9e807ca18140340d0d0339d09154606ca73055af0391314be90b01a5d7d8018f", func := "bootjack/bootjacklaw3.RegionOnly", spec := "regionOnly", apart := false }
def RegionOnlySaid : Prop := regionOnlyRow.holds Try.pinned (OpenSpec.ofChange regionOnlySpec)

/-- ITS FALSE NEIGHBOUR: 'it returns false'. Refute it at one input. -/
def regionOnlyWrong : ChangeSpec := { name := "regionOnly", fn := fun _ => fun
  | [d1, d2, d3] => { results := [.lit (.bool false)], args := [d1, d2, d3] }
  | _ => none }
def RegionOnlyWrongFalsely : Prop := regionOnlyRow.holds Try.pinned (OpenSpec.ofChange regionOnlyWrong)

/-- 'bootjacklaw3.RegionNone': WHATEVER THE INPUT: true; the input reads as it did. -/
def regionNoneSpec : ChangeSpec := { name := "regionNone", fn := fun _ => fun
  | [d1, d2, d3] => { results := [.lit (.bool true)], args := [d1, d2, d3] }
  | _ => none }
def regionNoneRow : OpenClaim := { program := "ytngofnlhbhfigaa", sum := "9e807ca18140340d0d0339d09154606ca73055af0391314be90b01a5d7d8018f", func := "bootjack/bootjacklaw3.RegionNone", spec := "regionNone", unfollowed := true, recurses := true, apart := false }
def RegionNoneSaid : Prop := regionNoneRow.holds Try.pinned (OpenSpec.ofChange regionNoneSpec)

/-- ITS FALSE NEIGHBOUR: 'it returns false'. Refute it at one input. -/
def regionNoneWrong : ChangeSpec := { name := "regionNone", fn := fun _ => fun
  | [d1, d2, d3] => { results := [.lit (.bool false)], args := [d1, d2, d3] }
  | _ => none }
def RegionNoneWrongFalsely : Prop := regionNoneRow.holds Try.pinned (OpenSpec.ofChange regionNoneWrong)

/-- 'bootjacklaw3.RegionPlays': WHATEVER THE INPUT: true; the input reads as it did. -/
def regionPlaysSpec : ChangeSpec := { name := "regionPlays", fn := fun _ => fun
  | [d1, d2, d3] => { results := [.lit (.bool true)], args := [d1, d2, d3] }
  | _ => none }
def regionPlaysRow : OpenClaim := { program := "ytngofnlhbhfigaa", sum := "9e807ca18140340d0d0339d09154606ca73055af0391314be90b01a5d7d8018f", func := "bootjack/bootjacklaw3.RegionPlays", spec := "regionPlays", unfollowed := true, recurses := true, apart := false }
def RegionPlaysSaid : Prop := regionPlaysRow.holds Try.pinned (OpenSpec.ofChange regionPlaysSpec)

/-- ITS FALSE NEIGHBOUR: 'it returns false'. Refute it at one input. -/
def regionPlaysWrong : ChangeSpec := { name := "regionPlays", fn := fun _ => fun
  | [d1, d2, d3] => { results := [.lit (.bool false)], args := [d1, d2, d3] }
  | _ => none }
def RegionPlaysWrongFalsely : Prop := regionPlaysRow.holds Try.pinned (OpenSpec.ofChange regionPlaysWrong)

/-- 'bootjacklaw4.CursorFull': WHATEVER THE INPUT: true; the input reads as it did. -/
def cursorFullSpec : ChangeSpec := { name := "cursorFull", fn := fun _ => fun
  | [d1, d2] => { results := [.lit (.bool true)], args := [d1, d2] }
  | _ => none }
def cursorFullRow : OpenClaim := { program := "ytngofnlhbhfigaa", sum := "9e807ca18140340d0d0339d09154606ca73055af0391314be90b01a5d7d8018f", func := "bootjack/bootjacklaw4.CursorFull", spec := "cursorFull", unfollowed := true, recurses := true, apart := false }
def CursorFullSaid : Prop := cursorFullRow.holds Try.pinned (OpenSpec.ofChange cursorFullSpec)

/-- ITS FALSE NEIGHBOUR: 'it returns false'. Refute it at one input. -/
def cursorFullWrong : ChangeSpec := { name := "cursorFull", fn := fun _ => fun
  | [d1, d2] => { results := [.lit (.bool false)], args := [d1, d2] }
  | _ => none }
def CursorFullWrongFalsely : Prop := cursorFullRow.holds Try.pinned (OpenSpec.ofChange cursorFullWrong)

/-- 'bootjacklaw4.CursorParts': WHATEVER THE INPUT: true; the input reads as it did. -/
def cursorPartsSpec : ChangeSpec := { name := "cursorParts", fn := fun _ => fun
  | [d1, d2, d3, d4] => { results := [.lit (.bool true)], args := [d1, d2, d3, d4] }
  | _ => none }
def cursorPartsRow : OpenClaim := { program := "ytngofnlhbhfigaa", sum := "9e807ca18140340d0d0339d09154606ca73055af0391314be90b01a5d7d8018f", func := "bootjack/bootjacklaw4.CursorParts", spec := "cursorParts", unfollowed := true, recurses := true, apart := false }
def CursorPartsSaid : Prop := cursorPartsRow.holds Try.pinned (OpenSpec.ofChange cursorPartsSpec)

/-- ITS FALSE NEIGHBOUR: 'it returns false'. Refute it at one input. -/
def cursorPartsWrong : ChangeSpec := { name := "cursorParts", fn := fun _ => fun
  | [d1, d2, d3, d4] => { results := [.lit (.bool false)], args := [d1, d2, d3, d4] }
  | _ => none }
def CursorPartsWrongFalsely : Prop := cursorPartsRow.holds Try.pinned (OpenSpec.ofChange cursorPartsWrong)

/-- 'bootjacklaw4.CursorGoesOn': WHATEVER THE INPUT: true; the input reads as it did. -/
def cursorGoesOnSpec : ChangeSpec := { name := "cursorGoesOn", fn := fun _ => fun
  | [d1, d2, d3] => { results := [.lit (.bool true)], args := [d1, d2, d3] }
  | _ => none }
def cursorGoesOnRow : OpenClaim := { program := "ytngofnlhbhfigaa", sum := "9e807ca18140340d0d0339d09154606ca73055af0391314be90b01a5d7d8018f", func := "bootjack/bootjacklaw4.CursorGoesOn", spec := "cursorGoesOn", unfollowed := true, recurses := true, apart := false }
def CursorGoesOnSaid : Prop := cursorGoesOnRow.holds Try.pinned (OpenSpec.ofChange cursorGoesOnSpec)

/-- ITS FALSE NEIGHBOUR: 'it returns false'. Refute it at one input. -/
def cursorGoesOnWrong : ChangeSpec := { name := "cursorGoesOn", fn := fun _ => fun
  | [d1, d2, d3] => { results := [.lit (.bool false)], args := [d1, d2, d3] }
  | _ => none }
def CursorGoesOnWrongFalsely : Prop := cursorGoesOnRow.holds Try.pinned (OpenSpec.ofChange cursorGoesOnWrong)

/-- 'bootjacklaw4.CursorOnce': WHATEVER THE INPUT: true; the input reads as it did. -/
def cursorOnceSpec : ChangeSpec := { name := "cursorOnce", fn := fun _ => fun
  | [d1, d2, d3, d4] => { results := [.lit (.bool true)], args := [d1, d2, d3, d4] }
  | _ => none }
def cursorOnceRow : OpenClaim := { program := "ytngofnlhbhfigaa", sum := "9e807ca18140340d0d0339d09154606ca73055af0391314be90b01a5d7d8018f", func := "bootjack/bootjacklaw4.CursorOnce", spec := "cursorOnce", unfollowed := true, recurses := true, apart := false }
def CursorOnceSaid : Prop := cursorOnceRow.holds Try.pinned (OpenSpec.ofChange cursorOnceSpec)

/-- ITS FALSE NEIGHBOUR: 'it returns false'. Refute it at one input. -/
def cursorOnceWrong : ChangeSpec := { name := "cursorOnce", fn := fun _ => fun
  | [d1, d2, d3, d4] => { results := [.lit (.bool false)], args := [d1, d2, d3, d4] }
  | _ => none }
def CursorOnceWrongFalsely : Prop := cursorOnceRow.holds Try.pinned (OpenSpec.ofChange cursorOnceWrong)

/-- 'bootjacklaw4.CursorRepeats': WHATEVER THE INPUT: true; the input reads as it did. -/
def cursorRepeatsSpec : ChangeSpec := { name := "cursorRepeats", fn := fun _ => fun
  | [d1, d2, d3, d4, d5] => { results := [.lit (.bool true)], args := [d1, d2, d3, d4, d5] }
  | _ => none }
def cursorRepeatsRow : OpenClaim := { program := "ytngofnlhbhfigaa", sum := "9e807ca18140340d0d0339d09154606ca73055af0391314be90b01a5d7d8018f", func := "bootjack/bootjacklaw4.CursorRepeats", spec := "cursorRepeats", unfollowed := true, recurses := true, apart := false }
def CursorRepeatsSaid : Prop := cursorRepeatsRow.holds Try.pinned (OpenSpec.ofChange cursorRepeatsSpec)

/-- ITS FALSE NEIGHBOUR: 'it returns false'. Refute it at one input. -/
def cursorRepeatsWrong : ChangeSpec := { name := "cursorRepeats", fn := fun _ => fun
  | [d1, d2, d3, d4, d5] => { results := [.lit (.bool false)], args := [d1, d2, d3, d4, d5] }
  | _ => none }
def CursorRepeatsWrongFalsely : Prop := cursorRepeatsRow.holds Try.pinned (OpenSpec.ofChange cursorRepeatsWrong)

/-- 'bootjacklaw4.CursorPlays': WHATEVER THE INPUT: true; the input reads as it did. -/
def cursorPlaysSpec : ChangeSpec := { name := "cursorPlays", fn := fun _ => fun
  | [d1, d2, d3] => { results := [.lit (.bool true)], args := [d1, d2, d3] }
  | _ => none }
def cursorPlaysRow : OpenClaim := { program := "ytngofnlhbhfigaa", sum := "9e807ca18140340d0d0339d09154606ca73055af0391314be90b01a5d7d8018f", func := "bootjack/bootjacklaw4.CursorPlays", spec := "cursorPlays", unfollowed := true, recurses := true, apart := false }
def CursorPlaysSaid : Prop := cursorPlaysRow.holds Try.pinned (OpenSpec.ofChange cursorPlaysSpec)

/-- ITS FALSE NEIGHBOUR: 'it returns false'. Refute it at one input. -/
def cursorPlaysWrong : ChangeSpec := { name := "cursorPlays", fn := fun _ => fun
  | [d1, d2, d3] => { results := [.lit (.bool false)], args := [d1, d2, d3] }
  | _ => none }
def CursorPlaysWrongFalsely : Prop := cursorPlaysRow.holds Try.pinned (OpenSpec.ofChange cursorPlaysWrong)

/- THE SECOND FORM. 'bulk': how many values and letters a reading holds, each counted each time it is reached (what is shared counts as often as it is met; a slice's spare places count too). A statement '..UptoSaid' is the law's where the arguments, and the package variables that the reading takes, are together of bulk at most 1048576: NARROWER than '..Said'. Prove '..Said' where nothing that the law and all that it calls make is longer than what came in: it says more and counts as full. Else prove '..UptoSaid'. A law counts once. -/
mutual
def uptoBulk {H : Type} : DataW H → Nat
  | .lit (.string bytes) => bytes.length + 1
  | .lit _ => 1
  | .nil => 1
  | .ptr d => uptoBulk d + 1
  | .slice elems spare => uptoBulkAll elems + uptoBulkAll spare + 1
  | .agg parts => uptoBulkAll parts + 1
  | .iface _ d => uptoBulk d + 1
  | .map entries => uptoBulkEntries entries + 1
  | .held _ => 1
def uptoBulkAll {H : Type} : List (DataW H) → Nat
  | [] => 0
  | d :: r => uptoBulk d + uptoBulkAll r
def uptoBulkEntries {H : Type} : List (Lit × DataW H) → Nat
  | [] => 0
  | x :: r => uptoBulkEntry x + uptoBulkEntries r
def uptoBulkEntry {H : Type} : Lit × DataW H → Nat
  | (.string bytes, d) => bytes.length + uptoBulk d + 1
  | (_, d) => uptoBulk d + 1
 end
def uptoSmall : (H : Type) → List (DataW H) → Bool := fun _ ds => decide (uptoBulkAll ds ≤ 1048576)
def OpenSpec.upto (s : _root_.Go.ChangeSpec) : _root_.Go.OpenSpec := { _root_.Go.OpenSpec.ofChange s with cond := some uptoSmall }

/-- 'bootjacklaw3.RegionParts', WHERE WHAT IT READS IS OF BULK AT MOST 1048576: true; the input reads as it did. -/
def regionPartsUptoRow : OpenClaim := { program := "ytngofnlhbhfigaa", sum := "9e807ca18140340d0d0339d09154606ca73055af0391314be90b01a5d7d8018f", func := "bootjack/bootjacklaw3.RegionParts", spec := "regionParts", apart := false, narrowed := true }
def RegionPartsUptoSaid : Prop := regionPartsUptoRow.holds Try.pinned (OpenSpec.upto regionPartsSpec)

/-- 'bootjacklaw2.FlashRefuses', WHERE WHAT IT READS IS OF BULK AT MOST 1048576: true; the input reads as it did. -/
def flashRefusesUptoRow : OpenClaim := { program := "ytngofnlhbhfigaa", sum := "9e807ca18140340d0d0339d09154606ca73055af0391314be90b01a5d7d8018f", func := "bootjack/bootjacklaw2.FlashRefuses", spec := "flashRefuses", apart := false, narrowed := true }
def FlashRefusesUptoSaid : Prop := flashRefusesUptoRow.holds Try.pinned (OpenSpec.upto flashRefusesSpec)

/-- 'bootjacklaw2.FlashPlays', WHERE WHAT IT READS IS OF BULK AT MOST 1048576: true; the input reads as it did. -/
def flashPlaysUptoRow : OpenClaim := { program := "ytngofnlhbhfigaa", sum := "9e807ca18140340d0d0339d09154606ca73055af0391314be90b01a5d7d8018f", func := "bootjack/bootjacklaw2.FlashPlays", spec := "flashPlays", apart := false, narrowed := true }
def FlashPlaysUptoSaid : Prop := flashPlaysUptoRow.holds Try.pinned (OpenSpec.upto flashPlaysSpec)

/-- 'bootjacklaw2.FlashErases', WHERE WHAT IT READS IS OF BULK AT MOST 1048576: true; the input reads as it did. -/
def flashErasesUptoRow : OpenClaim := { program := "ytngofnlhbhfigaa", sum := "9e807ca18140340d0d0339d09154606ca73055af0391314be90b01a5d7d8018f", func := "bootjack/bootjacklaw2.FlashErases", spec := "flashErases", unfollowed := true, recurses := true, apart := false, narrowed := true }
def FlashErasesUptoSaid : Prop := flashErasesUptoRow.holds Try.pinned (OpenSpec.upto flashErasesSpec)

/-- 'bootjacklaw2.FlashBoots', WHERE WHAT IT READS IS OF BULK AT MOST 1048576: true; the input reads as it did. -/
def flashBootsUptoRow : OpenClaim := { program := "ytngofnlhbhfigaa", sum := "9e807ca18140340d0d0339d09154606ca73055af0391314be90b01a5d7d8018f", func := "bootjack/bootjacklaw2.FlashBoots", spec := "flashBoots", unfollowed := true, recurses := true, apart := false, narrowed := true }
def FlashBootsUptoSaid : Prop := flashBootsUptoRow.holds Try.pinned (OpenSpec.upto flashBootsSpec)

/-- 'bootjacklaw3.RegionOnly', WHERE WHAT IT READS IS OF BULK AT MOST 1048576: true; the input reads as it did. -/
def regionOnlyUptoRow : OpenClaim := { program := "ytngofnlhbhfigaa", sum := "9e807ca18140340d0d0339d09154606ca73055af0391314be90b01a5d7d8018f", func := "bootjack/bootjacklaw3.RegionOnly", spec := "regionOnly", apart := false, narrowed := true }
def RegionOnlyUptoSaid : Prop := regionOnlyUptoRow.holds Try.pinned (OpenSpec.upto regionOnlySpec)

/-- 'bootjacklaw3.RegionNone', WHERE WHAT IT READS IS OF BULK AT MOST 1048576: true; the input reads as it did. -/
def regionNoneUptoRow : OpenClaim := { program := "ytngofnlhbhfigaa", sum := "9e807ca18140340d0d0339d09154606ca73055af0391314be90b01a5d7d8018f", func := "bootjack/bootjacklaw3.RegionNone", spec := "regionNone", unfollowed := true, recurses := true, apart := false, narrowed := true }
def RegionNoneUptoSaid : Prop := regionNoneUptoRow.holds Try.pinned (OpenSpec.upto regionNoneSpec)

/-- 'bootjacklaw3.RegionPlays', WHERE WHAT IT READS IS OF BULK AT MOST 1048576: true; the input reads as it did. -/
def regionPlaysUptoRow : OpenClaim := { program := "ytngofnlhbhfigaa", sum := "9e807ca18140340d0d0339d09154606ca73055af0391314be90b01a5d7d8018f", func := "bootjack/bootjacklaw3.RegionPlays", spec := "regionPlays", unfollowed := true, recurses := true, apart := false, narrowed := true }
def RegionPlaysUptoSaid : Prop := regionPlaysUptoRow.holds Try.pinned (OpenSpec.upto regionPlaysSpec)

/-- 'bootjacklaw4.CursorFull', WHERE WHAT IT READS IS OF BULK AT MOST 1048576: true; the input reads as it did. -/
def cursorFullUptoRow : OpenClaim := { program := "ytngofnlhbhfigaa", sum := "9e807ca18140340d0d0339d09154606ca73055af0391314be90b01a5d7d8018f", func := "bootjack/bootjacklaw4.CursorFull", spec := "cursorFull", unfollowed := true, recurses := true, apart := false, narrowed := true }
def CursorFullUptoSaid : Prop := cursorFullUptoRow.holds Try.pinned (OpenSpec.upto cursorFullSpec)

/-- 'bootjacklaw4.CursorParts', WHERE WHAT IT READS IS OF BULK AT MOST 1048576: true; the input reads as it did. -/
def cursorPartsUptoRow : OpenClaim := { program := "ytngofnlhbhfigaa", sum := "9e807ca18140340d0d0339d09154606ca73055af0391314be90b01a5d7d8018f", func := "bootjack/bootjacklaw4.CursorParts", spec := "cursorParts", unfollowed := true, recurses := true, apart := false, narrowed := true }
def CursorPartsUptoSaid : Prop := cursorPartsUptoRow.holds Try.pinned (OpenSpec.upto cursorPartsSpec)

/-- 'bootjacklaw4.CursorGoesOn', WHERE WHAT IT READS IS OF BULK AT MOST 1048576: true; the input reads as it did. -/
def cursorGoesOnUptoRow : OpenClaim := { program := "ytngofnlhbhfigaa", sum := "9e807ca18140340d0d0339d09154606ca73055af0391314be90b01a5d7d8018f", func := "bootjack/bootjacklaw4.CursorGoesOn", spec := "cursorGoesOn", unfollowed := true, recurses := true, apart := false, narrowed := true }
def CursorGoesOnUptoSaid : Prop := cursorGoesOnUptoRow.holds Try.pinned (OpenSpec.upto cursorGoesOnSpec)

/-- 'bootjacklaw4.CursorOnce', WHERE WHAT IT READS IS OF BULK AT MOST 1048576: true; the input reads as it did. -/
def cursorOnceUptoRow : OpenClaim := { program := "ytngofnlhbhfigaa", sum := "9e807ca18140340d0d0339d09154606ca73055af0391314be90b01a5d7d8018f", func := "bootjack/bootjacklaw4.CursorOnce", spec := "cursorOnce", unfollowed := true, recurses := true, apart := false, narrowed := true }
def CursorOnceUptoSaid : Prop := cursorOnceUptoRow.holds Try.pinned (OpenSpec.upto cursorOnceSpec)

/-- 'bootjacklaw4.CursorRepeats', WHERE WHAT IT READS IS OF BULK AT MOST 1048576: true; the input reads as it did. -/
def cursorRepeatsUptoRow : OpenClaim := { program := "ytngofnlhbhfigaa", sum := "9e807ca18140340d0d0339d09154606ca73055af0391314be90b01a5d7d8018f", func := "bootjack/bootjacklaw4.CursorRepeats", spec := "cursorRepeats", unfollowed := true, recurses := true, apart := false, narrowed := true }
def CursorRepeatsUptoSaid : Prop := cursorRepeatsUptoRow.holds Try.pinned (OpenSpec.upto cursorRepeatsSpec)

/-- 'bootjacklaw4.CursorPlays', WHERE WHAT IT READS IS OF BULK AT MOST 1048576: true; the input reads as it did. -/
def cursorPlaysUptoRow : OpenClaim := { program := "ytngofnlhbhfigaa", sum := "9e807ca18140340d0d0339d09154606ca73055af0391314be90b01a5d7d8018f", func := "bootjack/bootjacklaw4.CursorPlays", spec := "cursorPlays", unfollowed := true, recurses := true, apart := false, narrowed := true }
def CursorPlaysUptoSaid : Prop := cursorPlaysUptoRow.holds Try.pinned (OpenSpec.upto cursorPlaysSpec)

end Rows
end Go.Proofs.Ytngofnlhbhfigaa
