/- What the words of the seat's head say (the kernel is spared the long string), and the program's facts that every claim needs. -/
import Derived.Test.YtggjdkkobhefeaaRows
import Derived.ProofKit
namespace Go.Proofs.Ytggjdkkobhefeaa
open Go.RowKit
def initWords : List (List Char) := [['c', 'u', 't'],
  ['a', 't'],
  ['b', 'o', 'o', 't', 'j', 'a', 'c', 'k', '/', 'b', 'o', 'o', 't', 'j', 'a', 'c', 'k', 'l', 'a', 'w', '2', '0', '.', 'L', 'z', 'P', 'l', 'a', 'y', 's'],
  ['b', 'o', 'o', 't', 'j', 'a', 'c', 'k', '/', 'b', 'o', 'o', 't', 'j', 'a', 'c', 'k', 'l', 'a', 'w', '2', '0', '.', 'L', 'z', 'W', 'a', 'i', 't', 's'],
  ['b', 'o', 'o', 't', 'j', 'a', 'c', 'k', '/', 'b', 'o', 'o', 't', 'j', 'a', 'c', 'k', 'l', 'a', 'w', '2', '0', '.', 'L', 'z', 'N', 'o', 'n', 'e'],
  ['b', 'o', 'o', 't', 'j', 'a', 'c', 'k', '/', 'b', 'o', 'o', 't', 'j', 'a', 'c', 'k', 'l', 'a', 'w', '1', '9', '.', 'T', 'o', 'k', 'e', 'n', 'R', 'e', 'a', 'd', 's'],
  ['b', 'o', 'o', 't', 'j', 'a', 'c', 'k', '/', 'b', 'o', 'o', 't', 'j', 'a', 'c', 'k', 'l', 'a', 'w', '1', '9', '.', 'T', 'o', 'k', 'e', 'n', 'B', 'a', 'c', 'k'],
  ['b', 'o', 'o', 't', 'j', 'a', 'c', 'k', '/', 'b', 'o', 'o', 't', 'j', 'a', 'c', 'k', 'l', 'a', 'w', '1', '9', '.', 'T', 'o', 'k', 'e', 'n', 'C', 'u', 't', 's'],
  ['b', 'o', 'o', 't', 'j', 'a', 'c', 'k', '/', 'b', 'o', 'o', 't', 'j', 'a', 'c', 'k', 'l', 'a', 'w', '1', '9', '.', 'T', 'o', 'k', 'e', 'n', 'C', 'o', 'p', 'i', 'e', 's'],
  ['b', 'o', 'o', 't', 'j', 'a', 'c', 'k', '/', 'b', 'o', 'o', 't', 'j', 'a', 'c', 'k', 'l', 'a', 'w', '2', '0', '.', 'L', 'z', 'P', 'a', 'r', 't', 's'],
  ['b', 'o', 'o', 't', 'j', 'a', 'c', 'k', '/', 'b', 'o', 'o', 't', 'j', 'a', 'c', 'k', 'l', 'a', 'w', '2', '0', '.', 'L', 'z', 'J', 'u', 'd', 'g', 'e', 's'],
  ['b', 'o', 'o', 't', 'j', 'a', 'c', 'k', '/', 'b', 'o', 'o', 't', 'j', 'a', 'c', 'k', 'l', 'a', 'w', '2', '1', '.', 'S', 'q', 'u', 'e', 'e', 'z', 'e', 'B', 'a', 'c', 'k'],
  ['b', 'o', 'o', 't', 'j', 'a', 'c', 'k', '/', 'b', 'o', 'o', 't', 'j', 'a', 'c', 'k', 'l', 'a', 'w', '5', '.', 'S', 'e', 'a', 'l', 'T', 'e', 'l', 'l', 's'],
  ['b', 'o', 'o', 't', 'j', 'a', 'c', 'k', '/', 'b', 'o', 'o', 't', 'j', 'a', 'c', 'k', 'l', 'a', 'w', '1', '9', '.', 'T', 'o', 'k', 'e', 'n', 'O', 'n', 'l', 'y']]
def initChars : List Char := ['h', 'a', 'r', 'n', 'e', 's', 's', ' ', 'f', '3', 'a', '9', '1', '9', '7', 'c', '6', 'e', '2', 'b', '5', 'a', 'b', '4', '5', '7', '9', '5', 'c', '6', '0', 'e', 'b', 'f', '9', '1', 'f', 'd', 'f', '8', '7', '4', 'b', '7', '3', '3', 'd', '6', 'f', '1', '1', '9', '0', '0', 'c', 'c', '1', '9', '0', '4', 'c', 'c', '7', 'f', '6', '4', 'd', 'b', '1', '4', '8', 'a', ' ', 'c', 'u', 't', ' ', 'a', 't', ' ', 'b', 'o', 'o', 't', 'j', 'a', 'c', 'k', '/', 'b', 'o', 'o', 't', 'j', 'a', 'c', 'k', 'l', 'a', 'w', '2', '0', '.', 'L', 'z', 'P', 'l', 'a', 'y', 's', ' ', 'b', 'o', 'o', 't', 'j', 'a', 'c', 'k', '/', 'b', 'o', 'o', 't', 'j', 'a', 'c', 'k', 'l', 'a', 'w', '2', '0', '.', 'L', 'z', 'W', 'a', 'i', 't', 's', ' ', 'b', 'o', 'o', 't', 'j', 'a', 'c', 'k', '/', 'b', 'o', 'o', 't', 'j', 'a', 'c', 'k', 'l', 'a', 'w', '2', '0', '.', 'L', 'z', 'N', 'o', 'n', 'e', ' ', 'b', 'o', 'o', 't', 'j', 'a', 'c', 'k', '/', 'b', 'o', 'o', 't', 'j', 'a', 'c', 'k', 'l', 'a', 'w', '1', '9', '.', 'T', 'o', 'k', 'e', 'n', 'R', 'e', 'a', 'd', 's', ' ', 'b', 'o', 'o', 't', 'j', 'a', 'c', 'k', '/', 'b', 'o', 'o', 't', 'j', 'a', 'c', 'k', 'l', 'a', 'w', '1', '9', '.', 'T', 'o', 'k', 'e', 'n', 'B', 'a', 'c', 'k', ' ', 'b', 'o', 'o', 't', 'j', 'a', 'c', 'k', '/', 'b', 'o', 'o', 't', 'j', 'a', 'c', 'k', 'l', 'a', 'w', '1', '9', '.', 'T', 'o', 'k', 'e', 'n', 'C', 'u', 't', 's', ' ', 'b', 'o', 'o', 't', 'j', 'a', 'c', 'k', '/', 'b', 'o', 'o', 't', 'j', 'a', 'c', 'k', 'l', 'a', 'w', '1', '9', '.', 'T', 'o', 'k', 'e', 'n', 'C', 'o', 'p', 'i', 'e', 's', ' ', 'b', 'o', 'o', 't', 'j', 'a', 'c', 'k', '/', 'b', 'o', 'o', 't', 'j', 'a', 'c', 'k', 'l', 'a', 'w', '2', '0', '.', 'L', 'z', 'P', 'a', 'r', 't', 's', ' ', 'b', 'o', 'o', 't', 'j', 'a', 'c', 'k', '/', 'b', 'o', 'o', 't', 'j', 'a', 'c', 'k', 'l', 'a', 'w', '2', '0', '.', 'L', 'z', 'J', 'u', 'd', 'g', 'e', 's', ' ', 'b', 'o', 'o', 't', 'j', 'a', 'c', 'k', '/', 'b', 'o', 'o', 't', 'j', 'a', 'c', 'k', 'l', 'a', 'w', '2', '1', '.', 'S', 'q', 'u', 'e', 'e', 'z', 'e', 'B', 'a', 'c', 'k', ' ', 'b', 'o', 'o', 't', 'j', 'a', 'c', 'k', '/', 'b', 'o', 'o', 't', 'j', 'a', 'c', 'k', 'l', 'a', 'w', '5', '.', 'S', 'e', 'a', 'l', 'T', 'e', 'l', 'l', 's', ' ', 'b', 'o', 'o', 't', 'j', 'a', 'c', 'k', '/', 'b', 'o', 'o', 't', 'j', 'a', 'c', 'k', 'l', 'a', 'w', '1', '9', '.', 'T', 'o', 'k', 'e', 'n', 'O', 'n', 'l', 'y']
theorem init_of : Try.prog.initOrder = String.ofList initChars := by kernel_rfl
theorem init_split : behindMainWord (wordsSigns initChars) = initWords := by kernel_rfl
theorem init_words : behindMainWord (wordsSigns Try.checked.prog.initOrder.toList) = initWords := by
  have h : Try.checked.prog.initOrder = String.ofList initChars := init_of
  rw [h, String.toList_ofList]; exact init_split
theorem cut_chars : "cut".toList = ['c', 'u', 't'] := by rw [show ("cut" : String) = String.ofList ['c', 'u', 't'] from rfl, String.toList_ofList]
theorem strip_cut (rest : List (List Char)) : stripLifts liftWords (['c', 'u', 't'] :: rest) = ([], ['c', 'u', 't'] :: rest) := by kernel_rfl
theorem mayEnter_cut (P : Program) (rest : List (List Char)) (h : behindMainWord (wordsSigns P.initOrder.toList) = ['c', 'u', 't'] :: rest) (hl : P.laysLater = false) (hr : P.bearsReflect = false) (hd : P.doorRows = []) : P.mayEnter = true := by
  unfold Program.mayEnter
  rw [h]
  simp [strip_cut, cut_chars, hl, hr, Program.doorFits, hd]
theorem headLifts_cut (P : Program) (rest : List (List Char)) (h : behindMainWord (wordsSigns P.initOrder.toList) = ['c', 'u', 't'] :: rest) : P.headLifts = [] := by
  unfold Program.headLifts
  rw [h]
  simp [strip_cut, cut_chars]
theorem liftsFinal_cut (P : Program) (rest : List (List Char)) (h : behindMainWord (wordsSigns P.initOrder.toList) = ['c', 'u', 't'] :: rest) : P.liftsFinal = false := by
  unfold Program.liftsFinal
  rw [headLifts_cut P rest h, h]
  have : ('c' :: 'u' :: ['t'] == "carried".toList) = false := by decide
  simp [this]
theorem make_cut (P : Program) (rest : List (List Char)) (h : behindMainWord (wordsSigns P.initOrder.toList) = ['c', 'u', 't'] :: rest) : P.make = some .cut := by
  unfold Program.make
  rw [h]
  simp [cut_chars]
theorem closed_mayEnter : Try.checked.prog.mayEnter = true := mayEnter_cut _ _ init_words (by kernel_rfl) (by kernel_rfl) (by kernel_rfl)
theorem closed_lifts : Try.checked.prog.liftsFinal = false := liftsFinal_cut _ _ init_words
theorem closed_make : Try.checked.prog.make = some .cut := make_cut _ _ init_words
theorem closed_laid : laidOutB Try.checked.prog = true := by kernel_rfl
theorem closed_maps : mapsRowed Try.checked.prog = true := by kernel_rfl
theorem closed_heard : Try.checked.prog.stopsHeard = true := by kernel_rfl
theorem closed_plain : Try.checked.prog.plainKeys = true := by kernel_rfl
end Go.Proofs.Ytggjdkkobhefeaa
