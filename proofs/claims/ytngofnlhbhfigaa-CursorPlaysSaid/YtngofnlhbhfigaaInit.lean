/- What the words of the seat's head say (the kernel is spared the long string), and the program's facts that every claim needs. -/
import Derived.Test.YtngofnlhbhfigaaRows
import Derived.ProofKit
namespace Go.Proofs.Ytngofnlhbhfigaa
open Go.RowKit
def initWords : List (List Char) := [['c', 'u', 't'],
  ['a', 't'],
  ['b', 'o', 'o', 't', 'j', 'a', 'c', 'k', '/', 'b', 'o', 'o', 't', 'j', 'a', 'c', 'k', 'l', 'a', 'w', '3', '.', 'R', 'e', 'g', 'i', 'o', 'n', 'P', 'a', 'r', 't', 's'],
  ['b', 'o', 'o', 't', 'j', 'a', 'c', 'k', '/', 'b', 'o', 'o', 't', 'j', 'a', 'c', 'k', 'l', 'a', 'w', '2', '.', 'F', 'l', 'a', 's', 'h', 'R', 'e', 'f', 'u', 's', 'e', 's'],
  ['b', 'o', 'o', 't', 'j', 'a', 'c', 'k', '/', 'b', 'o', 'o', 't', 'j', 'a', 'c', 'k', 'l', 'a', 'w', '2', '.', 'F', 'l', 'a', 's', 'h', 'P', 'l', 'a', 'y', 's'],
  ['b', 'o', 'o', 't', 'j', 'a', 'c', 'k', '/', 'b', 'o', 'o', 't', 'j', 'a', 'c', 'k', 'l', 'a', 'w', '2', '.', 'F', 'l', 'a', 's', 'h', 'E', 'r', 'a', 's', 'e', 's'],
  ['b', 'o', 'o', 't', 'j', 'a', 'c', 'k', '/', 'b', 'o', 'o', 't', 'j', 'a', 'c', 'k', 'l', 'a', 'w', '2', '.', 'F', 'l', 'a', 's', 'h', 'B', 'o', 'o', 't', 's'],
  ['b', 'o', 'o', 't', 'j', 'a', 'c', 'k', '/', 'b', 'o', 'o', 't', 'j', 'a', 'c', 'k', 'l', 'a', 'w', '3', '.', 'R', 'e', 'g', 'i', 'o', 'n', 'O', 'n', 'l', 'y'],
  ['b', 'o', 'o', 't', 'j', 'a', 'c', 'k', '/', 'b', 'o', 'o', 't', 'j', 'a', 'c', 'k', 'l', 'a', 'w', '3', '.', 'R', 'e', 'g', 'i', 'o', 'n', 'N', 'o', 'n', 'e'],
  ['b', 'o', 'o', 't', 'j', 'a', 'c', 'k', '/', 'b', 'o', 'o', 't', 'j', 'a', 'c', 'k', 'l', 'a', 'w', '3', '.', 'R', 'e', 'g', 'i', 'o', 'n', 'P', 'l', 'a', 'y', 's'],
  ['b', 'o', 'o', 't', 'j', 'a', 'c', 'k', '/', 'b', 'o', 'o', 't', 'j', 'a', 'c', 'k', 'l', 'a', 'w', '4', '.', 'C', 'u', 'r', 's', 'o', 'r', 'F', 'u', 'l', 'l'],
  ['b', 'o', 'o', 't', 'j', 'a', 'c', 'k', '/', 'b', 'o', 'o', 't', 'j', 'a', 'c', 'k', 'l', 'a', 'w', '4', '.', 'C', 'u', 'r', 's', 'o', 'r', 'P', 'a', 'r', 't', 's'],
  ['b', 'o', 'o', 't', 'j', 'a', 'c', 'k', '/', 'b', 'o', 'o', 't', 'j', 'a', 'c', 'k', 'l', 'a', 'w', '4', '.', 'C', 'u', 'r', 's', 'o', 'r', 'G', 'o', 'e', 's', 'O', 'n'],
  ['b', 'o', 'o', 't', 'j', 'a', 'c', 'k', '/', 'b', 'o', 'o', 't', 'j', 'a', 'c', 'k', 'l', 'a', 'w', '4', '.', 'C', 'u', 'r', 's', 'o', 'r', 'O', 'n', 'c', 'e'],
  ['b', 'o', 'o', 't', 'j', 'a', 'c', 'k', '/', 'b', 'o', 'o', 't', 'j', 'a', 'c', 'k', 'l', 'a', 'w', '4', '.', 'C', 'u', 'r', 's', 'o', 'r', 'R', 'e', 'p', 'e', 'a', 't', 's'],
  ['b', 'o', 'o', 't', 'j', 'a', 'c', 'k', '/', 'b', 'o', 'o', 't', 'j', 'a', 'c', 'k', 'l', 'a', 'w', '4', '.', 'C', 'u', 'r', 's', 'o', 'r', 'P', 'l', 'a', 'y', 's']]
def initChars : List Char := ['h', 'a', 'r', 'n', 'e', 's', 's', ' ', '5', '5', 'd', 'e', 'c', '5', '8', '7', '6', '8', '3', '8', '9', 'b', '6', 'a', '1', 'e', 'b', 'b', '3', '1', 'f', '5', '3', '7', '4', 'c', 'd', 'e', 'e', 'd', '3', '6', '1', '2', 'c', 'b', '5', 'e', 'e', '9', '8', 'c', 'e', 'd', 'd', '8', 'a', 'c', 'e', '7', 'd', '5', '6', '5', 'c', 'd', 'c', '6', '3', '7', 'c', '2', ' ', 'c', 'u', 't', ' ', 'a', 't', ' ', 'b', 'o', 'o', 't', 'j', 'a', 'c', 'k', '/', 'b', 'o', 'o', 't', 'j', 'a', 'c', 'k', 'l', 'a', 'w', '3', '.', 'R', 'e', 'g', 'i', 'o', 'n', 'P', 'a', 'r', 't', 's', ' ', 'b', 'o', 'o', 't', 'j', 'a', 'c', 'k', '/', 'b', 'o', 'o', 't', 'j', 'a', 'c', 'k', 'l', 'a', 'w', '2', '.', 'F', 'l', 'a', 's', 'h', 'R', 'e', 'f', 'u', 's', 'e', 's', ' ', 'b', 'o', 'o', 't', 'j', 'a', 'c', 'k', '/', 'b', 'o', 'o', 't', 'j', 'a', 'c', 'k', 'l', 'a', 'w', '2', '.', 'F', 'l', 'a', 's', 'h', 'P', 'l', 'a', 'y', 's', ' ', 'b', 'o', 'o', 't', 'j', 'a', 'c', 'k', '/', 'b', 'o', 'o', 't', 'j', 'a', 'c', 'k', 'l', 'a', 'w', '2', '.', 'F', 'l', 'a', 's', 'h', 'E', 'r', 'a', 's', 'e', 's', ' ', 'b', 'o', 'o', 't', 'j', 'a', 'c', 'k', '/', 'b', 'o', 'o', 't', 'j', 'a', 'c', 'k', 'l', 'a', 'w', '2', '.', 'F', 'l', 'a', 's', 'h', 'B', 'o', 'o', 't', 's', ' ', 'b', 'o', 'o', 't', 'j', 'a', 'c', 'k', '/', 'b', 'o', 'o', 't', 'j', 'a', 'c', 'k', 'l', 'a', 'w', '3', '.', 'R', 'e', 'g', 'i', 'o', 'n', 'O', 'n', 'l', 'y', ' ', 'b', 'o', 'o', 't', 'j', 'a', 'c', 'k', '/', 'b', 'o', 'o', 't', 'j', 'a', 'c', 'k', 'l', 'a', 'w', '3', '.', 'R', 'e', 'g', 'i', 'o', 'n', 'N', 'o', 'n', 'e', ' ', 'b', 'o', 'o', 't', 'j', 'a', 'c', 'k', '/', 'b', 'o', 'o', 't', 'j', 'a', 'c', 'k', 'l', 'a', 'w', '3', '.', 'R', 'e', 'g', 'i', 'o', 'n', 'P', 'l', 'a', 'y', 's', ' ', 'b', 'o', 'o', 't', 'j', 'a', 'c', 'k', '/', 'b', 'o', 'o', 't', 'j', 'a', 'c', 'k', 'l', 'a', 'w', '4', '.', 'C', 'u', 'r', 's', 'o', 'r', 'F', 'u', 'l', 'l', ' ', 'b', 'o', 'o', 't', 'j', 'a', 'c', 'k', '/', 'b', 'o', 'o', 't', 'j', 'a', 'c', 'k', 'l', 'a', 'w', '4', '.', 'C', 'u', 'r', 's', 'o', 'r', 'P', 'a', 'r', 't', 's', ' ', 'b', 'o', 'o', 't', 'j', 'a', 'c', 'k', '/', 'b', 'o', 'o', 't', 'j', 'a', 'c', 'k', 'l', 'a', 'w', '4', '.', 'C', 'u', 'r', 's', 'o', 'r', 'G', 'o', 'e', 's', 'O', 'n', ' ', 'b', 'o', 'o', 't', 'j', 'a', 'c', 'k', '/', 'b', 'o', 'o', 't', 'j', 'a', 'c', 'k', 'l', 'a', 'w', '4', '.', 'C', 'u', 'r', 's', 'o', 'r', 'O', 'n', 'c', 'e', ' ', 'b', 'o', 'o', 't', 'j', 'a', 'c', 'k', '/', 'b', 'o', 'o', 't', 'j', 'a', 'c', 'k', 'l', 'a', 'w', '4', '.', 'C', 'u', 'r', 's', 'o', 'r', 'R', 'e', 'p', 'e', 'a', 't', 's', ' ', 'b', 'o', 'o', 't', 'j', 'a', 'c', 'k', '/', 'b', 'o', 'o', 't', 'j', 'a', 'c', 'k', 'l', 'a', 'w', '4', '.', 'C', 'u', 'r', 's', 'o', 'r', 'P', 'l', 'a', 'y', 's']
theorem init_of : Try.prog.initOrder = String.ofList initChars := by kernel_rfl
theorem init_split : behindMainWord (wordsSigns initChars) = initWords := by kernel_rfl
theorem init_words : behindMainWord (wordsSigns Try.checked.prog.initOrder.toList) = initWords := by
  have h : Try.checked.prog.initOrder = String.ofList initChars := init_of
  rw [h, String.toList_ofList]; exact init_split
theorem cut_chars : "cut".toList = ['c', 'u', 't'] := by rw [show ("cut" : String) = String.ofList ['c', 'u', 't'] from rfl, String.toList_ofList]
theorem strip_cut (rest : List (List Char)) : stripLifts liftWords (['c', 'u', 't'] :: rest) = ([], ['c', 'u', 't'] :: rest) := by kernel_rfl
theorem mayEnter_cut (P : Program) (rest : List (List Char)) (h : behindMainWord (wordsSigns P.initOrder.toList) = ['c', 'u', 't'] :: rest) (hl : P.laysLater = false) (hr : P.bearsReflect = false) (hd : P.doorRows = []) : P.mayEnter = true := by
  unfold Program.mayEnter
  rw [h]
  simp [strip_cut, cut_chars, hl, hr, Program.doorFits, hd]
theorem headLifts_cut (P : Program) (rest : List (List Char)) (h : behindMainWord (wordsSigns P.initOrder.toList) = ['c', 'u', 't'] :: rest) : P.headLifts = [] := by
  unfold Program.headLifts
  rw [h]
  simp [strip_cut, cut_chars]
theorem liftsFinal_cut (P : Program) (rest : List (List Char)) (h : behindMainWord (wordsSigns P.initOrder.toList) = ['c', 'u', 't'] :: rest) : P.liftsFinal = false := by
  unfold Program.liftsFinal
  rw [headLifts_cut P rest h, h]
  have : ('c' :: 'u' :: ['t'] == "carried".toList) = false := by decide
  simp [this]
theorem make_cut (P : Program) (rest : List (List Char)) (h : behindMainWord (wordsSigns P.initOrder.toList) = ['c', 'u', 't'] :: rest) : P.make = some .cut := by
  unfold Program.make
  rw [h]
  simp [cut_chars]
theorem closed_mayEnter : Try.checked.prog.mayEnter = true := mayEnter_cut _ _ init_words (by kernel_rfl) (by kernel_rfl) (by kernel_rfl)
theorem closed_lifts : Try.checked.prog.liftsFinal = false := liftsFinal_cut _ _ init_words
theorem closed_make : Try.checked.prog.make = some .cut := make_cut _ _ init_words
theorem closed_laid : laidOutB Try.checked.prog = true := by kernel_rfl
theorem closed_maps : mapsRowed Try.checked.prog = true := by kernel_rfl
theorem closed_heard : Try.checked.prog.stopsHeard = true := by kernel_rfl
theorem closed_plain : Try.checked.prog.plainKeys = true := by kernel_rfl
end Go.Proofs.Ytngofnlhbhfigaa
