
/- What the words of the seat's head say (the kernel is spared the long string), and the program's facts that every claim needs. -/
import Derived.Test.YtbefbojeojokjaaRows
import Derived.ProofKit
namespace Go.Proofs.Ytbefbojeojokjaa
open Go.RowKit
def initWords : List (List Char) := [['c', 'u', 't'],
  ['a', 't'],
  ['b', 'o', 'o', 't', 'j', 'a', 'c', 'k', '/', 'b', 'o', 'o', 't', 'j', 'a', 'c', 'k', 'l', 'a', 'w', '2', '2', '.', 'J', 'o', 'u', 'r', 'n', 'a', 'l', 'E', 'p', 'o', 'c', 'h', 's'],
  ['b', 'o', 'o', 't', 'j', 'a', 'c', 'k', '/', 'b', 'o', 'o', 't', 'j', 'a', 'c', 'k', 'l', 'a', 'w', '2', '2', '.', 'J', 'o', 'u', 'r', 'n', 'a', 'l', 'C', 'o', 'm', 'p', 'a', 'c', 't', 's'],
  ['b', 'o', 'o', 't', 'j', 'a', 'c', 'k', '/', 'b', 'o', 'o', 't', 'j', 'a', 'c', 'k', 'l', 'a', 'w', '2', '2', '.', 'J', 'o', 'u', 'r', 'n', 'a', 'l', 'B', 'a', 'c', 'k'],
  ['b', 'o', 'o', 't', 'j', 'a', 'c', 'k', '/', 'b', 'o', 'o', 't', 'j', 'a', 'c', 'k', 'l', 'a', 'w', '2', '2', '.', 'J', 'o', 'u', 'r', 'n', 'a', 'l', 'W', 'r', 'o', 'n', 'g'],
  ['b', 'o', 'o', 't', 'j', 'a', 'c', 'k', '/', 'b', 'o', 'o', 't', 'j', 'a', 'c', 'k', 'l', 'a', 'w', '2', '2', '.', 'J', 'o', 'u', 'r', 'n', 'a', 'l', 'C', 'u', 't', 's'],
  ['b', 'o', 'o', 't', 'j', 'a', 'c', 'k', '/', 'b', 'o', 'o', 't', 'j', 'a', 'c', 'k', 'l', 'a', 'w', '2', '3', '.', 'L', 'e', 'd', 'g', 'e', 'r', 'T', 'e', 'l', 'l', 's'],
  ['b', 'o', 'o', 't', 'j', 'a', 'c', 'k', '/', 'b', 'o', 'o', 't', 'j', 'a', 'c', 'k', 'l', 'a', 'w', '2', '3', '.', 'L', 'e', 'd', 'g', 'e', 'r', 'F', 'o', 'l', 'd', 's'],
  ['b', 'o', 'o', 't', 'j', 'a', 'c', 'k', '/', 'b', 'o', 'o', 't', 'j', 'a', 'c', 'k', 'l', 'a', 'w', '2', '3', '.', 'L', 'e', 'd', 'g', 'e', 'r', 'B', 'a', 'c', 'k'],
  ['b', 'o', 'o', 't', 'j', 'a', 'c', 'k', '/', 'b', 'o', 'o', 't', 'j', 'a', 'c', 'k', 'l', 'a', 'w', '2', '3', '.', 'L', 'e', 'd', 'g', 'e', 'r', 'F', 'l', 'o', 'o', 'r'],
  ['b', 'o', 'o', 't', 'j', 'a', 'c', 'k', '/', 'b', 'o', 'o', 't', 'j', 'a', 'c', 'k', 'l', 'a', 'w', '2', '3', '.', 'L', 'e', 'd', 'g', 'e', 'r', 'C', 'u', 't', 's']]
def initChars : List Char := ['h', 'a', 'r', 'n', 'e', 's', 's', ' ', '8', '8', '9', '6', 'f', 'd', 'b', '8', 'c', '4', '2', 'f', '1', '1', '8', 'f', '1', 'c', '3', 'c', '9', '7', 'f', '8', 'e', 'c', '4', '2', '8', 'd', '5', '5', '8', '5', 'a', 'a', 'b', 'e', '5', 'd', 'f', 'd', '7', '2', '9', '2', 'f', '5', '2', '8', 'e', '1', '5', '1', '0', '8', 'b', 'e', 'e', '0', '0', '3', '0', 'b', ' ', 'c', 'u', 't', ' ', 'a', 't', ' ', 'b', 'o', 'o', 't', 'j', 'a', 'c', 'k', '/', 'b', 'o', 'o', 't', 'j', 'a', 'c', 'k', 'l', 'a', 'w', '2', '2', '.', 'J', 'o', 'u', 'r', 'n', 'a', 'l', 'E', 'p', 'o', 'c', 'h', 's', ' ', 'b', 'o', 'o', 't', 'j', 'a', 'c', 'k', '/', 'b', 'o', 'o', 't', 'j', 'a', 'c', 'k', 'l', 'a', 'w', '2', '2', '.', 'J', 'o', 'u', 'r', 'n', 'a', 'l', 'C', 'o', 'm', 'p', 'a', 'c', 't', 's', ' ', 'b', 'o', 'o', 't', 'j', 'a', 'c', 'k', '/', 'b', 'o', 'o', 't', 'j', 'a', 'c', 'k', 'l', 'a', 'w', '2', '2', '.', 'J', 'o', 'u', 'r', 'n', 'a', 'l', 'B', 'a', 'c', 'k', ' ', 'b', 'o', 'o', 't', 'j', 'a', 'c', 'k', '/', 'b', 'o', 'o', 't', 'j', 'a', 'c', 'k', 'l', 'a', 'w', '2', '2', '.', 'J', 'o', 'u', 'r', 'n', 'a', 'l', 'W', 'r', 'o', 'n', 'g', ' ', 'b', 'o', 'o', 't', 'j', 'a', 'c', 'k', '/', 'b', 'o', 'o', 't', 'j', 'a', 'c', 'k', 'l', 'a', 'w', '2', '2', '.', 'J', 'o', 'u', 'r', 'n', 'a', 'l', 'C', 'u', 't', 's', ' ', 'b', 'o', 'o', 't', 'j', 'a', 'c', 'k', '/', 'b', 'o', 'o', 't', 'j', 'a', 'c', 'k', 'l', 'a', 'w', '2', '3', '.', 'L', 'e', 'd', 'g', 'e', 'r', 'T', 'e', 'l', 'l', 's', ' ', 'b', 'o', 'o', 't', 'j', 'a', 'c', 'k', '/', 'b', 'o', 'o', 't', 'j', 'a', 'c', 'k', 'l', 'a', 'w', '2', '3', '.', 'L', 'e', 'd', 'g', 'e', 'r', 'F', 'o', 'l', 'd', 's', ' ', 'b', 'o', 'o', 't', 'j', 'a', 'c', 'k', '/', 'b', 'o', 'o', 't', 'j', 'a', 'c', 'k', 'l', 'a', 'w', '2', '3', '.', 'L', 'e', 'd', 'g', 'e', 'r', 'B', 'a', 'c', 'k', ' ', 'b', 'o', 'o', 't', 'j', 'a', 'c', 'k', '/', 'b', 'o', 'o', 't', 'j', 'a', 'c', 'k', 'l', 'a', 'w', '2', '3', '.', 'L', 'e', 'd', 'g', 'e', 'r', 'F', 'l', 'o', 'o', 'r', ' ', 'b', 'o', 'o', 't', 'j', 'a', 'c', 'k', '/', 'b', 'o', 'o', 't', 'j', 'a', 'c', 'k', 'l', 'a', 'w', '2', '3', '.', 'L', 'e', 'd', 'g', 'e', 'r', 'C', 'u', 't', 's']
theorem init_of : Try.prog.initOrder = String.ofList initChars := by kernel_rfl
theorem init_split : behindMainWord (wordsSigns initChars) = initWords := by kernel_rfl
theorem init_words : behindMainWord (wordsSigns Try.checked.prog.initOrder.toList) = initWords := by
  have h : Try.checked.prog.initOrder = String.ofList initChars := init_of
  rw [h, String.toList_ofList]; exact init_split
theorem cut_chars : "cut".toList = ['c', 'u', 't'] := by rw [show ("cut" : String) = String.ofList ['c', 'u', 't'] from rfl, String.toList_ofList]
theorem strip_cut (rest : List (List Char)) : stripLifts liftWords (['c', 'u', 't'] :: rest) = ([], ['c', 'u', 't'] :: rest) := by kernel_rfl
theorem mayEnter_cut (P : Program) (rest : List (List Char)) (h : behindMainWord (wordsSigns P.initOrder.toList) = ['c', 'u', 't'] :: rest) (hl : P.laysLater = false) (hr : P.bearsReflect = false) (hd : P.doorRows = []) : P.mayEnter = true := by
  unfold Program.mayEnter
  rw [h]
  simp [strip_cut, cut_chars, hl, hr, Program.doorFits, hd]
theorem headLifts_cut (P : Program) (rest : List (List Char)) (h : behindMainWord (wordsSigns P.initOrder.toList) = ['c', 'u', 't'] :: rest) : P.headLifts = [] := by
  unfold Program.headLifts
  rw [h]
  simp [strip_cut, cut_chars]
theorem liftsFinal_cut (P : Program) (rest : List (List Char)) (h : behindMainWord (wordsSigns P.initOrder.toList) = ['c', 'u', 't'] :: rest) : P.liftsFinal = false := by
  unfold Program.liftsFinal
  rw [headLifts_cut P rest h, h]
  have : ('c' :: 'u' :: ['t'] == "carried".toList) = false := by decide
  simp [this]
theorem make_cut (P : Program) (rest : List (List Char)) (h : behindMainWord (wordsSigns P.initOrder.toList) = ['c', 'u', 't'] :: rest) : P.make = some .cut := by
  unfold Program.make
  rw [h]
  simp [cut_chars]
theorem closed_mayEnter : Try.checked.prog.mayEnter = true := mayEnter_cut _ _ init_words (by kernel_rfl) (by kernel_rfl) (by kernel_rfl)
theorem closed_lifts : Try.checked.prog.liftsFinal = false := liftsFinal_cut _ _ init_words
theorem closed_make : Try.checked.prog.make = some .cut := make_cut _ _ init_words
theorem closed_laid : laidOutB Try.checked.prog = true := by kernel_rfl
theorem closed_maps : mapsRowed Try.checked.prog = true := by kernel_rfl
theorem closed_heard : Try.checked.prog.stopsHeard = true := by kernel_rfl
theorem closed_plain : Try.checked.prog.plainKeys = true := by kernel_rfl
end Go.Proofs.Ytbefbojeojokjaa
