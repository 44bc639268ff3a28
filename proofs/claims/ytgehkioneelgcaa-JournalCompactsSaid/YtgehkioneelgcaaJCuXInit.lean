
/- What the words of the seat's head say (the kernel is spared the long string), and the program's facts that every claim needs. -/
import Derived.Test.YtgehkioneelgcaaRows
import Derived.ProofKit
namespace Go.Proofs.Ytgehkioneelgcaa
open Go.RowKit
def initWords : List (List Char) := [['c', 'u', 't'],
  ['a', 't'],
  ['b', 'o', 'o', 't', 'j', 'a', 'c', 'k', '/', 'b', 'o', 'o', 't', 'j', 'a', 'c', 'k', 'l', 'a', 'w', '2', '2', '.', 'J', 'o', 'u', 'r', 'n', 'a', 'l', 'C', 'o', 'm', 'p', 'a', 'c', 't', 's'],
  ['b', 'o', 'o', 't', 'j', 'a', 'c', 'k', '/', 'b', 'o', 'o', 't', 'j', 'a', 'c', 'k', 'l', 'a', 'w', '2', '2', '.', 'J', 'o', 'u', 'r', 'n', 'a', 'l', 'B', 'a', 'c', 'k'],
  ['b', 'o', 'o', 't', 'j', 'a', 'c', 'k', '/', 'b', 'o', 'o', 't', 'j', 'a', 'c', 'k', 'l', 'a', 'w', '2', '2', '.', 'J', 'o', 'u', 'r', 'n', 'a', 'l', 'C', 'u', 't', 's']]
def initChars : List Char := ['h', 'a', 'r', 'n', 'e', 's', 's', ' ', '4', '5', '3', '3', '8', 'e', '9', '9', '5', '3', '4', 'e', '7', '5', '8', 'd', 'a', '9', '1', '3', '9', '1', '0', 'a', '2', '2', '2', '7', '7', '3', '5', '8', '0', '3', '9', '5', 'a', '4', 'a', 'e', 'e', '8', 'a', '5', 'c', 'c', '6', '1', '0', '3', '2', '3', '2', '9', '0', '2', 'c', 'b', '0', 'f', '3', '7', '5', '6', ' ', 'c', 'u', 't', ' ', 'a', 't', ' ', 'b', 'o', 'o', 't', 'j', 'a', 'c', 'k', '/', 'b', 'o', 'o', 't', 'j', 'a', 'c', 'k', 'l', 'a', 'w', '2', '2', '.', 'J', 'o', 'u', 'r', 'n', 'a', 'l', 'C', 'o', 'm', 'p', 'a', 'c', 't', 's', ' ', 'b', 'o', 'o', 't', 'j', 'a', 'c', 'k', '/', 'b', 'o', 'o', 't', 'j', 'a', 'c', 'k', 'l', 'a', 'w', '2', '2', '.', 'J', 'o', 'u', 'r', 'n', 'a', 'l', 'B', 'a', 'c', 'k', ' ', 'b', 'o', 'o', 't', 'j', 'a', 'c', 'k', '/', 'b', 'o', 'o', 't', 'j', 'a', 'c', 'k', 'l', 'a', 'w', '2', '2', '.', 'J', 'o', 'u', 'r', 'n', 'a', 'l', 'C', 'u', 't', 's']
theorem init_of : Try.prog.initOrder = String.ofList initChars := by kernel_rfl
theorem init_split : behindMainWord (wordsSigns initChars) = initWords := by kernel_rfl
theorem init_words : behindMainWord (wordsSigns Try.checked.prog.initOrder.toList) = initWords := by
  have h : Try.checked.prog.initOrder = String.ofList initChars := init_of
  rw [h, String.toList_ofList]; exact init_split
theorem cut_chars : "cut".toList = ['c', 'u', 't'] := by rw [show ("cut" : String) = String.ofList ['c', 'u', 't'] from rfl, String.toList_ofList]
theorem strip_cut (rest : List (List Char)) : stripLifts liftWords (['c', 'u', 't'] :: rest) = ([], ['c', 'u', 't'] :: rest) := by kernel_rfl
theorem mayEnter_cut (P : Program) (rest : List (List Char)) (h : behindMainWord (wordsSigns P.initOrder.toList) = ['c', 'u', 't'] :: rest) (hl : P.laysLater = false) (hr : P.bearsReflect = false) (hd : P.doorRows = []) : P.mayEnter = true := by
  unfold Program.mayEnter
  rw [h]
  simp [strip_cut, cut_chars, hl, hr, Program.doorFits, hd]
theorem headLifts_cut (P : Program) (rest : List (List Char)) (h : behindMainWord (wordsSigns P.initOrder.toList) = ['c', 'u', 't'] :: rest) : P.headLifts = [] := by
  unfold Program.headLifts
  rw [h]
  simp [strip_cut, cut_chars]
theorem liftsFinal_cut (P : Program) (rest : List (List Char)) (h : behindMainWord (wordsSigns P.initOrder.toList) = ['c', 'u', 't'] :: rest) : P.liftsFinal = false := by
  unfold Program.liftsFinal
  rw [headLifts_cut P rest h, h]
  have : ('c' :: 'u' :: ['t'] == "carried".toList) = false := by decide
  simp [this]
theorem make_cut (P : Program) (rest : List (List Char)) (h : behindMainWord (wordsSigns P.initOrder.toList) = ['c', 'u', 't'] :: rest) : P.make = some .cut := by
  unfold Program.make
  rw [h]
  simp [cut_chars]
theorem closed_mayEnter : Try.checked.prog.mayEnter = true := mayEnter_cut _ _ init_words (by kernel_rfl) (by kernel_rfl) (by kernel_rfl)
theorem closed_lifts : Try.checked.prog.liftsFinal = false := liftsFinal_cut _ _ init_words
theorem closed_make : Try.checked.prog.make = some .cut := make_cut _ _ init_words
theorem closed_laid : laidOutB Try.checked.prog = true := by kernel_rfl
theorem closed_maps : mapsRowed Try.checked.prog = true := by kernel_rfl
theorem closed_heard : Try.checked.prog.stopsHeard = true := by kernel_rfl
theorem closed_plain : Try.checked.prog.plainKeys = true := by kernel_rfl
end Go.Proofs.Ytgehkioneelgcaa
