
/- What the words of the seat's head say (the kernel is spared the long string), and the program's facts that every claim needs. -/
import Derived.Test.YtdgjopejocfbeaaRows
import Derived.ProofKit
namespace Go.Proofs.Ytdgjopejocfbeaa
open Go.RowKit
def initWords : List (List Char) := [['c', 'u', 't'],
  ['a', 't'],
  ['b', 'o', 'o', 't', 'j', 'a', 'c', 'k', '/', 'b', 'o', 'o', 't', 'j', 'a', 'c', 'k', 'l', 'a', 'w', '5', '.', 'S', 'e', 'a', 'l', 'T', 'e', 'l', 'l', 's'],
  ['b', 'o', 'o', 't', 'j', 'a', 'c', 'k', '/', 'b', 'o', 'o', 't', 'j', 'a', 'c', 'k', 'l', 'a', 'w', '2', '0', '.', 'L', 'z', 'P', 'l', 'a', 'y', 's'],
  ['b', 'o', 'o', 't', 'j', 'a', 'c', 'k', '/', 'b', 'o', 'o', 't', 'j', 'a', 'c', 'k', 'l', 'a', 'w', '1', '9', '.', 'T', 'o', 'k', 'e', 'n', 'R', 'e', 'a', 'd', 's'],
  ['b', 'o', 'o', 't', 'j', 'a', 'c', 'k', '/', 'b', 'o', 'o', 't', 'j', 'a', 'c', 'k', 'l', 'a', 'w', '1', '9', '.', 'T', 'o', 'k', 'e', 'n', 'B', 'a', 'c', 'k']]
def initChars : List Char := ['h', 'a', 'r', 'n', 'e', 's', 's', ' ', 'd', 'a', 'f', 'f', '4', '4', '2', '4', '4', '8', '4', 'c', '3', '3', '2', '5', 'a', '5', '1', '0', '5', 'b', '0', '4', '7', '4', 'd', 'c', '9', 'a', '6', 'f', 'f', '7', '6', '7', 'f', '7', 'c', '0', '0', 'e', 'a', '6', 'b', 'c', 'd', 'f', 'c', 'b', '2', 'c', '5', 'e', '5', '2', 'd', 'a', '4', 'f', '2', 'b', '6', 'e', ' ', 'c', 'u', 't', ' ', 'a', 't', ' ', 'b', 'o', 'o', 't', 'j', 'a', 'c', 'k', '/', 'b', 'o', 'o', 't', 'j', 'a', 'c', 'k', 'l', 'a', 'w', '5', '.', 'S', 'e', 'a', 'l', 'T', 'e', 'l', 'l', 's', ' ', 'b', 'o', 'o', 't', 'j', 'a', 'c', 'k', '/', 'b', 'o', 'o', 't', 'j', 'a', 'c', 'k', 'l', 'a', 'w', '2', '0', '.', 'L', 'z', 'P', 'l', 'a', 'y', 's', ' ', 'b', 'o', 'o', 't', 'j', 'a', 'c', 'k', '/', 'b', 'o', 'o', 't', 'j', 'a', 'c', 'k', 'l', 'a', 'w', '1', '9', '.', 'T', 'o', 'k', 'e', 'n', 'R', 'e', 'a', 'd', 's', ' ', 'b', 'o', 'o', 't', 'j', 'a', 'c', 'k', '/', 'b', 'o', 'o', 't', 'j', 'a', 'c', 'k', 'l', 'a', 'w', '1', '9', '.', 'T', 'o', 'k', 'e', 'n', 'B', 'a', 'c', 'k']
theorem init_of : Try.prog.initOrder = String.ofList initChars := by kernel_rfl
theorem init_split : behindMainWord (wordsSigns initChars) = initWords := by kernel_rfl
theorem init_words : behindMainWord (wordsSigns Try.checked.prog.initOrder.toList) = initWords := by
  have h : Try.checked.prog.initOrder = String.ofList initChars := init_of
  rw [h, String.toList_ofList]; exact init_split
theorem cut_chars : "cut".toList = ['c', 'u', 't'] := by rw [show ("cut" : String) = String.ofList ['c', 'u', 't'] from rfl, String.toList_ofList]
theorem strip_cut (rest : List (List Char)) : stripLifts liftWords (['c', 'u', 't'] :: rest) = ([], ['c', 'u', 't'] :: rest) := by kernel_rfl
theorem mayEnter_cut (P : Program) (rest : List (List Char)) (h : behindMainWord (wordsSigns P.initOrder.toList) = ['c', 'u', 't'] :: rest) (hl : P.laysLater = false) (hr : P.bearsReflect = false) (hd : P.doorRows = []) : P.mayEnter = true := by
  unfold Program.mayEnter
  rw [h]
  simp [strip_cut, cut_chars, hl, hr, Program.doorFits, hd]
theorem headLifts_cut (P : Program) (rest : List (List Char)) (h : behindMainWord (wordsSigns P.initOrder.toList) = ['c', 'u', 't'] :: rest) : P.headLifts = [] := by
  unfold Program.headLifts
  rw [h]
  simp [strip_cut, cut_chars]
theorem liftsFinal_cut (P : Program) (rest : List (List Char)) (h : behindMainWord (wordsSigns P.initOrder.toList) = ['c', 'u', 't'] :: rest) : P.liftsFinal = false := by
  unfold Program.liftsFinal
  rw [headLifts_cut P rest h, h]
  have : ('c' :: 'u' :: ['t'] == "carried".toList) = false := by decide
  simp [this]
theorem make_cut (P : Program) (rest : List (List Char)) (h : behindMainWord (wordsSigns P.initOrder.toList) = ['c', 'u', 't'] :: rest) : P.make = some .cut := by
  unfold Program.make
  rw [h]
  simp [cut_chars]
theorem closed_mayEnter : Try.checked.prog.mayEnter = true := mayEnter_cut _ _ init_words (by kernel_rfl) (by kernel_rfl) (by kernel_rfl)
theorem closed_lifts : Try.checked.prog.liftsFinal = false := liftsFinal_cut _ _ init_words
theorem closed_make : Try.checked.prog.make = some .cut := make_cut _ _ init_words
theorem closed_laid : laidOutB Try.checked.prog = true := by kernel_rfl
theorem closed_maps : mapsRowed Try.checked.prog = true := by kernel_rfl
theorem closed_heard : Try.checked.prog.stopsHeard = true := by kernel_rfl
theorem closed_plain : Try.checked.prog.plainKeys = true := by kernel_rfl
end Go.Proofs.Ytdgjopejocfbeaa
