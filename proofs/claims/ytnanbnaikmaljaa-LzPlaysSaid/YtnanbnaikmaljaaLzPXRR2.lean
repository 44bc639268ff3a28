
/- The reference's reader: the walk of tree. -/
import Derived.Test.YtnanbnaikmaljaaLzPXRR
namespace Go.Proofs.Ytnanbnaikmaljaa
open Go.RowKit

def RS.q (s : RS) : Nat → List Int
  | 1 => s.q1
  | 2 => s.q2
  | _ => s.q3
def RS.sq (s : RS) (q : List Int) : Nat → RS
  | 1 => { s with q1 := q }
  | 2 => { s with q2 := q }
  | _ => { s with q3 := q }
/-- A bit of a tree's number. -/
def trPR (s : RS) (j : Nat) (node : Int) : Int := (s.q j).getD node.toNat 0
def trS (j : Nat) (s : RS) (node : Int) : RS := moreF ({ (s.sq (turnN (s.q j) node (dBitB s.d (trPR s j node))) j) with d := dBitS s.d (trPR s j node) })
def trF (j : Nat) : Nat → RS → Int → RS × Int
  | 0, s, node => (s, node)
  | i + 1, s, node => trF j i (trS j s node) (2 * node + dBitB s.d (trPR s j node))
theorem ROkR.tr {s : RS} (h : ROkR s) (j : Nat) (node : Int) : ROkR (trS j s node) := by
  refine ROkR.more ?_
  match j with
  | 1 => exact ⟨h.dok.bit _, h.zb, by show (turnN _ _ _).length = 256; rw [turnN_length]; exact h.l1, h.l2, h.l3, h.was⟩
  | 2 => exact ⟨h.dok.bit _, h.zb, h.l1, by show (turnN _ _ _).length = 256; rw [turnN_length]; exact h.l2, h.l3, h.was⟩
  | 0 => exact ⟨h.dok.bit _, h.zb, h.l1, h.l2, by show (turnN _ _ _).length = 64; rw [turnN_length]; exact h.l3, h.was⟩
  | _ + 3 => exact ⟨h.dok.bit _, h.zb, h.l1, h.l2, by show (turnN _ _ _).length = 64; rw [turnN_length]; exact h.l3, h.was⟩
theorem trF_ok (j : Nat) : ∀ (i : Nat) (s : RS) (node : Int), ROkR s → ROkR (trF j i s node).1
  | 0, _, _, h => h
  | i + 1, _, node, h => trF_ok j i _ _ (h.tr j node)
end Go.Proofs.Ytnanbnaikmaljaa
