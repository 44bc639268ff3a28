
/- Package model: small laws of chances and of trees that agree. -/
import Derived.Test.YtnanbnaikmaljaaLzPXModel
namespace Go.Proofs.Ytnanbnaikmaljaa
open Go.RowKit

theorem rep_range (n : Nat) : ∀ p ∈ List.replicate n (1024 : Int), 0 ≤ p ∧ p < 65536 := by
  intro p hp; rw [(List.mem_replicate.1 hp).2]; decide

theorem hold_hold (p : Int) : hold (hold p) = hold p := by unfold hold; omega
theorem adapt_hold (p b : Int) : adapt (hold p) b = adapt p b := by unfold adapt; rw [hold_hold]
theorem hold_adapt (q b : Int) : hold (adapt q b) = adapt q b := by
  have := adapt_lo q b; have := adapt_hi q b; unfold hold; omega
/-- The program's chances and the reference's: alike but for place 0. -/
def Agree (ps qs : List Int) : Prop := ps.length = qs.length ∧ ∀ i, 1 ≤ i → ps.getD i 0 = qs.getD i 0
theorem Agree.at_ {ps qs : List Int} (h : Agree ps qs) (node : Int) : atN qs node = atN ps node := by
  unfold atN
  rw [h.1]
  split
  · exact (h.2 _ (by omega)).symm
  · rfl
theorem getD_set (l : List Int) (i j : Nat) (v : Int) : (l.set i v).getD j 0 = if i = j ∧ j < l.length then v else l.getD j 0 := by
  by_cases h : i = j
  · subst h
    by_cases h2 : i < l.length
    · simp [h2]
    · simp [h2]
  · simp [List.getElem?_set_ne h, h]
theorem Agree.turn {ps qs : List Int} (h : Agree ps qs) (node bit : Int) : Agree (turnN ps node bit) (turnN qs node bit) := by
  unfold turnN
  rw [h.1]
  split
  · rename_i hn
    refine ⟨by simp [h.1], fun i hi => ?_⟩
    rw [getD_set, getD_set, h.1, h.2 i hi, h.2 node.toNat (by omega)]
  · exact h
theorem Agree.new (n : Nat) (hn : 1 ≤ n) : Agree (List.replicate n 1024) (rnewN n) := by
  obtain ⟨m, rfl⟩ : ∃ m, n = m + 1 := ⟨n - 1, by omega⟩
  refine ⟨by simp [rnewN], fun i hi => ?_⟩
  obtain ⟨j, rfl⟩ : ∃ j, i = j + 1 := ⟨i - 1, by omega⟩
  simp [rnewN, List.replicate_succ]
def InRange (ps : List Int) : Prop := ∀ p ∈ ps, 0 ≤ p ∧ p < 65536
theorem InRange.turn {ps : List Int} (h : InRange ps) (node bit : Int) : InRange (turnN ps node bit) := by
  unfold turnN
  split
  · intro p hp
    rcases List.mem_or_eq_of_mem_set hp with hp | rfl
    · exact h p hp
    · have := adapt_lo (ps.getD node.toNat 0) bit; have := adapt_hi (ps.getD node.toNat 0) bit; omega
  · exact h

end Go.Proofs.Ytnanbnaikmaljaa
