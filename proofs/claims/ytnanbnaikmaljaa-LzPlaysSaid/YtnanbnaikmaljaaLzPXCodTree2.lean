
/- The walk of the reference's Tree; trees that agree. -/
import Derived.Test.YtnanbnaikmaljaaLzPXCodTree
namespace Go.Proofs.Ytnanbnaikmaljaa
open Go.RowKit

theorem TLoop.fin {v n : Nat} {fin : TSt} {len : Nat} : ∀ {j : Nat} {t : TSt}, TLoop v n j t fin len → TLoop v n 0 fin fin len
  | 0, t, h => by have e : t = fin := h.run; subst e; exact h
  | i + 1, t, h => h.step.fin
theorem TOk.rnew (bits : Int) : TOk (rnewN (2 ^ szN bits)) (szN bits) := by
  have h1 : 1 ≤ 2 ^ szN bits := Nat.one_le_two_pow
  have hl : (rnewN (2 ^ szN bits)).length = 2 ^ szN bits := by simp [rnewN]; omega
  refine ⟨hl, szN_lo _, szN_hi _, fun i hi hl2 => ?_, fun p hp => ?_⟩
  · rw [hl] at hl2
    obtain ⟨j, rfl⟩ : ∃ j, i = j + 1 := ⟨i - 1, by omega⟩
    simp [rnewN, List.getD, List.getElem?_replicate, show j < 2 ^ szN bits - 1 by omega]
  · unfold rnewN at hp
    rcases List.mem_cons.1 hp with rfl | hp
    · decide
    · rw [(List.mem_replicate.1 hp).2]; decide
/-- The reference's tree goes along with the program's. -/
theorem tRun_agree (v : Nat) : ∀ (j : Nat) (t r : TSt), t.c = r.c → t.node = r.node → Agree t.ps r.ps → (tRun v j t).c = (tRun v j r).c ∧ Agree (tRun v j t).ps (tRun v j r).ps := by
  intro j
  induction j with
  | zero => intro t r h1 _ h3; exact ⟨h1, h3⟩
  | succ i ih =>
    intro t r h1 h2 h3
    refine ih (tStep v i t) (tStep v i r) ?_ ?_ ?_
    · show cBitS t.c (atN t.ps t.node) (vbit v i) = cBitS r.c (atN r.ps r.node) (vbit v i)
      rw [h1, h2, h3.at_]
    · show 2 * t.node + vbit v i = 2 * r.node + vbit v i
      rw [h2]
    · show Agree (turnN t.ps t.node (vbit v i)) (turnN r.ps r.node (vbit v i))
      rw [h2]; exact h3.turn _ _

end Go.Proofs.Ytnanbnaikmaljaa
