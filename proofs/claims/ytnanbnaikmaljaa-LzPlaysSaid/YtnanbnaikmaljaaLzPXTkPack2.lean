
/- The walk of token.Pack. -/
import Derived.Test.YtnanbnaikmaljaaLzPXTkPack
namespace Go.Proofs.Ytnanbnaikmaljaa
open Go.RowKit

theorem right_len : ∀ (ts : List Tok) (m : Int), rightB ts m = true → m ≤ 8192 → (ts.length : Int) ≤ 8192 - m
  | [], m, _, hm => by show ((0 : Nat) : Int) ≤ _; omega
  | t :: ts, m, h, hm => by
    obtain ⟨h1, h2, h3⟩ := rightB_cons h
    have hp := longT_pos h1
    have := right_len ts (m + longT t) h3 (by omega)
    rw [List.length_cons]; omega
theorem may_fits {t : Tok} {made : Int} (h : mayT t made = true) (hw : TokWf t) : Fits t := by
  by_cases h0 : t.n = 0
  · exact .inl ⟨h0, hw.b0, hw.b1⟩
  · have := mayT_copy h h0
    exact .inr ⟨by omega, by omega, by omega, by omega⟩
theorem pack_yes {ts : List Tok} (h : rightB ts 0 = true) : packL ts = (eRow ts (cst0, ms0)).1.l := if_pos h
theorem pack_no {ts : List Tok} (h : rightB ts 0 = false) : packL ts = [] := if_neg (by rw [h]; decide)
end Go.Proofs.Ytnanbnaikmaljaa
