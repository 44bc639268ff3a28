/- The law's few. -/
import Derived.Test.YtggjdkkobhefeaaTkPlain
namespace Go.Proofs.Ytggjdkkobhefeaa
open Go.RowKit

theorem few19_any (A : Option Addr) (n c : Nat) (w : World) (hn : n ≤ 9223372036854775807) : Calls Try.prog 28 #[.slice A n c] w fun e w' => e = .returned (.bool (decide (n ≤ 300))) ∧ w = w' := by
  by_cases h : n ≤ 300
  · have d1 : decide ((n : Int) ≤ 300) = true := decide_eq_true (by omega)
    have d2 : decide (n ≤ 300) = true := decide_eq_true h
    rw [d2]
    go_enter Try.func28, Try.ntmps28
    go_wp2
    go_ret
    exact ⟨rfl, rfl⟩
  · have d1 : decide ((n : Int) ≤ 300) = false := decide_eq_false (by omega)
    have d2 : decide (n ≤ 300) = false := decide_eq_false h
    rw [d2]
    go_enter Try.func28, Try.ntmps28
    go_wp2
    go_ret
    exact ⟨rfl, rfl⟩
end Go.Proofs.Ytggjdkkobhefeaa
