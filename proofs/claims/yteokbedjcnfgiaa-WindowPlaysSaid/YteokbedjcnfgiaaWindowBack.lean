/- The law WindowBack walked to the value true. -/
import Derived.Test.YteokbedjcnfgiaaWindow
namespace Go.Proofs.Yteokbedjcnfgiaa
open Go.RowKit

set_option maxRecDepth 100000 in
set_option maxHeartbeats 800000 in
theorem alive18_any (w : World) : Calls Try.prog 13 #[] w fun e w' => e = .returned (.bool true) ∧ Below w.heap.size w w' := by
  go_enter Try.func13, Try.ntmps13
  go_wp2_with (go_at_call 14; refine (wnew_any _).mono ?_; rintro e w1 ⟨rfl, hw1, k1⟩)
  refine (wput_any _ _ _ _ hw1 (by decide)).mono ?_
  rintro e w2 ⟨rfl, hw2, k2⟩
  go_wp2_with fail
  refine (wput_any _ _ _ _ hw2 (by decide)).mono ?_
  rintro e w3 ⟨rfl, hw3, k3⟩
  go_wp2_with fail
  refine (wback_yes _ _ 2 5 _ hw3 (by decide) (by decide) (by decide) (by decide) rfl).mono ?_
  rintro e w4 ⟨rfl, n, rfl⟩
  have L := Lib.hid (wlen_any _ _ _ (hw3.drewN n))
  go_wp2_with (go_at_call 19; refine L.out.mono ?_; rintro e w' ⟨rfl, rfl⟩)
  go_ret
  refine ⟨rfl, ?_⟩
  have b1 := below_keeps (Below.refl _ w) k1 (fun _ h => h.elim)
  have b2 := below_keeps b1 k2 (fun _ h => by subst h; exact Nat.le_refl _)
  exact below_drewN (below_keeps b2 k3 (fun _ h => by subst h; exact Nat.le_refl _)) _

end Go.Proofs.Yteokbedjcnfgiaa
