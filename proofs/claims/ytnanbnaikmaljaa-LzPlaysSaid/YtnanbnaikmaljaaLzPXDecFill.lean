
/- The walk of the decoder's laws' fill. -/
import Derived.Test.YtnanbnaikmaljaaLzPXDecMath
import Derived.Test.YtnanbnaikmaljaaLzPa
import Derived.Deep.LoopGhost
namespace Go.Proofs.Ytnanbnaikmaljaa
open Go.RowKit

theorem dEat_snoc (s : DSt) (zs : List Int) (i : Nat) (hi : i < zs.length) : dEat s (zs.take (i + 1)) = dByteS (dEat s (zs.take i)) (zs.getD i 0) := by
  unfold dEat
  rw [← take_snoc zs i hi, List.foldl_append, getD_get 0 hi]; rfl
theorem dEat_n (s : DSt) (zs : List Int) (i : Nat) (hi : i ≤ zs.length) (hn : (i : Int) ≤ s.n) : (dEat s (zs.take i)).n = s.n - i := by
  induction i with
  | zero => simp [dEat]
  | succ i ih =>
    have h := ih (by omega) (by omega)
    rw [dEat_snoc s zs i (by omega)]
    unfold dByteS
    rw [if_pos (by omega)]
    show (dEat s (zs.take i)).n - 1 = _
    omega
theorem dEat_inv (s : DSt) (zs : List Int) (hz : ∀ z ∈ zs, 0 ≤ z ∧ z ≤ 255) (h : DInv s) : DInv (dEat s zs) := by
  induction zs generalizing s with
  | nil => exact h
  | cons z zs ih => exact ih _ (fun y hy => hz y (List.mem_cons_of_mem _ hy)) (h.byte z (hz z List.mem_cons_self))
/-- A slice that does not lie in block b. -/
def NB (A : Option Addr) (b : Nat) : Prop := ∀ b' off, A = some ⟨b', off, none⟩ → b' ≠ b

/-- A slice that lies where another one lies. -/
def SB (A A' : Option Addr) : Prop := ∀ b' off', A' = some ⟨b', off', none⟩ → ∃ off, A = some ⟨b', off, none⟩
theorem SB.refl (A : Option Addr) : SB A A := fun _ off h => ⟨off, h⟩
theorem SB.trans {A A' A'' : Option Addr} (h : SB A A') (k : SB A' A'') : SB A A'' := fun b o e => by obtain ⟨o2, e2⟩ := k b o e; exact h b o2 e2
theorem NB.of {A A' : Option Addr} {b : Nat} (h : NB A b) (k : SB A A') : NB A' b := fun b' o e => by obtain ⟨o2, e2⟩ := k b' o e; exact h b' o2 e2
end Go.Proofs.Ytnanbnaikmaljaa
