
/- A row of bits, packed: the function bits of the coder's laws; the coder's example. -/
import Derived.Test.YtnanbnaikmaljaaLzPXCod
import Derived.Test.YtnanbnaikmaljaaLzPa
namespace Go.Proofs.Ytnanbnaikmaljaa
open Go.RowKit

structure CSt where
  l : List Int
  w : Int
def bI (b : Bool) : Int := if b then 1 else 0
def cStep (s : CSt) (p bit : Int) : CSt := if p = 0 then ⟨cHalfL s.l s.w bit, cHalfW s.w⟩ else ⟨cBitL s.l s.w p bit, cBitW s.w p bit⟩
/-- The coder behind k bits. -/
def cS (f : Nat → Bool) (q : Nat → Int) : Nat → CSt
  | 0 => ⟨[0, 0, 0, 0], 4294967295⟩
  | k + 1 => cStep (cS f q k) (q k) (bI (f k))
theorem cStrL_le (l : List Int) (w : Int) : l.length ≤ (cStrL l w).length ∧ (cStrL l w).length ≤ l.length + 1 := by
  unfold cStrL; split <;> simp
theorem cStep_len (s : CSt) (p bit : Int) : s.l.length ≤ (cStep s p bit).l.length ∧ (cStep s p bit).l.length ≤ s.l.length + 1 := by
  unfold cStep cHalfL cBitL
  have h1 := cStrL_le s.l (s.w / 2)
  have h2 := cStrL_le (addL s.l (s.w / 2)) (s.w / 2)
  have h3 := cStrL_le s.l (cBd s.w p)
  have h4 := cStrL_le (addL s.l (cBd s.w p)) (s.w - cBd s.w p)
  rw [addL_length] at h2 h4
  split <;> simp only <;> split <;> assumption
theorem cS_len (f : Nat → Bool) (q : Nat → Int) (k : Nat) : 4 ≤ (cS f q k).l.length ∧ (cS f q k).l.length ≤ 4 + k := by
  induction k with
  | zero => exact ⟨Nat.le_refl _, Nat.le_refl _⟩
  | succ k ih =>
    have := cStep_len (cS f q k) (q k) (bI (f k))
    show 4 ≤ (cStep (cS f q k) (q k) (bI (f k))).l.length ∧ (cStep (cS f q k) (q k) (bI (f k))).l.length ≤ 4 + (k + 1)
    omega
theorem cStep_w (s : CSt) (p bit : Int) (h0 : 16777216 ≤ s.w) (h1 : s.w < 4294967296) : 16777216 ≤ (cStep s p bit).w ∧ (cStep s p bit).w < 4294967296 := by
  have a1 := hold_lo p
  have a2 := hold_hi p
  have h3 : 8192 ≤ s.w / 2048 := by omega
  have h4 : s.w / 2048 * hold p ≤ s.w / 2048 * 2017 := Int.mul_le_mul_of_nonneg_left a2 (by omega)
  have h5 : s.w / 2048 * 31 ≤ s.w / 2048 * hold p := Int.mul_le_mul_of_nonneg_left a1 (by omega)
  have g1 := strW_wide (s.w / 2) (by omega)
  have g2 := strW_bd (s.w / 2) (by omega) (by omega)
  have g3 := strW_wide (cBd s.w p) (by unfold cBd; omega)
  have g4 := strW_bd (cBd s.w p) (by unfold cBd; omega) (by unfold cBd; omega)
  have g5 := strW_wide (s.w - cBd s.w p) (by unfold cBd; omega)
  have g6 := strW_bd (s.w - cBd s.w p) (by unfold cBd; omega) (by unfold cBd; omega)
  unfold cStep cHalfW cBitW
  split
  · exact ⟨g1, g2.2.1⟩
  · simp only
    split
    · exact ⟨g3, g4.2.1⟩
    · exact ⟨g5, g6.2.1⟩
theorem cS_w (f : Nat → Bool) (q : Nat → Int) (k : Nat) : 16777216 ≤ (cS f q k).w ∧ (cS f q k).w < 4294967296 := by
  induction k with
  | zero => exact ⟨show (16777216 : Int) ≤ 4294967295 by decide, show (4294967295 : Int) < 4294967296 by decide⟩
  | succ k ih => exact cStep_w _ _ _ ih.1 ih.2


end Go.Proofs.Ytnanbnaikmaljaa
