/- The law WindowLast: its walk. -/
import Derived.Test.YteokbedjcnfgiaaWindowLast
import Derived.Test.YteokbedjcnfgiaaWindowBack
import Derived.Test.YteokbedjcnfgiaaBytes2
namespace Go.Proofs.Yteokbedjcnfgiaa
open Go.RowKit

theorem wlast_any (b : Nat) (h : List Int) (n : Int) (w : World) (hw : Win w b h) (hl : h.length < 1099511627776) (hbyte : ∀ z ∈ h, 0 ≤ z ∧ z ≤ 255) :
    Calls Try.prog 20 #[.pointer (some ⟨b, 0, none⟩), .int .i64 n] w (Cloned w (lastN h n)) := by
  by_cases hc : n ≤ min (h.length : Int) 4096
  · exact last_le b h n w hw hl hbyte hc
  · exact last_gt b h n w hw hl hbyte (by omega)

theorem lastN_length (h : List Int) (n : Int) : (lastN h n).length = (min n (min (h.length : Int) 4096)).toNat := by simp [lastN, lastTo]
theorem lastN_get (h : List Int) (n : Int) (i : Nat) (hi : i < (lastN h n).length) : (lastN h n).getD i 0 = h.getD (h.length - ((lastN h n).length - i)) 0 := by
  rw [lastN_length] at hi
  rw [lastN_length]
  have e : h.length - (min n (min (h.length : Int) 4096)).toNat + i = h.length - ((min n (min (h.length : Int) 4096)).toNat - i) := by omega
  rw [← e]
  unfold lastN lastTo
  simp [List.getD, hi]
theorem lastN_drop (h : List Int) (n : Int) (m : Nat) (hm : m ≤ h.length) (e : (min n (min (h.length : Int) 4096)).toNat = m) : lastN h n = h.drop (h.length - m) := by
  unfold lastN lastTo
  rw [e]
  apply List.ext_getElem?
  intro i
  by_cases hi : i < m
  · have : h.length - m + i < h.length := by omega
    simp [hi, List.getD, this]
  · rw [List.getElem?_eq_none (by simp; omega), List.getElem?_eq_none (by simp; omega)]


end Go.Proofs.Yteokbedjcnfgiaa
