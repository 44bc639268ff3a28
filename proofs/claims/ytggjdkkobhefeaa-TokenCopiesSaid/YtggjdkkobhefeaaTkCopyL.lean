/- What literals and one copy make: the plain law of TokenCopies. -/
import Derived.Test.YtggjdkkobhefeaaTkPlain
namespace Go.Proofs.Ytggjdkkobhefeaa
open Go.RowKit

def litL (zs : List Int) : List Tok := zs.map fun b => ⟨0, 0, b⟩
theorem lit_right : ∀ (zs : List Int) (m : Int), 0 ≤ m → m + zs.length ≤ 8192 → rightB (litL zs) m = true ∧ madeT (litL zs) m = m + zs.length ∧ ∀ out, plainT (litL zs) out = out ++ zs
  | [], m, _, _ => ⟨rfl, by show m = m + 0; omega, fun out => by show out = out ++ []; simp⟩
  | z :: zs, m, h0, h1 => by
    simp only [List.length_cons] at h1
    obtain ⟨r1, r2, r3⟩ := lit_right zs (m + 1) (by omega) (by omega)
    refine ⟨?_, ?_, fun out => ?_⟩
    · show (decide ((0 : Int) = 0) && decide ((1 : Int) ≤ 8192 - m) && rightB (litL zs) (m + 1)) = true
      rw [r1, decide_eq_true (show (1 : Int) ≤ 8192 - m by omega)]; rfl
    · show madeT (litL zs) (m + 1) = _
      rw [r2, List.length_cons]; omega
    · show plainT (litL zs) (out ++ [z]) = _
      rw [r3]; simp
def mayC (n d : Int) (L : Nat) : Bool := decide (n = 0 ∧ d = 0) || decide (2 ≤ n ∧ n ≤ 257 ∧ 1 ≤ d ∧ d ≤ L)
theorem copies_right (zs : List Int) (n d : Int) (hl : zs.length ≤ 300) : rightB (litL zs ++ [⟨n, d, 0⟩]) 0 = mayC n d zs.length := by
  obtain ⟨r1, r2, -⟩ := lit_right zs 0 (Int.le_refl 0) (by omega)
  rw [rightB_append, r1, r2]
  show (true && (mayT ⟨n, d, 0⟩ (0 + (zs.length : Int)) && decide (longT ⟨n, d, 0⟩ ≤ 8192 - (0 + (zs.length : Int))) && true)) = _
  unfold mayC mayT longT
  by_cases h0 : n = 0
  · subst h0
    rw [if_pos rfl, if_pos rfl, decide_eq_true (show (1 : Int) ≤ 8192 - (0 + (zs.length : Int)) by omega)]
    by_cases hd : d = 0
    · subst hd; simp
    · simp [hd]
  · rw [if_neg h0, if_neg h0]
    by_cases hm : 2 ≤ n ∧ n ≤ 257 ∧ 1 ≤ d ∧ d ≤ (zs.length : Int)
    · obtain ⟨a, b, c, e⟩ := hm
      simp [h0, a, b, c, e]
      omega
    · have hR : (decide (n = 0 ∧ d = 0) || decide (2 ≤ n ∧ n ≤ 257 ∧ 1 ≤ d ∧ d ≤ (zs.length : Int))) = false := by
        rw [decide_eq_false (fun h => h0 h.1), decide_eq_false hm]; rfl
      rw [hR]
      apply Bool.eq_false_iff.2
      intro hh
      simp only [Bool.and_eq_true, decide_eq_true_eq, Bool.true_and] at hh
      exact hm (by omega)
theorem getD_left (xs ys : List Int) (i : Nat) (h : i < xs.length) : (xs ++ ys).getD i 0 = xs.getD i 0 := by
  simp [List.getD, List.getElem?_append_left h]
theorem copyT_take (d : Nat) : ∀ (k : Nat) (out : List Int), (copyT d k out).take out.length = out
  | 0, out => List.take_length
  | k + 1, out => by
    rw [copyT_succ, List.take_append_of_le_length (by rw [copyT_len]; omega), copyT_take d k out]
theorem copyT_get (d : Nat) (hd : 1 ≤ d) : ∀ (k : Nat) (out : List Int), d ≤ out.length → ∀ j, j < k → (copyT d k out).getD (out.length + j) 0 = (copyT d k out).getD (out.length + j - d) 0
  | 0, _, _, j, h => absurd h (Nat.not_lt_zero j)
  | k + 1, out, ho, j, hj => by
    have hl := copyT_len d k out
    rw [copyT_succ]
    by_cases h : j < k
    · rw [getD_left _ _ _ (by omega), getD_left _ _ _ (by omega)]
      exact copyT_get d hd k out ho j h
    · obtain rfl : j = k := by omega
      rw [getD_left _ _ (out.length + j - d) (by omega), ← hl]
      simp [List.getD]
end Go.Proofs.Ytggjdkkobhefeaa
