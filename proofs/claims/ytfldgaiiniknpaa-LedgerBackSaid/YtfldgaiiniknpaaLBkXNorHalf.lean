
/- The law NorHalf: its walk. -/
import Derived.Test.YtfldgaiiniknpaaLBkc
namespace Go.Proofs.Ytfldgaiiniknpaa
open Go.RowKit

theorem halfN_byte {os ps : List Int} (ho : ∀ z ∈ os, 0 ≤ z ∧ z ≤ 255) (hp : ∀ z ∈ ps, 0 ≤ z ∧ z ≤ 255) : ∀ z ∈ halfN os ps, 0 ≤ z ∧ z ≤ 255 := by
  intro z hz
  obtain ⟨i, _, rfl⟩ := List.mem_map.1 hz
  split
  · exact bits_or_bd _ _ (byte_getD ho i) (byte_getD hp i)
  · exact byte_getD ho i
theorem halfN_getD (os ps : List Int) (i : Nat) : (halfN os ps).getD i 0 = if i < os.length then halfAt os ps i else 0 := by
  by_cases hi : i < os.length <;> simp [halfN, halfTo, List.getD, hi]
theorem halfN_length (os ps : List Int) : (halfN os ps).length = os.length := halfTo_length _ _ _
theorem edTo_half {os ps : List Int} (ho : ∀ z ∈ os, 0 ≤ z ∧ z ≤ 255) : edTo (halfAt os ps) os (min os.length ps.length) = halfN os ps := by
  unfold edTo halfN halfTo
  refine List.map_congr_left fun i hi => ?_
  have hi2 := List.mem_range.1 hi
  by_cases h : i < min os.length ps.length
  · rw [if_pos h, if_pos hi2]
  · rw [if_neg h, if_pos hi2]
    have e1 : ps.getD i 0 = 0 := by simp [List.getD, List.getElem?_eq_none (show ps.length ≤ i by omega)]
    have a := byte_getD ho i
    rw [halfAt, e1, u8_or _ _ a.1 (by omega) (by omega) (by omega)]
    rw [show ((0 : Int)).toNat = 0 from rfl, Nat.or_zero]; omega
theorem canN_half {os ps : List Int} (ho : ∀ z ∈ os, 0 ≤ z ∧ z ≤ 255) (hp : ∀ z ∈ ps, 0 ≤ z ∧ z ≤ 255) : canN (halfN os ps) os = true := by
  refine (canN_iff (halfN_byte ho hp) ho).2 ⟨halfN_length _ _, fun i => ?_⟩
  rw [halfN_getD]
  split
  · have a := byte_getD ho i
    have b := byte_getD hp i
    rw [halfAt, u8_or _ _ a.1 (by omega) b.1 (by omega), Int.toNat_natCast, land_lor]
  · have e1 : os.getD i 0 = 0 := by simp [List.getD, List.getElem?_eq_none (show os.length ≤ i by omega)]
    rw [e1]; rfl
theorem lor_lor (a b : Nat) : a ||| (a ||| b) = a ||| b := by
  apply Nat.eq_of_testBit_eq; intro i; simp only [Nat.testBit_or]; cases a.testBit i <;> simp
theorem half_half {os ps : List Int} (ho : ∀ z ∈ os, 0 ≤ z ∧ z ≤ 255) (hp : ∀ z ∈ ps, 0 ≤ z ∧ z ≤ 255) : halfN os (halfN os ps) = halfN os ps := by
  conv => lhs; unfold halfN halfTo
  conv => rhs; unfold halfN halfTo
  refine List.map_congr_left fun i hi => ?_
  have hi2 := List.mem_range.1 hi
  rw [if_pos hi2, if_pos hi2]
  have e : (List.map (fun i => if i < os.length then halfAt os ps i else os.getD i 0) (List.range os.length)).getD i 0 = halfAt os ps i := by have := halfN_getD os ps i; rw [if_pos hi2] at this; exact this
  have a := byte_getD ho i
  have b := byte_getD hp i
  have t := bits_or_bd _ _ a b
  conv => lhs; rw [halfAt]
  rw [e]
  have t2 : 0 ≤ halfAt os ps i ∧ halfAt os ps i ≤ 255 := t
  rw [u8_or _ _ a.1 (by omega) t2.1 (by omega)]
  rw [halfAt, u8_or _ _ a.1 (by omega) b.1 (by omega), Int.toNat_natCast, lor_lor]
theorem lor_255 (b : Nat) (h : b ≤ 255) : 255 ||| b = 255 := by
  have h1 : 255 ||| b < 2 ^ 8 := Nat.or_lt_two_pow (by omega) (by omega)
  have h2 : 255 ≤ 255 ||| b := Nat.left_le_or
  omega
theorem blank_half (n : Int) {ps : List Int} (hp : ∀ z ∈ ps, 0 ≤ z ∧ z ≤ 255) : blankB (halfN (blankN n) ps) = true := by
  simp only [blankB, decide_eq_true_eq]
  intro i hi
  rw [halfN_length] at hi
  rw [halfN_getD, if_pos hi]
  have b := byte_getD hp i
  have e2 : (blankN n).getD i 0 = 255 := by
    have hi' : i < (max 0 (min n 65536)).toNat := by simpa [blankN] using hi
    simp [blankN, List.getD, hi']
  rw [halfAt, e2, u8_or _ _ (by omega) (by omega) b.1 (by omega)]
  rw [show ((255 : Int)).toNat = 255 from rfl, lor_255 _ (by omega)]; rfl


end Go.Proofs.Ytfldgaiiniknpaa
