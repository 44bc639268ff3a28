
/- The law NorTorn: its walk. -/
import Derived.Test.YtfldgaiiniknpaaLBkc
namespace Go.Proofs.Ytfldgaiiniknpaa
open Go.RowKit

theorem canN_os_torn {os ns ps : List Int} (ho : ∀ z ∈ os, 0 ≤ z ∧ z ≤ 255) (hn : ∀ z ∈ ns, 0 ≤ z ∧ z ≤ 255) (hp : ∀ z ∈ ps, 0 ≤ z ∧ z ≤ 255) (hc : canN os ns = true) : canN os (tornN os ns ps) = true := by
  obtain ⟨l1, h1⟩ := (canN_iff ho hn).1 hc
  refine (canN_iff ho (tornN_byte ho hn hp)).2 ⟨by rw [tornN, if_pos hc, tornTo_length]; exact l1, fun i => ?_⟩
  rw [tornN, if_pos hc, tornTo_getD]
  split
  · have a := byte_getD ho i
    have b := byte_getD hn i
    have c := byte_getD hp i
    have d := bits_and_bd _ _ a c
    have h1i := h1 i
    rw [tornAt, u8_or _ _ b.1 (by omega) d.1 (by omega), Int.toNat_natCast, u8_and _ _ a.1 (by omega) c.1 (by omega), Int.toNat_natCast, ← h1i]
    apply Nat.eq_of_testBit_eq; intro j
    simp only [Nat.testBit_and, Nat.testBit_or]
    cases (ns.getD i 0).toNat.testBit j <;> cases (os.getD i 0).toNat.testBit j <;> simp
  · simp
/-- The torn row, laid byte by byte as far as the pick reaches. -/
theorem edTo_torn {os ns ps : List Int} (ho : ∀ z ∈ os, 0 ≤ z ∧ z ≤ 255) (hn : ∀ z ∈ ns, 0 ≤ z ∧ z ≤ 255) (hc : canN os ns = true) :
    edTo (tornAt os ns ps) ns (min os.length ps.length) = tornN os ns ps := by
  have l1 := ((canN_iff ho hn).1 hc).1
  rw [tornN, if_pos hc, edTo, tornTo]
  refine List.map_congr_left fun i hi => ?_
  have hi2 := List.mem_range.1 hi
  by_cases h : i < min os.length ps.length
  · rw [if_pos h, if_pos hi2]
  · rw [if_neg h, if_pos hi2]
    have e1 : ps.getD i 0 = 0 := by simp [List.getD, List.getElem?_eq_none (show ps.length ≤ i by omega)]
    have a := byte_getD ho i
    have b := byte_getD hn i
    rw [tornAt, e1, u8_and _ _ a.1 (by omega) (by omega) (by omega)]
    have : (os.getD i 0).toNat &&& (0 : Int).toNat = 0 := by simp
    rw [this, u8_or _ _ b.1 (by omega) (by omega) (by omega)]
    rw [show (((0 : Nat) : Int)).toNat = 0 from rfl, Nat.or_zero]; omega
/-- Torn by what is torn already: the same. -/
theorem torn_torn {os ns ps : List Int} (ho : ∀ z ∈ os, 0 ≤ z ∧ z ≤ 255) (hn : ∀ z ∈ ns, 0 ≤ z ∧ z ≤ 255) (hp : ∀ z ∈ ps, 0 ≤ z ∧ z ≤ 255) (hc : canN os ns = true) : tornN os ns (tornN os ns ps) = tornN os ns ps := by
  obtain ⟨l1, h1⟩ := (canN_iff ho hn).1 hc
  rw [tornN, if_pos hc]
  conv => rhs; rw [tornN, if_pos hc]
  unfold tornTo
  refine List.map_congr_left fun i hi => ?_
  have hi2 := List.mem_range.1 hi
  rw [if_pos hi2, if_pos hi2]
  have e : (tornN os ns ps).getD i 0 = tornAt os ns ps i := by rw [tornN, if_pos hc, tornTo_getD, if_pos hi2, if_pos hi2]
  have a := byte_getD ho i
  have b := byte_getD hn i
  have c := byte_getD hp i
  have d := bits_and_bd _ _ a c
  have t := tornAt_byte ho hn hp i
  have d2 := bits_and_bd _ _ a t
  have h1i := h1 i
  conv => lhs; rw [tornAt, e, u8_or _ _ b.1 (by omega) d2.1 (by omega), u8_and _ _ a.1 (by omega) t.1 (by omega), Int.toNat_natCast]
  conv => rhs; rw [tornAt, u8_or _ _ b.1 (by omega) d.1 (by omega), u8_and _ _ a.1 (by omega) c.1 (by omega), Int.toNat_natCast]
  rw [tornAt, u8_or _ _ b.1 (by omega) d.1 (by omega), u8_and _ _ a.1 (by omega) c.1 (by omega), Int.toNat_natCast, Int.toNat_natCast]
  congr 1
  rw [← h1i]
  apply Nat.eq_of_testBit_eq; intro j
  simp only [Nat.testBit_and, Nat.testBit_or]
  cases (ns.getD i 0).toNat.testBit j <;> cases (os.getD i 0).toNat.testBit j <;> simp



end Go.Proofs.Ytfldgaiiniknpaa
