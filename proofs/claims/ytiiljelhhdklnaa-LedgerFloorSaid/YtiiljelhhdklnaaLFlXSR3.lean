
/- The walk of the reference's GetRecord. -/
import Derived.Test.YtiiljelhhdklnaaLFlXSR2
import Derived.Test.YtiiljelhhdklnaaLFlXMix4
namespace Go.Proofs.Ytiiljelhhdklnaa
open Go.RowKit

theorem num2b (a b : Nat) : numN [(a : Int), (b : Int)] = a + b * 256 := by simp [numN]; omega
theorem num4b (a b c d : Nat) : numN [(a : Int), (b : Int), (c : Int), (d : Int)] = a + b * 256 + c * 65536 + d * 16777216 := by simp [numN]; omega
theorem take_get2 {zs : List Int} {k : Nat} (h : k + 2 ≤ zs.length) : (zs.drop k).take 2 = [zs.getD k 0, zs.getD (k + 1) 0] := by
  rw [List.drop_eq_getElem_cons (by omega), List.take_succ_cons, List.drop_eq_getElem_cons (by omega), List.take_succ_cons, List.take_zero]
  simp [List.getD, show k < zs.length by omega, show k + 1 < zs.length by omega]
theorem take_get4 {zs : List Int} {k : Nat} (h : k + 4 ≤ zs.length) : (zs.drop k).take 4 = [zs.getD k 0, zs.getD (k + 1) 0, zs.getD (k + 2) 0, zs.getD (k + 3) 0] := by
  rw [List.drop_eq_getElem_cons (by omega), List.take_succ_cons, List.drop_eq_getElem_cons (by omega), List.take_succ_cons, List.drop_eq_getElem_cons (by omega), List.take_succ_cons, List.drop_eq_getElem_cons (by omega), List.take_succ_cons, List.take_zero]
  simp [List.getD, show k < zs.length by omega, show k + 1 < zs.length by omega, show k + 1 + 1 < zs.length by omega, show k + 1 + 1 + 1 < zs.length by omega]
theorem Own.lt2 {w : World} {B : Nat} {v : Value} {zs : List Int} (h : Own w B v zs) {b : Nat} (hb : v.ownBlock = some b) : b < w.heap.size := by
  rcases h.1.2 with ⟨rfl, _⟩ | ⟨g, cap, cur, rfl, hg, hgg, _⟩
  · cases hb
  · obtain rfl : g = b := by simpa [Value.ownBlock] using hb
    exact (Array.getElem?_eq_some_iff.1 hgg).1
end Go.Proofs.Ytiiljelhhdklnaa
