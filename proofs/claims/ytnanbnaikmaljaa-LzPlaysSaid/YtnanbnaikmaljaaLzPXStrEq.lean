
/- Strings of bytes are equal where the bytes are; parts of slices. -/
import Derived.Test.YtnanbnaikmaljaaLzPa
import Derived.Lib.Strings
namespace Go.Proofs.Ytnanbnaikmaljaa
open Go.RowKit

theorem own_bs {w : World} {X : Nat} {A : Option Addr} {n cap : Nat} {l : List Int} (h : Own w X (.slice A n cap) l) : Bs w A n cap l := by
  obtain ⟨A', cap', e, hb, -⟩ := h.shape
  cases e
  exact hb
theorem strOf_data (zs : List Int) (acc : ByteArray) : (zs.foldl (fun r n => r.push (UInt8.ofNat n.toNat)) acc).data.toList = acc.data.toList ++ zs.map (fun n => UInt8.ofNat n.toNat) := by
  induction zs generalizing acc with
  | nil => simp
  | cons z zs ih => rw [List.foldl_cons, ih, List.map_cons]; simp [ByteArray.push]
theorem strOf_inj {xs ys : List Int} (hx : ∀ z ∈ xs, 0 ≤ z ∧ z ≤ 255) (hy : ∀ z ∈ ys, 0 ≤ z ∧ z ≤ 255) (h : (strOf xs).data.toList = (strOf ys).data.toList) : xs = ys := by
  have h1 : xs.map (fun n => UInt8.ofNat n.toNat) = ys.map (fun n => UInt8.ofNat n.toNat) := by
    simp only [strOf, strOf_data] at h
    simpa using h
  have back : ∀ l : List Int, (∀ z ∈ l, 0 ≤ z ∧ z ≤ 255) → (l.map (fun n => UInt8.ofNat n.toNat)).map (fun b => (b.toNat : Int)) = l := by
    intro l hl
    induction l with
    | nil => rfl
    | cons z l ih =>
      have hz := hl z List.mem_cons_self
      simp only [List.map_cons]
      rw [ih (fun y hy => hl y (List.mem_cons_of_mem _ hy))]
      congr 1
      have : z.toNat < 256 := by omega
      rw [UInt8.toNat_ofNat']
      have e : z.toNat % 2 ^ 8 = z.toNat := Nat.mod_eq_of_lt this
      rw [e]; omega
  rw [← back xs hx, ← back ys hy, h1]
theorem strOf_beq {xs ys : List Int} (hx : ∀ z ∈ xs, 0 ≤ z ∧ z ≤ 255) (hy : ∀ z ∈ ys, 0 ≤ z ∧ z ≤ 255) : ((strOf xs).toList == (strOf ys).toList) = decide (xs = ys) := by
  rw [Lib.toList_data, Lib.toList_data]
  by_cases h : xs = ys
  · subst h; simp
  · rw [decide_eq_false h]
    cases hb : ((strOf xs).data.toList == (strOf ys).data.toList) with
    | false => rfl
    | true => exact absurd (strOf_inj hx hy (by simpa using hb)) h

end Go.Proofs.Ytnanbnaikmaljaa
