
/- The walk of bytes.Equal and seal.Get. -/
import Derived.Test.YtgehkioneelgcaaJCuXSealPut3
import Derived.Test.YtgehkioneelgcaaJCua
import Derived.Lib.Strings
namespace Go.Proofs.Ytgehkioneelgcaa
open Go.RowKit

theorem strOf_data (zs : List Int) (acc : ByteArray) : (zs.foldl (fun r n => r.push (UInt8.ofNat n.toNat)) acc).data.toList = acc.data.toList ++ zs.map (fun n => UInt8.ofNat n.toNat) := by
  induction zs generalizing acc with
  | nil => simp
  | cons z zs ih => rw [List.foldl_cons, ih, List.map_cons]; simp [ByteArray.push]
theorem strOf_inj {xs ys : List Int} (hx : ∀ z ∈ xs, 0 ≤ z ∧ z ≤ 255) (hy : ∀ z ∈ ys, 0 ≤ z ∧ z ≤ 255) (h : (strOf xs).data.toList = (strOf ys).data.toList) : xs = ys := by
  have h1 : xs.map (fun n => UInt8.ofNat n.toNat) = ys.map (fun n => UInt8.ofNat n.toNat) := by
    simp only [strOf, strOf_data] at h
    simpa using h
  have back : ∀ l : List Int, (∀ z ∈ l, 0 ≤ z ∧ z ≤ 255) → (l.map (fun n => UInt8.ofNat n.toNat)).map (fun b => (b.toNat : Int)) = l := by
    intro l hl
    induction l with
    | nil => rfl
    | cons z l ih =>
      have hz := hl z List.mem_cons_self
      simp only [List.map_cons]
      rw [ih (fun y hy => hl y (List.mem_cons_of_mem _ hy))]
      congr 1
      have : z.toNat < 256 := by omega
      rw [UInt8.toNat_ofNat']
      have e : z.toNat % 2 ^ 8 = z.toNat := Nat.mod_eq_of_lt this
      rw [e]; omega
  rw [← back xs hx, ← back ys hy, h1]
theorem strOf_beq {xs ys : List Int} (hx : ∀ z ∈ xs, 0 ≤ z ∧ z ≤ 255) (hy : ∀ z ∈ ys, 0 ≤ z ∧ z ≤ 255) : ((strOf xs).toList == (strOf ys).toList) = decide (xs = ys) := by
  rw [Lib.toList_data, Lib.toList_data]
  by_cases h : xs = ys
  · subst h; simp
  · rw [decide_eq_false h]
    cases hb : ((strOf xs).data.toList == (strOf ys).data.toList) with
    | false => rfl
    | true => exact absurd (strOf_inj hx hy (by simpa using hb)) h

set_option maxRecDepth 100000 in
theorem bequal_any (A B : Option Addr) (n m c d : Nat) (xs ys : List Int) (w : World) (hx : Bs w A n c xs) (hy : Bs w B m d ys) :
    Calls Try.prog 66 #[.slice A n c, .slice B m d] w fun e w' => e = .returned (.bool (decide (xs = ys))) ∧ w = w' := by
  have h1 := run_str hx
  have h2 := run_str hy
  have E := Lib.hid (strOf_beq hx.byte hy.byte)
  generalize strOf xs = sx at *
  generalize strOf ys = sy at *
  go_enter Try.func66, Try.ntmps66
  go_wp2
  go_ret
  exact ⟨by rw [← E.out]; first | rfl | (congr 2; simp), rfl⟩

/-- What bytes begin with: kind, number, body, how many bytes. -/
def getL (zs : List Int) : Option (Int × Int × List Int × Int) :=
  if zs.length < 16 then none else
  let n : Int := zs.getD 2 0 + zs.getD 3 0 * 256
  if sizeZ n = 0 ∨ (zs.length : Int) < sizeZ n then none else
  let seq : Int := zs.getD 4 0 + zs.getD 5 0 * 256 + zs.getD 6 0 * 65536 + zs.getD 7 0 * 16777216
  let body := (zs.drop 8).take n.toNat
  if putL (zs.getD 0 0) seq body = zs.take (sizeZ n).toNat then some (zs.getD 0 0, seq, body, sizeZ n) else none
/-- What Get tells. -/
def GetIs (zs : List Int) (k s : Int) (bl : List Int) (n : Int) (ok : Bool) : Prop :=
  (ok = true ∧ getL zs = some (k, s, bl, n)) ∨ (ok = false ∧ getL zs = none ∧ k = 0 ∧ s = 0 ∧ bl = [] ∧ n = 0)
theorem or_two (a b : Nat) (ha : a < 256) (hb : b < 256) : bits .or .i64 (a : Int) ((b : Int) * 256) = ((a + b * 256 : Nat) : Int) := by
  have := i64_or_nat a (b * 256) (by omega) (by omega)
  rw [Nat.or_comm, nat_join 8 (b * 256) a (by omega) (by omega)] at this
  rw [Nat.add_comm a]
  exact this
theorem or_three (a b : Nat) (ha : a < 65536) (hb : b < 256) : bits .or .i64 (a : Int) ((b : Int) * 65536) = ((a + b * 65536 : Nat) : Int) := by
  have := i64_or_nat a (b * 65536) (by omega) (by omega)
  rw [Nat.or_comm, nat_join 16 (b * 65536) a (by omega) (by omega)] at this
  rw [Nat.add_comm a]
  exact this
theorem or_four (a b : Nat) (ha : a < 16777216) (hb : b < 256) : bits .or .i64 (a : Int) ((b : Int) * 16777216) = ((a + b * 16777216 : Nat) : Int) := by
  have := i64_or_nat a (b * 16777216) (by omega) (by omega)
  rw [Nat.or_comm, nat_join 24 (b * 16777216) a (by omega) (by omega)] at this
  rw [Nat.add_comm a]
  exact this
end Go.Proofs.Ytgehkioneelgcaa
