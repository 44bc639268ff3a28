
/- The walks of seal.four, seal.Size, seal.Put. -/
import Derived.Test.YtgehkioneelgcaaJCuXSealPut
namespace Go.Proofs.Ytgehkioneelgcaa
open Go.RowKit

/-- A number's four bytes, the lowest first. -/
def le4 (x : Nat) : List Int := [(x : Int) % 256, (x : Int) / 256 % 256, (x : Int) / 65536 % 256, (x : Int) / 16777216]
theorem le4_byte (x : Nat) (hx : x < 4294967296) : ∀ z ∈ le4 x, 0 ≤ z ∧ z ≤ 255 := by
  intro z hz
  simp only [le4, List.mem_cons, List.not_mem_nil, or_false] at hz
  rcases hz with rfl | rfl | rfl | rfl <;> omega
theorem Own.lit (w : World) (zs : List Int) (hz : ∀ z ∈ zs, 0 ≤ z ∧ z ≤ 255) (hl : zs.length ≤ 1000000) : Own (w.alloc (.cells (zs.map (Value.int .u8)).toArray 5)) w.heap.size (.slice (some ⟨w.heap.size, 0, none⟩) zs.length zs.length) zs := by
  refine ⟨?_, hz⟩
  have := World.ownsRow_lit (base := w.heap.size) (e := 5) (size := 1) w (zs.map (Value.int .u8)).toArray zs.length (Nat.le_refl _) (by unfold maxLen; omega) (by simp)
  simpa using this

set_option maxRecDepth 100000 in
theorem sfour_any (x : Nat) (hx : x < 4294967296) (w : World) : Calls Try.prog 45 #[.int .u32 x] w fun e w' => ∃ v, e = .returned v ∧ Own w' w.heap.size v (le4 x) ∧ Keeps None w w' := by
  have OL := Lib.hid (Own.lit w (le4 x) (le4_byte x hx) (by simp [le4]))
  go_enter Try.func45, Try.ntmps45
  go_wp2
  go_ret
  exact ⟨_, rfl, OL.out, (Keeps.refl _ _).alloc _⟩

def sizeZ (n : Int) : Int := if n < 0 ∨ 512 < n then 0 else 16 + (n + 7) / 8 * 8
set_option maxRecDepth 100000 in
theorem ssize_any (n : Int) (w : World) : Calls Try.prog 65 #[.int .i64 n] w fun e w' => e = .returned (.int .i64 (sizeZ n)) ∧ w = w' := by
  by_cases h1 : n < 0
  · have d1 : decide (n < 0) = true := decide_eq_true h1
    have e : sizeZ n = 0 := if_pos (.inl h1)
    rw [e]
    go_enter Try.func65, Try.ntmps65
    go_wp2
    go_ret
    exact ⟨rfl, rfl⟩
  have d1 : decide (n < 0) = false := decide_eq_false h1
  by_cases h2 : 512 < n
  · have d2 : decide (512 < n) = true := decide_eq_true h2
    have e : sizeZ n = 0 := if_pos (.inr h2)
    rw [e]
    go_enter Try.func65, Try.ntmps65
    go_wp2
    go_ret
    exact ⟨rfl, rfl⟩
  have d2 : decide (512 < n) = false := decide_eq_false h2
  have e : sizeZ n = 16 + (n + 7) / 8 * 8 := if_neg (by omega)
  rw [e]
  have h3 : n ≤ 512 := by omega
  have h4 : 0 ≤ n := by omega
  obtain ⟨m, rfl⟩ : ∃ m : Nat, n = m := ⟨n.toNat, by omega⟩
  go_enter Try.func65, Try.ntmps65
  go_wp2
  go_ret
  exact ⟨by first | rfl | (congr 1; simp; omega), rfl⟩

def padK (n : Nat) : Nat := (8 - n % 8) % 8
def headL (kind seq : Int) (n : Nat) : List Int := [kind, 0, (n : Int) % 256, (n : Int) / 256]
def frontL (kind seq : Int) (zs : List Int) : List Int := headL kind seq zs.length ++ le4 seq.toNat ++ zs ++ List.replicate (padK zs.length) 0
def sumOf (zs : List Int) : Nat := crcOf (natL zs)
def tailL (zs : List Int) : List Int := le4 (sumOf zs) ++ le4 (sumOf zs ^^^ 4294967295)
def fitsR (kind seq : Int) (n : Nat) : Prop := 1 ≤ kind ∧ kind ≤ 250 ∧ 0 ≤ seq ∧ seq ≤ 4294967295 ∧ n ≤ 512
instance (kind seq : Int) (n : Nat) : Decidable (fitsR kind seq n) := inferInstanceAs (Decidable (_ ∧ _ ∧ _ ∧ _ ∧ _))
/-- A record in words. -/
def putL (kind seq : Int) (zs : List Int) : List Int := if fitsR kind seq zs.length then frontL kind seq zs ++ tailL (frontL kind seq zs) else []

end Go.Proofs.Ytgehkioneelgcaa
