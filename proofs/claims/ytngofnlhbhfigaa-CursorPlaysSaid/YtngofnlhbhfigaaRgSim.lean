/- Both flashes' regions in plain words go alike. -/
import Derived.Test.YtngofnlhbhfigaaRfRg
namespace Go.Proofs.Ytngofnlhbhfigaa
open Go.RowKit

section
variable {s r : FS}
theorem Sim.gread (h : Sim s r) (f c : Nat) (a m : Int) : r.gread f c a m = s.gread f c a m := by obtain ⟨l, rfl, _⟩ := h; rfl
theorem Sim.gblank (h : Sim s r) (f c : Nat) (k : Int) : r.gblank f c k = s.gblank f c k := by obtain ⟨l, rfl, _⟩ := h; rfl
theorem Sim.gprog (h : Sim s r) (f c : Nat) (a : Int) (zs : List Int) (hs : s.steps + zs.length ≤ 1000000000000) : Sim (s.gprog f c a zs).1 (r.gprog f c a zs).1 ∧ (r.gprog f c a zs).2 = (s.gprog f c a zs).2 := by
  unfold FS.gprog
  rw [h.dark]
  split
  · exact ⟨h, rfl⟩
  · split
    · exact h.prog _ _ hs
    · exact ⟨h, rfl⟩
theorem Sim.gerase (h : Sim s r) (f c : Nat) (k : Int) (hs : s.steps ≤ 1000000000000) : Sim (s.gerase f c k).1 (r.gerase f c k).1 ∧ (r.gerase f c k).2 = (s.gerase f c k).2 := by
  unfold FS.gerase
  rw [h.dark]
  split
  · exact ⟨h, rfl⟩
  · split
    · exact ⟨h, rfl⟩
    · exact h.erase _ hs
theorem Room.gprogF {m : Nat} (h : Room s (m + 1101)) (f c : Nat) (a : Int) {zs : List Int} (hz : zs.length ≤ 1100) : Room (s.gprog f c a zs).1 m := by
  have := gprog_more s f c a zs
  have h1 := h.st
  exact ⟨by omega, fun i => by rw [this.1]; have := h.er i; omega⟩
theorem gerase_len (s : FS) (f c : Nat) (k : Int) : (s.gerase f c k).1.er.length = s.er.length := by
  unfold FS.gerase
  split
  · rfl
  · split
    · rfl
    · exact (erase_more s _).1
end
end Go.Proofs.Ytngofnlhbhfigaa
