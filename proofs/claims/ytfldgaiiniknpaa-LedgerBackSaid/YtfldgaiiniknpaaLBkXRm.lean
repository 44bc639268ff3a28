
/- Room for steps and erasures: what a flash's calls add to them. -/
import Derived.Test.YtfldgaiiniknpaaLBkd
namespace Go.Proofs.Ytfldgaiiniknpaa
open Go.RowKit

/-- Room for so many steps more. -/
structure Room (s : FS) (m : Nat) : Prop where
  st : 0 ≤ s.steps ∧ s.steps + m ≤ 1000000000000
  er : ∀ i, 0 ≤ s.er.getD i 0 ∧ s.er.getD i 0 + m ≤ 1000000000000
theorem Room.less {s : FS} {m k : Nat} (h : Room s m) (hk : k ≤ m) : Room s k :=
  ⟨by have := h.st; omega, fun i => by have := h.er i; omega⟩
theorem progW_more : ∀ (k : Nat) (s : FS) (p : Nat) (ws : List Int), (progW k s p ws).1.er = s.er ∧ s.steps ≤ (progW k s p ws).1.steps ∧ (progW k s p ws).1.steps ≤ s.steps + k
  | 0, s, p, ws => ⟨rfl, Int.le_refl _, by show s.steps ≤ s.steps + ((0 : Nat) : Int); omega⟩
  | k + 1, s, p, ws => by
    unfold progW
    split
    · exact ⟨s.stepped_er, by show s.steps ≤ s.stepped.steps; rw [s.stepped_steps]; omega, by show s.stepped.steps ≤ _; rw [s.stepped_steps]; omega⟩
    · have := progW_more k { s.stepped with b := splice s.b p (ws.take 8) } (p + 8) (ws.drop 8)
      have h1 : ({ s.stepped with b := splice s.b p (ws.take 8) } : FS).er = s.er := s.stepped_er
      have h2 : ({ s.stepped with b := splice s.b p (ws.take 8) } : FS).steps = s.steps + 1 := s.stepped_steps
      rw [h1, h2] at this
      exact ⟨this.1, by omega, by omega⟩
theorem prog_more (s : FS) (a : Int) (zs : List Int) : (s.progF a zs).1.er = s.er ∧ s.steps ≤ (s.progF a zs).1.steps ∧ (s.progF a zs).1.steps ≤ s.steps + zs.length := by
  unfold FS.progF
  split
  · exact ⟨rfl, by dsimp only; omega, by dsimp only; omega⟩
  · split
    · exact ⟨rfl, by dsimp only; omega, by dsimp only; omega⟩
    · split
      · exact ⟨rfl, by dsimp only; omega, by dsimp only; omega⟩
      · split
        · exact ⟨rfl, by dsimp only; omega, by dsimp only; omega⟩
        · have := progW_more (zs.length / 8) s a.toNat zs
          exact ⟨this.1, this.2.1, by omega⟩
theorem gprog_more (s : FS) (f c : Nat) (a : Int) (zs : List Int) : (s.gprog f c a zs).1.er = s.er ∧ s.steps ≤ (s.gprog f c a zs).1.steps ∧ (s.gprog f c a zs).1.steps ≤ s.steps + zs.length := by
  unfold FS.gprog
  split
  · exact ⟨rfl, by dsimp only; omega, by dsimp only; omega⟩
  · split
    · exact prog_more s _ zs
    · exact ⟨rfl, by dsimp only; omega, by dsimp only; omega⟩
theorem set_more (l : List Int) (k i : Nat) : l.getD i 0 ≤ (l.set k (l.getD k 0 + 1)).getD i 0 ∧ (l.set k (l.getD k 0 + 1)).getD i 0 ≤ l.getD i 0 + 1 := by
  by_cases e : i = k
  · subst e
    by_cases hl : i < l.length
    · rw [getD_set_self _ _ _ hl]; omega
    · rw [List.set_eq_of_length_le (by omega)]; omega
  · have : (l.set k (l.getD k 0 + 1)).getD i 0 = l.getD i 0 := by simp [List.getD, List.getElem?_set, show ¬ k = i from fun x => e x.symm]
    rw [this]; omega
theorem erase_more (s : FS) (k : Int) : (s.eraseF k).1.er.length = s.er.length ∧ (s.steps ≤ (s.eraseF k).1.steps ∧ (s.eraseF k).1.steps ≤ s.steps + 1) ∧ ∀ i, s.er.getD i 0 ≤ (s.eraseF k).1.er.getD i 0 ∧ (s.eraseF k).1.er.getD i 0 ≤ s.er.getD i 0 + 1 := by
  have h0 : s.er.length = s.er.length ∧ (s.steps ≤ s.steps ∧ s.steps ≤ s.steps + 1) ∧ ∀ i, s.er.getD i 0 ≤ s.er.getD i 0 ∧ s.er.getD i 0 ≤ s.er.getD i 0 + 1 := ⟨rfl, ⟨by omega, by omega⟩, fun i => ⟨by omega, by omega⟩⟩
  have h1 : ∀ b : List Int, ({ (s.erased k.toNat).stepped with b := b } : FS).er.length = s.er.length ∧ (s.steps ≤ ({ (s.erased k.toNat).stepped with b := b } : FS).steps ∧ ({ (s.erased k.toNat).stepped with b := b } : FS).steps ≤ s.steps + 1) ∧ ∀ i, s.er.getD i 0 ≤ ({ (s.erased k.toNat).stepped with b := b } : FS).er.getD i 0 ∧ ({ (s.erased k.toNat).stepped with b := b } : FS).er.getD i 0 ≤ s.er.getD i 0 + 1 := fun b => by
    have e1 : (s.erased k.toNat).stepped.er = s.er.set k.toNat (s.er.getD k.toNat 0 + 1) := (s.erased k.toNat).stepped_er
    have e2 : (s.erased k.toNat).stepped.steps = s.steps + 1 := (s.erased k.toNat).stepped_steps
    show (s.erased k.toNat).stepped.er.length = s.er.length ∧ (s.steps ≤ (s.erased k.toNat).stepped.steps ∧ (s.erased k.toNat).stepped.steps ≤ s.steps + 1) ∧ ∀ i, s.er.getD i 0 ≤ (s.erased k.toNat).stepped.er.getD i 0 ∧ (s.erased k.toNat).stepped.er.getD i 0 ≤ s.er.getD i 0 + 1
    rw [e1, e2]
    exact ⟨List.length_set, ⟨by omega, by omega⟩, fun i => set_more _ _ _⟩
  unfold FS.eraseF
  split
  · exact h0
  · split
    · exact h0
    · split
      · exact h1 _
      · exact h1 _
theorem Room.prog {s : FS} {m : Nat} {zs : List Int} (h : Room s (m + zs.length)) (f c : Nat) (a : Int) : Room (s.gprog f c a zs).1 m := by
  have := gprog_more s f c a zs
  have h1 := h.st
  exact ⟨by omega, fun i => by rw [this.1]; have := h.er i; omega⟩
theorem Room.erase {s : FS} {m : Nat} (h : Room s (m + 1)) (f c : Nat) (k : Int) : Room (s.gerase f c k).1 m := by
  unfold FS.gerase
  split
  · exact h.less (by omega)
  · split
    · exact h.less (by omega)
    · have := erase_more s (f + k)
      have h1 := h.st
      exact ⟨by omega, fun i => by have h2 := h.er i; have h3 := this.2.2 i; omega⟩
end Go.Proofs.Ytfldgaiiniknpaa
