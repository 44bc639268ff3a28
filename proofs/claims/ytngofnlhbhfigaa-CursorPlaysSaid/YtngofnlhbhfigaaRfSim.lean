/- The two flashes in plain words: alike but for a broken step that lies too far ahead to be reached. -/
import Derived.Test.YtngofnlhbhfigaaRfWrite
namespace Go.Proofs.Ytngofnlhbhfigaa
open Go.RowKit

/-- How many steps go ahead of the broken one: alike, or both too many. -/
def Far (st l k : Int) : Prop := l = k ∨ (4611686018427387904 - st ≤ l ∧ 4611686018427387904 - st ≤ k)
def Sim (s r : FS) : Prop := ∃ l, r = { s with left := l } ∧ Far s.steps l s.left
theorem far_zero {st l k : Int} (h : Far st l k) (hs : st ≤ 1000000000000) : (l = 0 ↔ k = 0) ∧ (l < 0 ↔ k < 0) := by
  unfold Far at h
  omega
section
variable {s r : FS}
theorem Sim.b (h : Sim s r) : r.b = s.b := by obtain ⟨l, rfl, _⟩ := h; rfl
theorem Sim.er (h : Sim s r) : r.er = s.er := by obtain ⟨l, rfl, _⟩ := h; rfl
theorem Sim.steps (h : Sim s r) : r.steps = s.steps := by obtain ⟨l, rfl, _⟩ := h; rfl
theorem Sim.dark (h : Sim s r) : r.dark = s.dark := by obtain ⟨l, rfl, _⟩ := h; rfl
theorem Sim.self (s : FS) : Sim s s := ⟨s.left, rfl, .inl rfl⟩
theorem Sim.read (h : Sim s r) (a m : Int) : r.readF a m = s.readF a m := by obtain ⟨l, rfl, _⟩ := h; rfl
theorem Sim.peek (h : Sim s r) (a m : Int) : r.peekF a m = s.peekF a m := by obtain ⟨l, rfl, _⟩ := h; rfl
theorem Sim.erases (h : Sim s r) (k : Int) : r.erasesF k = s.erasesF k := by obtain ⟨l, rfl, _⟩ := h; rfl
theorem sim_stepped {l : Int} (h : Far s.steps l s.left) (hs : s.steps ≤ 1000000000000) : ∃ l', ({ s with left := l } : FS).stepped = { s.stepped with left := l' } ∧ Far s.stepped.steps l' s.stepped.left := by
  obtain ⟨z1, z2⟩ := far_zero h hs
  unfold FS.stepped
  by_cases h1 : s.left < 0
  · have h1' := z2.2 h1
    rw [if_pos h1, if_pos (show ({ s with left := l } : FS).left < 0 from h1')]
    exact ⟨l, rfl, by unfold Far at h ⊢; show _ ∨ _; dsimp only; omega⟩
  · have h1' : ¬ l < 0 := fun e => h1 (z2.1 e)
    by_cases h2 : s.left = 0
    · have h2' := z1.2 h2
      rw [if_neg h1, if_pos h2, if_neg (show ¬ ({ s with left := l } : FS).left < 0 from h1'), if_pos (show ({ s with left := l } : FS).left = 0 from h2')]
      exact ⟨-1, rfl, .inl rfl⟩
    · have h2' : ¬ l = 0 := fun e => h2 (z1.1 e)
      rw [if_neg h1, if_neg h2, if_neg (show ¬ ({ s with left := l } : FS).left < 0 from h1'), if_neg (show ¬ ({ s with left := l } : FS).left = 0 from h2')]
      exact ⟨l - 1, rfl, by unfold Far at h ⊢; show _ ∨ _; dsimp only; omega⟩
theorem sim_progW : ∀ (k : Nat) (s : FS) (l : Int) (p : Nat) (ws : List Int), Far s.steps l s.left → s.steps + k ≤ 1000000000000 →
    ∃ l', progW k { s with left := l } p ws = ({ (progW k s p ws).1 with left := l' }, (progW k s p ws).2) ∧ Far (progW k s p ws).1.steps l' (progW k s p ws).1.left
  | 0, s, l, p, ws, h, _ => ⟨l, rfl, h⟩
  | k + 1, s, l, p, ws, h, hs => by
    obtain ⟨z1, _⟩ := far_zero h (by omega)
    obtain ⟨l', e1, f1⟩ := sim_stepped h (by omega)
    unfold progW
    by_cases h0 : s.left = 0
    · rw [if_pos h0, if_pos (show ({ s with left := l } : FS).left = 0 from z1.2 h0), e1]
      exact ⟨l', rfl, f1⟩
    · rw [if_neg h0, if_neg (show ¬ ({ s with left := l } : FS).left = 0 from fun e => h0 (z1.1 e)), e1]
      exact sim_progW k { s.stepped with b := splice s.b p (ws.take 8) } l' (p + 8) (ws.drop 8) f1 (by show s.stepped.steps + _ ≤ _; rw [FS.stepped_steps]; omega)
theorem Sim.prog (h : Sim s r) (a : Int) (zs : List Int) (hs : s.steps + zs.length ≤ 1000000000000) : Sim (s.progF a zs).1 (r.progF a zs).1 ∧ (r.progF a zs).2 = (s.progF a zs).2 := by
  have h' := h
  obtain ⟨l, rfl, hf⟩ := h
  unfold FS.progF
  dsimp only
  split
  · exact ⟨h', rfl⟩
  · split
    · exact ⟨h', rfl⟩
    · split
      · exact ⟨h', rfl⟩
      · split
        · exact ⟨h', rfl⟩
        · obtain ⟨l', e, f⟩ := sim_progW (zs.length / 8) s l a.toNat zs hf (by omega)
          rw [e]
          exact ⟨⟨l', rfl, f⟩, rfl⟩
theorem Sim.erase (h : Sim s r) (k : Int) (hs : s.steps ≤ 1000000000000) : Sim (s.eraseF k).1 (r.eraseF k).1 ∧ (r.eraseF k).2 = (s.eraseF k).2 := by
  have h' := h
  obtain ⟨l, rfl, hf⟩ := h
  obtain ⟨z1, _⟩ := far_zero hf hs
  unfold FS.eraseF
  dsimp only
  split
  · exact ⟨h', rfl⟩
  · split
    · exact ⟨h', rfl⟩
    · have hfe : Far (s.erased k.toNat).steps l (s.erased k.toNat).left := hf
      obtain ⟨l', e1, f1⟩ := sim_stepped hfe hs
      have e2 : (FS.erased { s with left := l } k.toNat) = { s.erased k.toNat with left := l } := rfl
      by_cases h0 : s.left = 0
      · rw [if_pos h0, if_pos (z1.2 h0), e2, e1]
        exact ⟨⟨l', rfl, f1⟩, rfl⟩
      · rw [if_neg h0, if_neg (fun e => h0 (z1.1 e)), e2, e1]
        exact ⟨⟨l', rfl, f1⟩, rfl⟩
theorem Sim.arm (h : Sim s r) (after : Int) (ps : List Int) (h0 : 0 ≤ s.steps) : Sim (s.armF after ps) (r.armR after ps) := by
  obtain ⟨l, rfl, hf⟩ := h
  unfold FS.armF FS.armR
  split
  · exact ⟨-1, rfl, .inl rfl⟩
  · refine ⟨min after 4611686018427387904, rfl, ?_⟩
    show min after 4611686018427387904 = after ∨ (4611686018427387904 - s.steps ≤ min after 4611686018427387904 ∧ 4611686018427387904 - s.steps ≤ after)
    omega
theorem Sim.boot (h : Sim s r) : Sim s.bootF r.bootF := by
  obtain ⟨l, rfl, hf⟩ := h
  exact ⟨-1, rfl, .inl rfl⟩
theorem Sim.spoil (h : Sim s r) (a : Int) (zs : List Int) : Sim (s.spoilF a zs).1 (r.spoilF a zs).1 ∧ (r.spoilF a zs).2 = (s.spoilF a zs).2 := by
  have h' := h
  obtain ⟨l, rfl, hf⟩ := h
  unfold FS.spoilF
  dsimp only
  split
  · exact ⟨⟨l, rfl, hf⟩, rfl⟩
  · exact ⟨h', rfl⟩
end
end Go.Proofs.Ytngofnlhbhfigaa
