
/- token.read in plain words, and its walk. -/
import Derived.Test.YtnanbnaikmaljaaLzPXTkFeed
import Derived.Test.YtnanbnaikmaljaaLzPa
namespace Go.Proofs.Ytnanbnaikmaljaa
open Go.RowKit

theorem dEat_ok (s : DSt) (zs : List Int) (hz : ∀ z ∈ zs, 0 ≤ z ∧ z ≤ 255) (h : DOk s) : DOk (dEat s zs) := by
  induction zs generalizing s with
  | nil => exact h
  | cons z zs ih => exact ih _ (fun y hy => hz y (List.mem_cons_of_mem _ hy)) (h.byte z (hz z List.mem_cons_self))
/-- What read tells, with so many steps. -/
def readN (plain : Nat) : Nat → RdS → DSt → List Int → Nat → List Tok → Option (List Tok)
  | 0, _, _, _, _, _ => none
  | f + 1, s, d, zs, md, out =>
    if fedB d zs = false then none
    else if md = plain then some out
    else
      if rTok s (dEat d (zs.take d.n.toNat)) = true then
        if mayT (rNext s (dEat d (zs.take d.n.toNat))).t md = true ∧ longT (rNext s (dEat d (zs.take d.n.toNat))).t ≤ (plain : Int) - md then
          readN plain f (rNext s (dEat d (zs.take d.n.toNat))) (rDec s (dEat d (zs.take d.n.toNat))) (zs.drop d.n.toNat) (md + (longT (rNext s (dEat d (zs.take d.n.toNat))).t).toNat) (out ++ [(rNext s (dEat d (zs.take d.n.toNat))).t])
        else none
      else readN plain f (rNext s (dEat d (zs.take d.n.toNat))) (rDec s (dEat d (zs.take d.n.toNat))) (zs.drop d.n.toNat) md out
def dst0 : DSt := ⟨0, 4294967295, 4⟩
def readP (zs : List Int) (plain : Nat) : Option (List Tok) := readN plain (plain * 1000 + 1000) rd0 dst0 zs 0 []
def muR (s : RdS) : Nat := if s.part = 0 then (1000 - s.node).toNat else if s.part = 1 then (256 - s.node).toNat else if s.part = 2 then (456 - s.node).toNat else if s.part = 3 then (164 - s.node).toNat else (64 - s.node).toNat
theorem muR_le {s : RdS} (h : ROk s) : muR s ≤ 999 := by
  have := h.n1
  unfold muR
  repeat (split; omega)
  omega
theorem muR_next {s : RdS} {d : DSt} (h : ROk s) (ht : rTok s d = false) : muR (rNext s d) < muR s := by
  have hb := rBit_01 s d
  obtain ⟨mok, hp, n1, n2, d0, d4, wf⟩ := h
  by_cases hf : rFull s d = true
  · have hd : rDone s = false := by unfold rTok at ht; rw [hf] at ht; exact ht
    unfold rNext
    rw [if_pos hf]
    generalize 2 * s.node + rBit s d - 2 ^ szP s.part = v at *
    obtain ⟨m, part, node, t⟩ := s
    generalize rLearn _ d = mm at *
    simp only [] at hp n1 n2
    have hd : ¬ (part = 1 ∨ part = 4) := of_decide_eq_false hd
    obtain rfl | rfl | rfl : part = 0 ∨ part = 2 ∨ part = 3 := by omega
    · have n2 : node < 2 := n2
      have e : muR ⟨m, 0, node, t⟩ = (1000 - node).toNat := rfl
      rw [e]
      unfold rWhole
      rw [if_pos rfl]
      by_cases hv : v = 1
      · have e2 : ∀ x y, muR ⟨x, if v = 1 then 2 else 1, 1, y⟩ = 455 := fun x y => by rw [if_pos hv]; rfl
        rw [e2]; omega
      · have e2 : ∀ x y, muR ⟨x, if v = 1 then 2 else 1, 1, y⟩ = 255 := fun x y => by rw [if_neg hv]; rfl
        rw [e2]; omega
    · have n2 : node < 256 := n2
      show (164 - (1 : Int)).toNat < (456 - node).toNat
      omega
    · have n2 : node < 64 := n2
      show (64 - (1 : Int)).toNat < (164 - node).toNat
      omega
  · unfold rNext
    rw [if_neg hf]
    have hf : ¬ (2 : Int) ^ szP s.part ≤ 2 * s.node + rBit s d := fun h => hf (decide_eq_true h)
    generalize rBit s d = bb at *
    obtain ⟨m, part, node, t⟩ := s
    generalize rLearn _ d = mm at *
    simp only [] at hp n1 n2 hf
    obtain rfl | rfl | rfl | rfl | rfl : part = 0 ∨ part = 1 ∨ part = 2 ∨ part = 3 ∨ part = 4 := by omega
    · have hf : ¬ (2 : Int) ≤ 2 * node + bb := hf
      omega
    · have hf : ¬ (256 : Int) ≤ 2 * node + bb := hf
      show (256 - (2 * node + bb)).toNat < (256 - node).toNat
      omega
    · have hf : ¬ (256 : Int) ≤ 2 * node + bb := hf
      show (456 - (2 * node + bb)).toNat < (456 - node).toNat
      omega
    · have hf : ¬ (64 : Int) ≤ 2 * node + bb := hf
      show (164 - (2 * node + bb)).toNat < (164 - node).toNat
      omega
    · have hf : ¬ (64 : Int) ≤ 2 * node + bb := hf
      show (64 - (2 * node + bb)).toNat < (64 - node).toNat
      omega

/-- A slice that lies below block b. -/
def LB (A : Option Addr) (b : Nat) : Prop := ∀ b' off, A = some ⟨b', off, none⟩ → b' < b
theorem LB.nb {A : Option Addr} {b : Nat} (h : LB A b) : NB A b := fun b' off e => Nat.ne_of_lt (h b' off e)
theorem LB.of {A A' : Option Addr} {b : Nat} (h : LB A b) (k : SB A A') : LB A' b := fun b' o e => by obtain ⟨o2, e2⟩ := k b' o e; exact h b' o2 e2
def ReadDone (w : World) (r : Option (List Tok)) (e : Ending) (w' : World) : Prop :=
  ∃ v, e = .returned (.tuple #[v, .bool r.isSome]) ∧ OwnT w' w.heap.size v (r.getD []) ∧ (∀ t ∈ r.getD [], TokWf t) ∧ Keeps None w w'
end Go.Proofs.Ytnanbnaikmaljaa
