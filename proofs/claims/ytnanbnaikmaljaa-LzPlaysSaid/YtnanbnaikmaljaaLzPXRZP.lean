
/- The plain law of the reference's Lz: a bit of it, and the program's. -/
import Derived.Test.YtnanbnaikmaljaaLzPXRZ3
import Derived.Test.YtnanbnaikmaljaaLzPXLz3
import Derived.Test.YtnanbnaikmaljaaLzPXTkBits
namespace Go.Proofs.Ytnanbnaikmaljaa
open Go.RowKit

def RZ.ms (r : RZ) : Ms := ⟨r.p0, r.p1, r.was, r.q1, r.q2, r.q3⟩
structure ZRel (z : LzS) (r : RZ) : Prop where
  d : r.d = z.d
  ms : MAgree z.s.m r.ms
  out : r.out = z.h
  total : r.total = z.plain
  st : r.st = z.st
  todo : r.todo = z.left
  part : r.part = z.s.part
  node : z.s.part ≠ 4 → r.node = z.s.node
  node4 : z.s.part = 4 → r.node = 1
  t1 : z.s.part = 1 ∨ z.s.part = 2 → r.t = ⟨0, 0, 0⟩ ∧ z.s.t = ⟨0, 0, 0⟩
  t3 : z.s.part = 3 → ∃ n : Int, 2 ≤ n ∧ n ≤ 257 ∧ r.t = ⟨n, 0, 0⟩ ∧ z.s.t = ⟨n, 0, 0⟩
  t4 : z.s.part = 4 → ∃ (i u x : Nat) (n : Int), 1 ≤ i ∧ i ≤ 6 ∧ u < 64 ∧ x < 2 ^ (6 - i) ∧ 2 ≤ n ∧ n ≤ 257 ∧ z.s.node = ((2 ^ (6 - i) + x : Nat) : Int) ∧ z.s.t = ⟨n, ((64 * u : Nat) : Int), 0⟩ ∧ r.half = (i : Int) ∧ r.t = ⟨n, ((u * 2 ^ (6 - i) + x : Nat) : Int), 0⟩
  cur : 0 < z.left → z.s.part = 0 ∧ r.t = z.t
theorem ZRel.ok {z : LzS} {r : RZ} (h : ZRel z r) (k : LzOk z) : RZOk r := by
  have ro := k.rok
  have n1 := ro.n1
  have n2 := ro.n2
  have l1 : r.q1.length = 256 := by have := h.ms.bt.1; have e := ro.mok.o1.1; rw [e] at this; exact this.symm
  have l2 : r.q2.length = 256 := by have := h.ms.lt.1; have e := ro.mok.o2.1; rw [e] at this; exact this.symm
  have l3 : r.q3.length = 64 := by have := h.ms.dt.1; have e := ro.mok.o3.1; rw [e] at this; exact this.symm
  refine ⟨by rw [h.d]; exact k.dok, l1, l2, l3, ?_, by rw [h.part]; exact ro.part, ?_, ?_, ?_, ?_, ?_, ?_, ?_⟩
  · have e : r.was = z.s.m.beh := h.ms.beh
    rw [e]; exact ro.mok.be
  · by_cases h4 : z.s.part = 4
    · rw [h.node4 h4]; exact Int.le_refl _
    · rw [h.node h4]; exact n1
  · intro hp
    rw [h.part] at hp
    rw [h.node (by omega)]
    rcases hp with e | e <;> (rw [e] at n2; exact n2)
  · intro hp
    rw [h.part] at hp
    rw [h.node (by omega)]
    rw [hp] at n2; exact n2
  · intro hp
    rw [h.part] at hp
    rcases hp with e | e
    · rw [h.node (by omega)]
      rw [e] at n2
      have n2 : z.s.node < 2 := n2
      omega
    · exact h.node4 e
  · intro hp
    rw [h.part] at hp
    obtain ⟨i, u, x, n, h1, h6, hu, hx, hn, hn2, -, -, e1, e2⟩ := h.t4 hp
    rw [e1, e2]
    have hi : 6 - i ≤ 5 := by omega
    have hpw : 2 ^ (6 - i) ≤ 2 ^ 5 := Nat.pow_le_pow_right (by decide) hi
    have hm : u * 2 ^ (6 - i) ≤ 63 * 32 := Nat.mul_le_mul (by omega) hpw
    refine ⟨by omega, by omega, ?_, ?_, ?_, ?_⟩
    · show (0 : Int) ≤ ((u * 2 ^ (6 - i) + x : Nat) : Int); omega
    · show ((u * 2 ^ (6 - i) + x : Nat) : Int) < 4096
      have : (2 : Nat) ^ 5 = 32 := rfl
      omega
    · show (0 : Int) ≤ n; omega
    · exact hn2
  · have := k.hp
    have := k.p8
    rw [h.out]; omega
  · rw [h.total]; exact k.p8
theorem rStep_0 {s : RdS} {b : Int} (hb : b = 0 ∨ b = 1) (hp : s.part = 0) (hn : s.node = 1) : rStep s b = ⟨s.m.kind b, 1 + b.toNat, 1, ⟨0, 0, 0⟩⟩ ∧ rTokB s b = false := by
  have hf : rFullB s b = true := by unfold rFullB; rw [hp, hn]; exact decide_eq_true (by show (2 : Int) ^ 1 ≤ _; omega)
  have hv : 2 * s.node + b - 2 ^ szP s.part = b := by rw [hp, hn]; show 2 * 1 + b - 2 ^ 1 = b; omega
  constructor
  · unfold rStep
    rw [if_pos hf, hv]
    unfold rWhole
    rw [if_pos (show ({ s with m := rLrn s b, node := 1 } : RdS).part = 0 from hp)]
    have hl : rLrn s b = s.m.setp (adapt s.m.pr b) := by
      unfold rLrn; rw [if_pos hp]; unfold rP; rw [if_pos hp]
    rw [hl]
    have e1 : ({ s.m.setp (adapt s.m.pr b) with beh := b } : Ms) = s.m.kind b := by
      unfold Ms.setp Ms.kind Ms.pr
      by_cases h0 : s.m.beh = 0
      · rw [if_pos h0, if_pos h0, if_pos h0]
      · rw [if_neg h0, if_neg h0, if_neg h0]
    have e2 : (if b = 1 then 2 else 1) = 1 + b.toNat := by rcases hb with rfl | rfl <;> rfl
    show (⟨{ s.m.setp (adapt s.m.pr b) with beh := b }, if b = 1 then 2 else 1, 1, ⟨0, 0, 0⟩⟩ : RdS) = _
    rw [e1, e2]
  · unfold rTokB rDone
    rw [hp]; simp
end Go.Proofs.Ytnanbnaikmaljaa
