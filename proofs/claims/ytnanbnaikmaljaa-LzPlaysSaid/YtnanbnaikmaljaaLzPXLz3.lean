
/- lzlite's Feed in plain words: what it does step by step, what stays true, how long it takes. -/
import Derived.Test.YtnanbnaikmaljaaLzPXLz2
import Derived.Test.YtnanbnaikmaljaaLzPXTkUnp
namespace Go.Proofs.Ytnanbnaikmaljaa
open Go.RowKit

def lzF (room : Int) : Nat → LzS → List Int → List Int → LzS × List Int × List Int
  | 0, z, ys, out => (z, ys, out)
  | f + 1, z, ys, out =>
    if z.st = 3 ∨ z.st = 4 then (z, ys, out)
    else if dNeedB z.d = true then
      match ys with
      | [] => ({ z with st := 1 }, [], out)
      | y :: ys => lzF room f { z with d := dByteS z.d y } ys out
    else if dLostB z.d = true then lzF room f { z with st := 4 } ys out
    else if 0 < z.left then
      if room ≤ out.length then ({ z with st := 2 }, ys, out)
      else lzF room f (lzNextS z) ys (out ++ [lzByte z])
    else if z.h.length = z.plain then lzF room f { z with st := lzEndV z } ys out
    else if lzTakeB z = true then lzF room f (lzTakeS z) ys out
    else lzF room f { lzTakeS z with st := 4 } ys out
/-- What stays true. -/
structure LzOk (z : LzS) : Prop where
  p8 : z.plain ≤ 8192
  hp : z.h.length ≤ z.plain
  hb : ∀ y ∈ z.h, 0 ≤ y ∧ y ≤ 255
  dok : DOk z.d
  rok : ROk z.s
  st1 : 1 ≤ z.st
  st4 : z.st ≤ 4
  lf : z.st ≠ 4 → 0 < z.left → z.left ≤ 257 ∧ z.left ≤ (z.plain : Int) - z.h.length ∧ (0 < z.t.n → 1 ≤ z.t.d ∧ z.t.d ≤ 4096 ∧ z.t.d ≤ z.h.length) ∧ 0 ≤ z.t.b ∧ z.t.b ≤ 255
theorem LzOk.start {plain : Nat} (h : plain ≤ 8192) : LzOk (lz0 plain) :=
  ⟨h, Nat.zero_le _, (fun y hy => by cases hy), DOk.new, ROk.start, show (1 : Int) ≤ 1 by decide, show (1 : Int) ≤ 4 by decide, fun _ h => absurd (show (0 : Int) < 0 from h) (by decide)⟩
theorem LzOk.set {z : LzS} (h : LzOk z) (x : Int) (h1 : 1 ≤ x) (h4 : x ≤ 4) (hz : z.st ≠ 4) : LzOk { z with st := x } :=
  ⟨h.p8, h.hp, h.hb, h.dok, h.rok, h1, h4, fun _ hl => h.lf hz hl⟩
theorem LzOk.byte {z : LzS} (h : LzOk z) (y : Int) (hy : 0 ≤ y ∧ y ≤ 255) : LzOk { z with d := dByteS z.d y } :=
  ⟨h.p8, h.hp, h.hb, h.dok.byte y hy, h.rok, h.st1, h.st4, h.lf⟩
theorem lzByte_b {z : LzS} (h : LzOk z) (hs : z.st ≠ 4) (hl : 0 < z.left) : 0 ≤ lzByte z ∧ lzByte z ≤ 255 := by
  obtain ⟨-, -, -, q⟩ := h.lf hs hl
  unfold lzByte
  split
  · unfold backV
    split
    · exact byte_getD h.hb _
    · exact ⟨by decide, by decide⟩
  · exact q
theorem LzOk.next {z : LzS} (h : LzOk z) (hs : z.st ≠ 4) (hl : 0 < z.left) : LzOk (lzNextS z) := by
  have hb := lzByte_b h hs hl
  obtain ⟨l1, l2, l3, l4⟩ := h.lf hs hl
  unfold lzNextS
  refine ⟨h.p8, ?_, ?_, h.dok, h.rok, h.st1, h.st4, fun _ hl2 => ⟨?_, ?_, fun hn => ?_, l4⟩⟩
  · show (z.h ++ [lzByte z]).length ≤ z.plain
    rw [List.length_append, List.length_singleton]; omega
  · intro y hy
    rcases List.mem_append.1 hy with hy | hy
    · exact h.hb y hy
    · rw [List.mem_singleton.1 hy]; exact hb
  · show z.left - 1 ≤ 257; omega
  · show z.left - 1 ≤ (z.plain : Int) - ((z.h ++ [lzByte z]).length : Nat)
    rw [List.length_append, List.length_singleton]; omega
  · obtain ⟨q1, q2, q3⟩ := l3 hn
    refine ⟨q1, q2, ?_⟩
    show z.t.d ≤ ((z.h ++ [lzByte z]).length : Nat)
    rw [List.length_append, List.length_singleton]; omega
theorem LzOk.fail {z : LzS} (h : LzOk z) : LzOk { lzTakeS z with st := 4 } := by
  unfold lzTakeS
  split
  · exact ⟨h.p8, h.hp, h.hb, h.dok.rDec _, h.rok.next _, show (1 : Int) ≤ 4 by decide, show (4 : Int) ≤ 4 by decide, fun hs => absurd rfl hs⟩
  · exact ⟨h.p8, h.hp, h.hb, h.dok.rDec _, h.rok.next _, show (1 : Int) ≤ 4 by decide, show (4 : Int) ≤ 4 by decide, fun hs => absurd rfl hs⟩
theorem LzOk.take {z : LzS} (h : LzOk z) (hl : ¬ 0 < z.left) (hb : lzTakeB z = true) : LzOk (lzTakeS z) := by
  unfold lzTakeB at hb
  unfold lzTakeS
  cases ht : rTok z.s z.d with
  | false =>
    rw [if_neg (by decide)]
    exact ⟨h.p8, h.hp, h.hb, h.dok.rDec _, h.rok.next _, h.st1, h.st4, fun _ h0 => absurd (show 0 < z.left from h0) hl⟩
  | true =>
    rw [ht] at hb
    simp only [Bool.not_true, Bool.false_or, Bool.and_eq_true, decide_eq_true_eq] at hb
    obtain ⟨h1, h2⟩ := hb
    have r := h.rok.next z.d
    rw [if_pos rfl]
    refine ⟨h.p8, h.hp, h.hb, h.dok.rDec _, r, h.st1, h.st4, fun _ _ => ⟨(longT_pos h1).2, h2, fun hn => ?_, r.wf.b0, r.wf.b1⟩⟩
    have hn : 0 < (rNext z.s z.d).t.n := hn
    obtain ⟨-, -, -, a, b, c⟩ := mayT_copy h1 (by omega)
    exact ⟨a, b, c⟩
/-- How long it takes. -/
def lzM (z : LzS) (n : Nat) : Nat := if z.st = 3 ∨ z.st = 4 then 0 else n + (z.plain - z.h.length) * 3000 + (if 0 < z.left then 0 else muR z.s + 1) + 2
theorem lzM_byte (z : LzS) (d : DSt) (n : Nat) (hs : ¬ (z.st = 3 ∨ z.st = 4)) : lzM { z with d := d } n < lzM z (n + 1) := by
  unfold lzM
  rw [if_neg hs, if_neg (show ¬ (z.st = 3 ∨ z.st = 4) from hs)]
  show n + (z.plain - z.h.length) * 3000 + (if 0 < z.left then 0 else muR z.s + 1) + 2 < _
  omega
theorem lzM_end (z : LzS) (x : Int) (n m : Nat) (hx : x = 3 ∨ x = 4) (z' : LzS) (hs : ¬ (z.st = 3 ∨ z.st = 4)) : lzM { z' with st := x } m < lzM z n := by
  unfold lzM
  rw [if_neg hs, if_pos (show x = 3 ∨ x = 4 from hx)]
  omega
theorem lzM_next {z : LzS} (n : Nat) (h : LzOk z) (hs : ¬ (z.st = 3 ∨ z.st = 4)) (hl : 0 < z.left) : lzM (lzNextS z) n < lzM z n := by
  obtain ⟨l1, l2, -⟩ := h.lf (fun e => hs (.inr e)) hl
  have hm := muR_le h.rok
  have hp := h.hp
  unfold lzM lzNextS
  rw [if_neg hs, if_neg (show ¬ (z.st = 3 ∨ z.st = 4) from hs), if_pos hl]
  show n + (z.plain - (z.h ++ [lzByte z]).length) * 3000 + (if 0 < z.left - 1 then 0 else muR z.s + 1) + 2 < _
  rw [List.length_append, List.length_singleton]
  split <;> omega
theorem lzM_take {z : LzS} (n : Nat) (h : LzOk z) (hs : ¬ (z.st = 3 ∨ z.st = 4)) (hl : ¬ 0 < z.left) (hb : lzTakeB z = true) : lzM (lzTakeS z) n < lzM z n := by
  unfold lzTakeB at hb
  unfold lzM lzTakeS
  cases ht : rTok z.s z.d with
  | false =>
    have := muR_next h.rok ht
    rw [if_neg hs, if_neg (show ¬ false = true by decide), if_neg (show ¬ (z.st = 3 ∨ z.st = 4) from hs), if_neg hl]
    show n + (z.plain - z.h.length) * 3000 + (muR (rNext z.s z.d) + 1) + 2 < n + (z.plain - z.h.length) * 3000 + (if 0 < z.left then 0 else muR z.s + 1) + 2
    rw [if_neg hl]
    omega
  | true =>
    rw [ht] at hb
    simp only [Bool.not_true, Bool.false_or, Bool.and_eq_true, decide_eq_true_eq] at hb
    have := (longT_pos hb.1).1
    rw [if_neg hs, if_pos rfl, if_neg (show ¬ (z.st = 3 ∨ z.st = 4) from hs), if_neg hl]
    show n + (z.plain - z.h.length) * 3000 + (if 0 < longT (rNext z.s z.d).t then 0 else muR (rNext z.s z.d) + 1) + 2 < _
    rw [if_pos (by omega)]
    omega
end Go.Proofs.Ytnanbnaikmaljaa
