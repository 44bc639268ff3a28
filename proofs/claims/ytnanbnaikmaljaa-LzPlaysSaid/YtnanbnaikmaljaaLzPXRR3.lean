
/- The reference's reader: the walk of token. -/
import Derived.Test.YtnanbnaikmaljaaLzPXRR2
namespace Go.Proofs.Ytnanbnaikmaljaa
open Go.RowKit

theorem trF_bd (j : Nat) : ∀ (i : Nat) (s : RS) (node : Int), 1 ≤ node → node * 2 ^ i ≤ (trF j i s node).2 ∧ (trF j i s node).2 < (node + 1) * 2 ^ i
  | 0, s, node, _ => ⟨by show node * 1 ≤ node; omega, by show node < (node + 1) * 1; omega⟩
  | i + 1, s, node, h => by
    have b := dBitB_01 s.d (trPR s j node)
    have q := trF_bd j i (trS j s node) (2 * node + dBitB s.d (trPR s j node)) (by omega)
    have e : trF j (i + 1) s node = trF j i (trS j s node) (2 * node + dBitB s.d (trPR s j node)) := rfl
    rw [e, Int.pow_succ]
    obtain ⟨q1, q2⟩ := q
    have hp : (0 : Int) < 2 ^ i := Int.pow_pos (by decide)
    generalize (2 : Int) ^ i = P at *
    rcases b with hb | hb
    · rw [hb] at q1 q2 ⊢
      have e1 : (2 * node + 0) * P = node * (P * 2) := by rw [Int.add_zero, Int.mul_comm P 2, ← Int.mul_assoc, Int.mul_comm node 2]
      have e2 : (2 * node + 0 + 1) * P = node * (P * 2) + P := by rw [Int.add_mul, e1, Int.one_mul]
      have e3 : (node + 1) * (P * 2) = node * (P * 2) + P * 2 := by rw [Int.add_mul, Int.one_mul]
      rw [e1] at q1
      rw [e2] at q2
      rw [e3]
      exact ⟨q1, by omega⟩
    · rw [hb] at q1 q2 ⊢
      have e1 : (2 * node + 1) * P = node * (P * 2) + P := by rw [Int.add_mul, Int.one_mul, Int.mul_comm P 2, ← Int.mul_assoc, Int.mul_comm node 2]
      have e2 : (2 * node + 1 + 1) * P = node * (P * 2) + P * 2 := by rw [Int.add_mul, e1, Int.one_mul]; omega
      have e3 : (node + 1) * (P * 2) = node * (P * 2) + P * 2 := by rw [Int.add_mul, Int.one_mul]
      rw [e1] at q1
      rw [e2] at q2
      rw [e3]
      exact ⟨by omega, q2⟩
def hfF : Nat → RS → Int → RS × Int
  | 0, s, dist => (s, dist)
  | i + 1, s, dist => hfF i (moreF { s with d := dHalfS s.d }) (2 * dist + dHalfB s.d)
theorem ROkR.half {s : RS} (h : ROkR s) : ROkR { s with d := dHalfS s.d } := ⟨h.dok.half, h.zb, h.l1, h.l2, h.l3, h.was⟩
theorem hfF_ok : ∀ (i : Nat) (s : RS) (dist : Int), ROkR s → ROkR (hfF i s dist).1
  | 0, _, _, h => h
  | i + 1, _, _, h => hfF_ok i _ _ h.half.more
theorem hfF_bd : ∀ (i : Nat) (s : RS) (dist : Int), 0 ≤ dist → 0 ≤ (hfF i s dist).2 ∧ (hfF i s dist).2 < (dist + 1) * 2 ^ i
  | 0, s, dist, h => ⟨h, by show dist < (dist + 1) * 1; omega⟩
  | i + 1, s, dist, h => by
    have b := dHalfB_01 s.d
    obtain ⟨q1, q2⟩ := hfF_bd i (moreF { s with d := dHalfS s.d }) (2 * dist + dHalfB s.d) (by omega)
    refine ⟨q1, Int.lt_of_lt_of_le q2 ?_⟩
    rw [Int.pow_succ]
    have hp : (0 : Int) < 2 ^ i := Int.pow_pos (by decide)
    have := Int.mul_le_mul_of_nonneg_right (show 2 * dist + dHalfB s.d + 1 ≤ (dist + 1) * 2 by omega) (Int.le_of_lt hp)
    rw [Int.mul_comm (2 ^ i) 2, ← Int.mul_assoc]
    exact this
def kdP (s : RS) : Int := if s.was = 0 then s.p0 else s.p1
def kdS (s : RS) : RS := moreF (if s.was = 0 then { s with d := dBitS s.d (kdP s), p0 := dBitP s.d (kdP s), was := dBitB s.d (kdP s) } else { s with d := dBitS s.d (kdP s), p1 := dBitP s.d (kdP s), was := dBitB s.d (kdP s) })
theorem ROkR.kd {s : RS} (h : ROkR s) : ROkR (kdS s) := by
  have b := dBitB_01 s.d (kdP s)
  refine ROkR.more ?_
  split
  · exact ⟨h.dok.bit _, h.zb, h.l1, h.l2, h.l3, b⟩
  · exact ⟨h.dok.bit _, h.zb, h.l1, h.l2, h.l3, b⟩
/-- The next token. -/
def tokR (s : RS) : Tok × RS :=
  if dBitB s.d (kdP s) = 0 then (⟨0, 0, (trF 1 8 (kdS s) 1).2 - 256⟩, (trF 1 8 (kdS s) 1).1)
  else (⟨(trF 2 8 (kdS s) 1).2 - 256 + 2, (hfF 6 (trF 3 6 (trF 2 8 (kdS s) 1).1 1).1 ((trF 3 6 (trF 2 8 (kdS s) 1).1 1).2 - 64)).2 + 1, 0⟩, (hfF 6 (trF 3 6 (trF 2 8 (kdS s) 1).1 1).1 ((trF 3 6 (trF 2 8 (kdS s) 1).1 1).2 - 64)).1)
theorem ROkR.tok {s : RS} (h : ROkR s) : ROkR (tokR s).2 := by
  unfold tokR
  split
  · exact trF_ok _ _ _ _ h.kd
  · exact hfF_ok _ _ _ (trF_ok _ _ _ _ (trF_ok _ _ _ _ h.kd))
theorem tokR_bd (s : RS) : ((tokR s).1.n = 0 ∧ (tokR s).1.d = 0 ∧ 0 ≤ (tokR s).1.b ∧ (tokR s).1.b ≤ 255) ∨ (2 ≤ (tokR s).1.n ∧ (tokR s).1.n ≤ 257 ∧ 1 ≤ (tokR s).1.d ∧ (tokR s).1.d ≤ 4096 ∧ (tokR s).1.b = 0) := by
  unfold tokR
  split
  · left
    obtain ⟨a, b⟩ := trF_bd 1 8 (kdS s) 1 (Int.le_refl _)
    refine ⟨rfl, rfl, ?_, ?_⟩
    · show 0 ≤ (trF 1 8 (kdS s) 1).2 - 256; omega
    · show (trF 1 8 (kdS s) 1).2 - 256 ≤ 255; omega
  · right
    obtain ⟨a, b⟩ := trF_bd 2 8 (kdS s) 1 (Int.le_refl _)
    obtain ⟨c, d⟩ := trF_bd 3 6 (trF 2 8 (kdS s) 1).1 1 (Int.le_refl _)
    obtain ⟨e, f⟩ := hfF_bd 6 (trF 3 6 (trF 2 8 (kdS s) 1).1 1).1 ((trF 3 6 (trF 2 8 (kdS s) 1).1 1).2 - 64) (by omega)
    refine ⟨?_, ?_, ?_, ?_, rfl⟩
    · show 2 ≤ (trF 2 8 (kdS s) 1).2 - 256 + 2; omega
    · show (trF 2 8 (kdS s) 1).2 - 256 + 2 ≤ 257; omega
    · show 1 ≤ (hfF 6 (trF 3 6 (trF 2 8 (kdS s) 1).1 1).1 ((trF 3 6 (trF 2 8 (kdS s) 1).1 1).2 - 64)).2 + 1; omega
    · show (hfF 6 (trF 3 6 (trF 2 8 (kdS s) 1).1 1).1 ((trF 3 6 (trF 2 8 (kdS s) 1).1 1).2 - 64)).2 + 1 ≤ 4096; omega
theorem tok_res1 {fn : Func} (hr : fn.results = #[.cell 2 51]) {w : World} {g : Nat} {a b c : Value} {T : TypeId} (tmps : Array Value) (h : Blk w g [a, b, c] T) (h2 : tmps.getD 2 undef = .pointer (some ⟨g, 0, none⟩)) :
    (results fn tmps).run Try.prog w = .ok (.agg #[a, b, c]) w := by
  have hl : (loadVar 51 ⟨g, 0, none⟩).run Try.prog w = .ok (.agg #[a, b, c]) w :=
    run_loadVar_row w g T 51 #[a, b, c] (0, 0) _ h Try.underlying51 rfl (by rw [(zero_of_info infoToken).2]; rfl)
  simp only [results, hr]
  have h2' : tmps[2]?.getD undef = .pointer (some ⟨g, 0, none⟩) := by simpa using h2
  simp [Sem.run_bind, Result.andThen, h2', asAddr, Sem.run_pure, hl]
end Go.Proofs.Ytnanbnaikmaljaa
