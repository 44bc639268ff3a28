/- A law's argument that is a row of tokens, read as Ts. -/
import Derived.Test.YtggjdkkobhefeaaTkPlain
namespace Go.Proofs.Ytggjdkkobhefeaa
open Go.RowKit Go.ChangeShapes Go.WideShapes Go.ChangeAt Go.Deep

variable {H : Type} {enc : TypeId × Value → H} {w : World} {base : Nat} {spare : Nat → Bool} {held : Bool}
theorem open_toks {A : Option Addr} {n cap : Nat} {d : DataW H} {p : List MemPlace} (h : DataW.Trod enc Try.prog w base spare held 49 (.slice A n cap) d p) : ∃ ts : List Tok, Ts w A n cap ts := by
  obtain ⟨xs, ⟨h1, h2, h3, h4⟩, hf⟩ := open_structs' Try.underlying49 Try.underlying43 (by kernel_rfl) (by kernel_rfl) (by decide) h
  have hnil : A = none → n = 0 ∧ cap = 0 := by
    intro e
    obtain ⟨fuel, hf⟩ := h
    rcases open_slice Try.underlying49 hf with ⟨hcs, _⟩ | ⟨x, l, c, m, fu, D, Pl, hcs, _⟩
    · simp [Value.cells] at hcs
      exact ⟨hcs.2.1, hcs.2.2⟩
    · simp [Value.cells] at hcs
      rw [e] at hcs
      exact absurd hcs.1 (by simp)
  have each : ∀ i, i < n → ∃ t : Tok, TokWf t ∧ xs[i * 3]? = some (.int .i64 t.n) ∧ xs[i * 3 + 1]? = some (.int .i64 t.d) ∧ xs[i * 3 + 2]? = some (.int .u8 t.b) := by
    intro i hi
    obtain ⟨y0, e0, w0⟩ := fld_int hf (j := 0) rfl Try.underlying3 hi
    obtain ⟨y1, e1, w1⟩ := fld_int hf (j := 1) rfl Try.underlying3 hi
    obtain ⟨y2, e2, w2⟩ := fld_int hf (j := 2) rfl Try.underlying5 hi
    have b0 := wf_i64_bd w0
    have b1 := wf_i64_bd w1
    have b2 := wf_u8_bd w2
    exact ⟨⟨y0, y1, y2⟩, ⟨b0.1, b0.2, b1.1, b1.2, b2.1, b2.2⟩, e0, e1, e2⟩
  let f : Nat → Tok := fun i => if hi : i < n then Classical.choose (each i hi) else ⟨0, 0, 0⟩
  have hF : ∀ i (hi : i < n), TokWf (f i) ∧ xs[i * 3]? = some (.int .i64 (f i).n) ∧ xs[i * 3 + 1]? = some (.int .i64 (f i).d) ∧ xs[i * 3 + 2]? = some (.int .u8 (f i).b) := by
    intro i hi
    have e : f i = Classical.choose (each i hi) := dif_pos hi
    rw [e]
    exact Classical.choose_spec (each i hi)
  refine ⟨(List.range n).map f, by simp, h2, h3, hnil, ?_, fun hn => ?_⟩
  · intro t ht
    obtain ⟨i, hi, rfl⟩ := List.mem_map.1 ht
    exact (hF i (List.mem_range.1 hi)).1
  · obtain ⟨b, off, e, hb, hc⟩ := h4 hn
    refine ⟨b, off, e, hb, fun i t ht => ?_⟩
    have hi : i < n := by
      rcases Nat.lt_or_ge i n with h | h
      · exact h
      · rw [List.getElem?_eq_none (by simpa using h)] at ht; cases ht
    have et : f i = t := by simpa [hi] using ht
    obtain ⟨-, q0, q1, q2⟩ := hF i hi
    rw [et] at q0 q1 q2
    have s3 : ∀ j, j < 3 → i * 3 + j < n * 3 := fun j hj => by omega
    refine ⟨?_, ?_, ?_⟩
    · rw [← q0]; exact hc (i * 3) (s3 0 (by decide))
    · rw [← q1, Nat.add_assoc]; exact hc (i * 3 + 1) (s3 1 (by decide))
    · rw [← q2, Nat.add_assoc]; exact hc (i * 3 + 2) (s3 2 (by decide))
end Go.Proofs.Ytggjdkkobhefeaa
