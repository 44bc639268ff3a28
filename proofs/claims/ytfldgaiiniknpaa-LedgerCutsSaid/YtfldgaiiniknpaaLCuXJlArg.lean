
/- Rows of records, and of bytes, as a law's arguments. -/
import Derived.Test.YtfldgaiiniknpaaLCuXJl2
import Derived.Test.YtfldgaiiniknpaaLCuXActs
namespace Go.Proofs.Ytfldgaiiniknpaa
open Go.RowKit Go.ChangeShapes Go.WideShapes Go.ChangeAt Go.Deep

instance rvInh : Inhabited RV := ⟨⟨0, 0, none, 0, []⟩⟩
/-- A row of bytes' slices. -/
structure Bss (w : World) (A : Option Addr) (n cap : Nat) (rs : List RV) : Prop where
  len : rs.length = n
  le : n ≤ cap
  max : cap ≤ 9223372036854775807
  bs : ∀ r ∈ rs, Bs w r.A r.b.length r.c r.b
  at_ : 0 < n → ∃ b off, A = some ⟨b, off, none⟩ ∧ b < w.heap.size ∧ ∀ k r, rs[k]? = some r → w.cell? ⟨b, off + k, none⟩ = some r.v
section
variable {H : Type} {enc : TypeId × Value → H} {w : World} {base : Nat} {spare : Nat → Bool} {held : Bool}
theorem open_bss {A : Option Addr} {n cap : Nat} {d : DataW H} {p : List MemPlace} (h : DataW.Trod enc Try.prog w base spare held 95 (.slice A n cap) d p) : ∃ rs : List RV, Bss w A n cap rs := by
  obtain ⟨fuel, hf⟩ := h
  rcases open_slice1 Try.underlying95 (by kernel_rfl) hf with ⟨hcs, _⟩ | ⟨x, l, c, m, f, V, D, Pl, hcs, _, hl, hm, hz, _, hcell⟩
  · simp [Value.cells] at hcs
    obtain ⟨rfl, rfl, rfl⟩ := hcs
    exact ⟨[], ⟨rfl, Nat.le_refl _, by omega, by simp, fun h => by omega⟩⟩
  · simp [Value.cells] at hcs
    obtain ⟨rfl, rfl, rfl⟩ := hcs
    have hn : n ≤ m := by rw [hz]; split <;> omega
    have hb : ∀ i, i < n → ∃ r : RV, V i = r.v ∧ Bs w r.A r.b.length r.c r.b := fun i hi => by
      have hc := (hcell i (by omega)).2
      obtain ⟨A1, l1, c1, e1⟩ : ∃ A l c, V i = .slice A l c := by
        rcases open_slice Try.underlying27 hc with ⟨h0, _⟩ | ⟨x, l, c, m, fu, D, Pl, h0, _⟩
        · exact ⟨_, _, _, by simpa using h0⟩
        · exact ⟨_, _, _, by simpa using h0⟩
      rw [e1] at hc
      obtain ⟨zs, hz⟩ := open_bs ⟨f, hc⟩
      have hl1 := hz.len
      subst hl1
      exact ⟨⟨0, 0, A1, c1, zs⟩, e1, hz⟩
    obtain ⟨F, hF⟩ := choose_lt hb
    refine ⟨(List.range n).map F, by simp, hl, by unfold maxLen at hm; omega, fun r hr => ?_, fun h0 => ?_⟩
    · obtain ⟨i, hi, rfl⟩ := List.mem_map.1 hr
      exact (hF i (List.mem_range.1 hi)).2
    · obtain ⟨b, off, spot⟩ := x
      have hc0 := (hcell 0 (by omega)).1
      have hspot : spot = none := by simpa [Addr.add] using World.cell?_spot hc0
      subst hspot
      refine ⟨b, off, rfl, ?_, fun i r hr => ?_⟩
      · have := World.block_lt_of_cell? _ _ hc0
        simpa [Addr.add] using this
      · have hi : i < n := by
          rcases Nat.lt_or_ge i n with h | h
          · exact h
          · rw [List.getElem?_eq_none (by simpa using h)] at hr; cases hr
        have er : F i = r := by simpa [hi] using hr
        have := (hcell i (by omega)).1
        rw [add_none] at this
        rw [this, (hF i hi).1, er]
theorem open_recs {A : Option Addr} {n cap : Nat} {d : DataW H} {p : List MemPlace} (h : DataW.Trod enc Try.prog w base spare held 41 (.slice A n cap) d p) : ∃ rs : List RV, Rws w A n cap rs ∧ Bds w (fun _ => True) rs := by
  obtain ⟨xs, ⟨h1, h2, h3, h4⟩, hf⟩ := open_structs' Try.underlying41 Try.underlying58 (by kernel_rfl) (by kernel_rfl) (by decide) h
  have hnil : A = none → n = 0 ∧ cap = 0 := by
    intro e
    obtain ⟨fuel, hf⟩ := h
    rcases open_slice Try.underlying41 hf with ⟨hcs, _⟩ | ⟨x, l, c, m, fu, D, Pl, hcs, _⟩
    · simp [Value.cells] at hcs
      exact ⟨hcs.2.1, hcs.2.2⟩
    · simp [Value.cells] at hcs
      rw [e] at hcs
      exact absurd hcs.1 (by simp)
  have each : ∀ i, i < n → ∃ r : RV, Bs w r.A r.b.length r.c r.b ∧ xs[i * 3]? = some (.int .i64 r.k) ∧ xs[i * 3 + 1]? = some (.int .i64 r.s) ∧ xs[i * 3 + 2]? = some r.v := by
    intro i hi
    obtain ⟨y0, e0, w0⟩ := fld_int hf (j := 0) rfl Try.underlying3 hi
    obtain ⟨y1, e1, w1⟩ := fld_int hf (j := 1) rfl Try.underlying3 hi
    obtain ⟨A2, l2, c2, zs, e2, b2⟩ := fld_bytes hf (j := 2) rfl rfl hi
    have hl := b2.len
    subst hl
    exact ⟨⟨y0, y1, A2, c2, zs⟩, b2, e0, e1, e2⟩
  let f : Nat → RV := fun i => if hi : i < n then Classical.choose (each i hi) else ⟨0, 0, none, 0, []⟩
  have hF : ∀ i (hi : i < n), Bs w (f i).A (f i).b.length (f i).c (f i).b ∧ xs[i * 3]? = some (.int .i64 (f i).k) ∧ xs[i * 3 + 1]? = some (.int .i64 (f i).s) ∧ xs[i * 3 + 2]? = some (f i).v := by
    intro i hi
    have e : f i = Classical.choose (each i hi) := dif_pos hi
    rw [e]
    exact Classical.choose_spec (each i hi)
  have hmem : ∀ r ∈ (List.range n).map f, Bs w r.A r.b.length r.c r.b := fun r hr => by
    obtain ⟨i, hi, rfl⟩ := List.mem_map.1 hr
    exact (hF i (List.mem_range.1 hi)).1
  refine ⟨(List.range n).map f, ⟨by simp, h2, h3, hnil, fun hn => ?_⟩, ⟨hmem, fun r hr b hb => ⟨trivial, ?_⟩⟩⟩
  · obtain ⟨b, off, e, hb, hc⟩ := h4 hn
    refine ⟨b, off, e, hb, fun i t ht => ?_⟩
    have hi : i < n := by
      rcases Nat.lt_or_ge i n with h | h
      · exact h
      · rw [List.getElem?_eq_none (by simpa using h)] at ht; cases ht
    have et : f i = t := by simpa [hi] using ht
    obtain ⟨-, q0, q1, q2⟩ := hF i hi
    rw [et] at q0 q1 q2
    have s3 : ∀ j, j < 3 → i * 3 + j < n * 3 := fun j hj => by omega
    refine ⟨?_, ?_, ?_⟩
    · rw [← q0]; exact hc (i * 3) (s3 0 (by decide))
    · rw [← q1, Nat.add_assoc]; exact hc (i * 3 + 1) (s3 1 (by decide))
    · rw [← q2, Nat.add_assoc]; exact hc (i * 3 + 2) (s3 2 (by decide))
  · obtain ⟨off, h0, e⟩ := hb
    exact (hmem r hr).blt h0 e
end
end Go.Proofs.Ytfldgaiiniknpaa
