
/- What the walks are told of an argument, drawn from the form's own reading of it. -/
import Derived.Test.YtgehkioneelgcaaJCua
import Derived.ProofKit
import Derived.Deep.Slices
import Derived.Deep.Fields
import Derived.ChangeSame
import Derived.ChangeOld
import Derived.OpenShut
import Derived.ShutString
namespace Go.Proofs.Ytgehkioneelgcaa
open Go.RowKit Go.ChangeShapes Go.WideShapes Go.Deep

/-- A slice of n elements of s cells each holds the cells xs; nil and empty ones are let in. -/
def IsSl (w : World) (A : Option Addr) (n cap s : Nat) (xs : List Value) : Prop :=
  xs.length = n * s ∧ n ≤ cap ∧ cap ≤ 9223372036854775807 ∧ (0 < n → ∃ b off, A = some ⟨b, off, none⟩ ∧ b < w.heap.size ∧ ∀ i, i < n * s → w.cell? ⟨b, off + i, none⟩ = xs[i]?)

theorem IsSl.keeps {w w' : World} {A : Option Addr} {n cap s : Nat} {xs : List Value} {S : Nat → Prop} (h : IsSl w A n cap s xs) (hk : Keeps S w w') (hS : ∀ b, b < w.heap.size → ¬ S b) : IsSl w' A n cap s xs := by
  obtain ⟨h1, h2, h3, h4⟩ := h
  refine ⟨h1, h2, h3, fun hn => ?_⟩
  obtain ⟨b, off, e, hb, hc⟩ := h4 hn
  exact ⟨b, off, e, Nat.lt_of_lt_of_le hb hk.size, fun i hi => (hk.cell (p := ⟨b, off + i, none⟩) hb (hS b hb)).trans (hc i hi)⟩

theorem add_none (b off i : Nat) : (⟨b, off, none⟩ : Addr).add i = ⟨b, off + i, none⟩ := by unfold Addr.add; split <;> simp_all

section
variable {H : Type} {enc : TypeId × Value → H} {P : Program} {w : World} {base : Nat} {spare : Nat → Bool} {held : Bool}

theorem open_ints' {t e : TypeId} {k : IntKind} {A : Option Addr} {n cap : Nat} {d : DataW H} {p : List MemPlace} (ht : P.underlying t = some (.slice e)) (he : P.underlying e = some (.int k)) (hc : P.cellsOf e = 1)
    (h : DataW.Trod enc P w base spare held t (.slice A n cap) d p) : ∃ zs : List Int, zs.length = n ∧ IsSl w A n cap 1 (zs.map (.int k)) ∧ ∀ z ∈ zs, (Lit.int k z).wf = true := by
  obtain ⟨fuel, hf⟩ := h
  rcases open_ints ht he hc hf with ⟨hcs, _⟩ | ⟨x, l, c, zs, hcs, _, hl, hm, hz, _, hcell, hwz⟩
  · simp [Value.cells] at hcs
    obtain ⟨rfl, rfl, rfl⟩ := hcs
    exact ⟨[], rfl, ⟨rfl, Nat.le_refl _, by omega, fun h => by omega⟩, by simp⟩
  · simp [Value.cells] at hcs
    obtain ⟨rfl, rfl, rfl⟩ := hcs
    have hn : n ≤ zs.length := by rw [hz]; split <;> omega
    refine ⟨zs.take n, by simp; omega, ⟨by simp; omega, hl, by unfold maxLen at hm; omega, fun h0 => ?_⟩, fun z hz' => hwz z (List.mem_of_mem_take hz')⟩
    obtain ⟨b, off, spot⟩ := x
    have hc0 := hcell 0 (by omega)
    have hspot : spot = none := by simpa [Addr.add] using World.cell?_spot hc0
    subst hspot
    refine ⟨b, off, rfl, ?_, fun i hi => ?_⟩
    · have := World.block_lt_of_cell? _ _ hc0
      simpa [Addr.add] using this
    · have := hcell i (by omega)
      rw [add_none] at this
      rw [this, List.map_take, List.getElem?_take, if_pos (by omega), map_getD 0 (by omega)]

theorem open_bs {A : Option Addr} {n cap : Nat} {d : DataW H} {p : List MemPlace} (h : DataW.Trod enc Try.prog w base spare held 24 (.slice A n cap) d p) : ∃ zs : List Int, Bs w A n cap zs := by
  obtain ⟨fuel, hf⟩ := h
  rcases open_ints Try.underlying24 Try.underlying5 (by kernel_rfl) hf with ⟨hcs, _⟩ | ⟨x, l, c, zs, hcs, _, hl, hm, hz, _, hcell, hwz⟩
  · simp [Value.cells] at hcs
    obtain ⟨rfl, rfl, rfl⟩ := hcs
    exact ⟨[], ⟨rfl, Nat.le_refl _, by omega, fun _ => ⟨rfl, rfl⟩, by simp, fun h => by omega⟩⟩
  · simp [Value.cells] at hcs
    obtain ⟨rfl, rfl, rfl⟩ := hcs
    have hn : n ≤ zs.length := by rw [hz]; split <;> omega
    refine ⟨zs.take n, by simp; omega, hl, by unfold maxLen at hm; omega, (fun e => by cases e), fun z hz' => ?_, fun h0 => ?_⟩
    · have := hwz z (List.mem_of_mem_take hz')
      simp [Lit.wf, IntKind.min, IntKind.max, IntKind.signed, IntKind.bits] at this
      omega
    · obtain ⟨b, off, spot⟩ := x
      have hc0 := hcell 0 (by omega)
      have hspot : spot = none := by simpa [Addr.add] using World.cell?_spot hc0
      subst hspot
      refine ⟨b, off, rfl, ?_, fun i hi => ?_⟩
      · have := World.block_lt_of_cell? _ _ hc0
        simpa [Addr.add] using this
      · have := hcell i (by omega)
        rw [add_none] at this
        rw [this]
        simp [List.getD, List.getElem?_take, hi]

theorem open_bools' {t e : TypeId} {A : Option Addr} {n cap : Nat} {d : DataW H} {p : List MemPlace} (ht : P.underlying t = some (.slice e)) (he : P.underlying e = some .bool) (hc : P.cellsOf e = 1)
    (h : DataW.Trod enc P w base spare held t (.slice A n cap) d p) : ∃ bs : List Bool, bs.length = n ∧ IsSl w A n cap 1 (bs.map .bool) := by
  obtain ⟨fuel, hf⟩ := h
  rcases open_slice1 ht hc hf with ⟨hcs, _⟩ | ⟨x, l, c, m, _, V, D, Pl, hcs, _, hl, hm, hz, _, hcell⟩
  · simp [Value.cells] at hcs
    obtain ⟨rfl, rfl, rfl⟩ := hcs
    exact ⟨[], rfl, ⟨rfl, Nat.le_refl _, by omega, fun h => by omega⟩⟩
  · simp [Value.cells] at hcs
    obtain ⟨rfl, rfl, rfl⟩ := hcs
    have hn : n ≤ m := by rw [hz]; split <;> omega
    have hb : ∀ i, i < n → ∃ b, V i = .bool b := fun i hi => by
      obtain ⟨b, hb, _⟩ := DataW.trod_bool he (hcell i (by omega)).2
      exact ⟨b, by simpa using hb⟩
    obtain ⟨f, hF⟩ := choose_lt hb
    refine ⟨(List.range n).map f, by simp, ⟨by simp, hl, by unfold maxLen at hm; omega, fun h0 => ?_⟩⟩
    obtain ⟨b, off, spot⟩ := x
    have hc0 := (hcell 0 (by omega)).1
    have hspot : spot = none := by simpa [Addr.add] using World.cell?_spot hc0
    subst hspot
    refine ⟨b, off, rfl, ?_, fun i hi => ?_⟩
    · have := World.block_lt_of_cell? _ _ hc0
      simpa [Addr.add] using this
    · have hi' : i < n := by omega
      have := (hcell i (by omega)).1
      rw [add_none] at this
      rw [this, hF i hi']
      simp [hi']

/-- A slice of structs of s fields of one cell each. -/
theorem open_structs' {t e : TypeId} {fs : Array Field} {A : Option Addr} {n cap : Nat} {d : DataW H} {p : List MemPlace} (ht : P.underlying t = some (.slice e)) (he : P.underlying e = some (.struct fs)) (hone : oneCellFields P fs = true) (hC : P.cellsOf e = fs.size) (hfs : 0 < fs.size)
    (h : DataW.Trod enc P w base spare held t (.slice A n cap) d p) : ∃ xs : List Value, IsSl w A n cap fs.size xs ∧ ∀ i j f, i < n → fs[j]? = some f → ∃ v y m, xs[i * fs.size + j]? = some v ∧ DataW.trod enc P w base spare held m f.type [v] = some y := by
  obtain ⟨fuel, hf⟩ := h
  rcases open_slice ht hf with ⟨hcs, _⟩ | ⟨x, l, c, m, fu, D, Pl, hcs, _, hl, hm, hz, _, hel⟩
  · simp [Value.cells] at hcs
    obtain ⟨rfl, rfl, rfl⟩ := hcs
    exact ⟨[], ⟨by simp, Nat.le_refl _, by omega, fun h => by omega⟩, fun i j f hi => by omega⟩
  · simp [Value.cells] at hcs
    obtain ⟨rfl, rfl, rfl⟩ := hcs
    have hn : n ≤ m := by rw [hz]; split <;> omega
    have each : ∀ i, i < n → ∀ j f, fs[j]? = some f → ∃ v y q, w.cell? (x.add (i * fs.size + j)) = some v ∧ DataW.trod enc P w base spare held q f.type [v] = some y := by
      intro i hi j f hj
      obtain ⟨cs', hc, ht'⟩ := hel i (by omega)
      rw [hC] at hc
      obtain ⟨ys, n', _, _, hlen, hyl, hff⟩ := DataW.trod_struct he ht'
      obtain ⟨_, hcl, hat⟩ := World.cells?_some hc
      obtain ⟨ho, hk⟩ := hone_of hone j f hj
      have hjl : j < fs.size := (Array.getElem?_eq_some_iff.1 hj).1
      have hcell := hat j hjl
      have hv : cs'[j]? = some (cs'[j]'(by omega)) := List.getElem?_eq_getElem (by omega)
      have h1 := hff j f hj
      rw [ho, hk] at h1
      have hone' : (cs'.drop j).take 1 = [cs'[j]'(by omega)] := by
        rw [List.drop_eq_getElem_cons (by omega)]
        rfl
      rw [hone'] at h1
      have hys : ys[j]? = some (ys[j]'(by omega)) := List.getElem?_eq_getElem (by omega)
      exact ⟨_, _, _, by rw [← Go.Deep.add_add, hcell, hv], h1.trans hys⟩
    have cell : ∀ k, k < n * fs.size → ∃ v, w.cell? (x.add k) = some v := by
      intro k hk
      have hi : k / fs.size < n := (Nat.div_lt_iff_lt_mul hfs).2 hk
      have hj : k % fs.size < fs.size := Nat.mod_lt _ hfs
      obtain ⟨v, _, _, hv, _⟩ := each (k / fs.size) hi (k % fs.size) fs[k % fs.size] (by simp [hj])
      rw [Nat.div_add_mod'] at hv
      exact ⟨v, hv⟩
    obtain ⟨V, hV⟩ := choose_lt cell
    refine ⟨(List.range (n * fs.size)).map V, ⟨by simp, hl, by unfold maxLen at hm; omega, fun h0 => ?_⟩, ?_⟩
    · obtain ⟨b, off, spot⟩ := x
      have h00 : 0 < n * fs.size := Nat.mul_pos h0 hfs
      have hc0 := hV 0 h00
      have hspot : spot = none := by simpa [Addr.add] using World.cell?_spot hc0
      subst hspot
      refine ⟨b, off, rfl, ?_, fun i hi => ?_⟩
      · have := World.block_lt_of_cell? _ _ hc0
        simpa [Addr.add] using this
      · have := hV i hi
        rw [add_none] at this
        rw [this]
        simp [hi]
    · intro i j f hi hj
      have hjl : j < fs.size := (Array.getElem?_eq_some_iff.1 hj).1
      obtain ⟨v, y, q, h1, h2⟩ := each i hi j f hj
      have hk : i * fs.size + j < n * fs.size := by
        have : (i + 1) * fs.size ≤ n * fs.size := Nat.mul_le_mul_right _ hi
        rw [Nat.add_mul] at this; omega
      have h3 := hV _ hk
      rw [h1] at h3
      exact ⟨v, y, q, by simp [hk]; exact (Option.some.inj h3).symm, h2⟩
end

section
variable {H : Type} {enc : TypeId × Value → H} {w : World} {base : Nat} {spare : Nat → Bool} {held : Bool} {n : Nat} {fs : Array Field} {xs : List Value}
theorem fld_int (h : ∀ i j f, i < n → fs[j]? = some f → ∃ v y m, xs[i * fs.size + j]? = some v ∧ DataW.trod enc Try.prog w base spare held m f.type [v] = some y)
    {j : Nat} {f : Field} {k : IntKind} (hj : fs[j]? = some f) (ht : Try.prog.underlying f.type = some (.int k)) {i : Nat} (hi : i < n) : ∃ z, xs[i * fs.size + j]? = some (.int k z) ∧ (Lit.int k z).wf = true := by
  obtain ⟨v, y, m, h1, h2⟩ := h i j f hi hj
  obtain ⟨z, hz, _, hw⟩ := DataW.trod_int ht h2
  exact ⟨z, by rw [h1]; simpa using hz, hw⟩
theorem fld_bool (h : ∀ i j f, i < n → fs[j]? = some f → ∃ v y m, xs[i * fs.size + j]? = some v ∧ DataW.trod enc Try.prog w base spare held m f.type [v] = some y)
    {j : Nat} {f : Field} (hj : fs[j]? = some f) (ht : Try.prog.underlying f.type = some .bool) {i : Nat} (hi : i < n) : ∃ b, xs[i * fs.size + j]? = some (.bool b) := by
  obtain ⟨v, y, m, h1, h2⟩ := h i j f hi hj
  obtain ⟨b, hb, _⟩ := DataW.trod_bool ht h2
  exact ⟨b, by rw [h1]; simpa using hb⟩
end
theorem wf_i64_bd {z : Int} (h : (Lit.int .i64 z).wf = true) : -9223372036854775808 ≤ z ∧ z ≤ 9223372036854775807 := by
  simp [Lit.wf, IntKind.min, IntKind.max, IntKind.signed, IntKind.bits] at h; omega
theorem wf_u8_bd {z : Int} (h : (Lit.int .u8 z).wf = true) : 0 ≤ z ∧ z ≤ 255 := by
  simp [Lit.wf, IntKind.min, IntKind.max, IntKind.signed, IntKind.bits] at h; omega
theorem wf_u64_bd {z : Int} (h : (Lit.int .u64 z).wf = true) : 0 ≤ z ∧ z ≤ 18446744073709551615 := by
  simp [Lit.wf, IntKind.min, IntKind.max, IntKind.signed, IntKind.bits] at h; omega

theorem Try.own : ownKnob Try.prog.godebug = none := by kernel_rfl
theorem Try.laidOut : laidOutB Try.prog = true := by kernel_rfl
end Go.Proofs.Ytgehkioneelgcaa
