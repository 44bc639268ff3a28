
/- How long the bodies of records that are handed in may be: the form's own reach. -/
import Derived.Test.YtfldgaiiniknpaaLCuXJlArg
import Derived.SizedLaws
namespace Go.Proofs.Ytfldgaiiniknpaa
open Go.RowKit Go.ChangeShapes Go.WideShapes Go.ChangeAt Go.Deep

theorem weights_mem_all {H : Type} {P : Program} {e : TypeId} : ∀ {l : List (DataW H)} {d : DataW H}, d ∈ l → ∀ n ∈ d.weights P e, n ∈ DataW.weightsAll P e l
  | x :: l, d, hd, n, hn => by
    simp only [DataW.weightsAll, List.mem_append]
    rcases List.mem_cons.1 hd with rfl | hd
    · exact .inl hn
    · exact .inr (weights_mem_all hd n hn)
section
variable {H : Type} {enc : TypeId × Value → H} {w : World} {base : Nat} {spare : Nat → Bool} {held : Bool}
theorem bytes_sized {fuel : Nat} {A : Option Addr} {l c : Nat} {x : DataW H × List MemPlace} (h : DataW.trod enc Try.prog w base spare held fuel 27 [.slice A l c] = some x) (hw : ∀ k ∈ x.1.weights Try.prog 27, k ≤ reachBytes) : l ≤ reachBytes := by
  rcases open_slice Try.underlying27 h with ⟨h0, _⟩ | ⟨a, len, cap, m, n, D, Pl, h0, _, _, _, _, rfl, _⟩
  · simp at h0
    omega
  · simp at h0
    obtain ⟨rfl, rfl, rfl⟩ := h0
    have h1 := hw _ (by simp only [DataW.weights, Try.underlying27]; exact List.mem_cons_self)
    have h2 : (Try.prog).bytesOf 5 = 1 := by kernel_rfl
    rw [h2] at h1
    simp at h1
    omega
theorem recs_sized {A : Option Addr} {n cap : Nat} {d : DataW H} {p : List MemPlace} (h : DataW.Trod enc Try.prog w base spare held 41 (.slice A n cap) d p) (hw : ∀ k ∈ d.weights Try.prog 41, k ≤ reachBytes) {rs : List RV} (hr : Rws w A n cap rs) : ∀ r ∈ rs, r.b.length ≤ 140737488355328 := by
  intro r hmem
  obtain ⟨i, hi⟩ := List.getElem?_of_mem hmem
  have hin : i < n := by
    rcases Nat.lt_or_ge i n with h | h
    · exact h
    · rw [List.getElem?_eq_none (by rw [hr.len]; exact h)] at hi; cases hi
  obtain ⟨b, off, rfl, hb, hc⟩ := hr.at_ (by omega)
  obtain ⟨-, -, c2⟩ := hc i r hi
  obtain ⟨fuel, hf⟩ := h
  rcases open_slice Try.underlying41 hf with ⟨hcs, _⟩ | ⟨x, l, c, m, fu, D, Pl, hcs, _, hl, hm, hz, hd, hel⟩
  · simp [Value.cells] at hcs
  · simp [Value.cells] at hcs
    obtain ⟨rfl, rfl, rfl⟩ := hcs
    have hn : n ≤ m := by rw [hz]; split <;> omega
    obtain ⟨cs', h1, h2⟩ := hel i (by omega)
    have hC : (Try.prog).cellsOf 58 = 3 := by kernel_rfl
    rw [hC] at h1
    obtain ⟨ys, n', _, hy, hlen, hyl, hff⟩ := DataW.trod_struct Try.underlying58 h2
    obtain ⟨_, hcl, hat⟩ := World.cells?_some h1
    have hcell := hat 2 (by decide)
    rw [Go.Deep.add_add, add_none, ← Nat.add_assoc, c2] at hcell
    have h3 := hff 2 _ rfl
    have hcl3 : 2 < cs'.length := by omega
    have hone : (cs'.drop 2).take 1 = [r.v] := by
      rw [List.drop_eq_getElem_cons hcl3]
      have : cs'[2] = r.v := by
        rw [List.getElem?_eq_getElem hcl3] at hcell
        exact (Option.some.inj hcell).symm
      rw [this]; rfl
    have hC1 : (Try.prog).cellsOf 27 = 1 := by kernel_rfl
    have h3 : DataW.trod enc Try.prog w base spare held n' 27 ((cs'.drop 2).take ((Try.prog).cellsOf 27)) = ys[2]? := h3
    rw [hC1, hone] at h3
    have hyl3 : 2 < ys.length := by rw [hyl]; decide
    rw [List.getElem?_eq_getElem hyl3] at h3
    have key := bytes_sized h3 (fun k hk => by
      refine hw k ?_
      have e1 : d = DataW.slice (List.map D (List.range n)) (List.map (fun j => D (n + j)) (List.range (m - n))) := congrArg Prod.fst hd
      rw [e1]
      simp only [DataW.weights, Try.underlying41]
      refine List.mem_cons_of_mem _ (List.mem_append_left _ (weights_mem_all (d := D i) (List.mem_map_of_mem (List.mem_range.2 hin)) k ?_))
      have e2 : D i = .agg (ys.map (·.1)) := congrArg Prod.fst hy
      rw [e2]
      simp only [DataW.weights, Try.underlying58]
      exact DataW.weights_mem_each (j := 2) (t := 27) rfl (by rw [List.getElem?_map, List.getElem?_eq_getElem hyl3]; rfl) k hk)
    have : reachBytes ≤ 140737488355328 := by decide
    omega
end
end Go.Proofs.Ytfldgaiiniknpaa
