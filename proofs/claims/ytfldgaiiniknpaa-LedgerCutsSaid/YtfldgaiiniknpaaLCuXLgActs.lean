
/- Calls of a ledger as a law's arguments. -/
import Derived.Test.YtfldgaiiniknpaaLCuXLgArg2
namespace Go.Proofs.Ytfldgaiiniknpaa
open Go.RowKit Go.ChangeShapes Go.WideShapes Go.ChangeAt Go.Deep

/-- A call as it came in: its kind, a number, bytes, a commit, a checkpoint. -/
structure AV where
  k : Int
  n : Int
  A : Option Addr
  l : Nat
  cp : Nat
  b : List Int
  c : Com
  kA : Option Addr
  kn : Nat
  kc : Nat
  ck : Chk
def AV.cs (a : AV) : List Value := .int .i64 a.k :: .int .i64 a.n :: .slice a.A a.l a.cp :: (a.c.cs ++ a.ck.cs a.kA a.kn a.kc)
structure AV.ok (w : World) (a : AV) : Prop where
  c : a.c.ok
  k : a.ck.ok
  b : Bs w a.A a.l a.cp a.b
  m : Bs w a.kA a.kn a.kc a.ck.mid
  nn : a.n ≤ 9223372036854775807 ∧ -9223372036854775808 ≤ a.n
theorem AV.cs_len {w : World} {a : AV} (h : a.ok w) : a.cs.length = 84 := by simp [AV.cs, Com.cs_len h.c, Chk.cs_len h.k]
theorem AV.cs_com {w : World} {a : AV} (h : a.ok w) (j : Nat) (v : Value) (hv : a.c.cs[j]? = some v) : a.cs[3 + j]? = some v := by
  have := (List.getElem?_eq_some_iff.1 hv).1
  rw [Nat.add_comm]
  show (a.c.cs ++ a.ck.cs a.kA a.kn a.kc)[j]? = _
  rw [List.getElem?_append_left this, hv]
theorem AV.cs_chk {w : World} {a : AV} (h : a.ok w) (j : Nat) (v : Value) (hv : (a.ck.cs a.kA a.kn a.kc)[j]? = some v) : a.cs[71 + j]? = some v := by
  rw [show 71 + j = (68 + j) + 3 by omega]
  show (a.c.cs ++ a.ck.cs a.kA a.kn a.kc)[68 + j]? = _
  rw [List.getElem?_append_right (by rw [Com.cs_len h.c]; omega), Com.cs_len h.c, Nat.add_sub_cancel_left, hv]
theorem AV.ok.keeps {w w' : World} {a : AV} (h : a.ok w) (k : Keeps None w w') : a.ok w' := ⟨h.c, h.k, h.b.keeps k (fun _ _ _ _ _ h => h), h.m.keeps k (fun _ _ _ _ _ h => h), h.nn⟩
/-- A row of calls. -/
structure ActsV (w : World) (A : Option Addr) (n cap : Nat) (ls : List AV) : Prop where
  len : ls.length = n
  le : n ≤ cap
  max : cap ≤ 9223372036854775807
  ok : ∀ a ∈ ls, a.ok w
  at_ : 0 < n → ∃ b off, A = some ⟨b, off, none⟩ ∧ b < w.heap.size ∧ ∀ i a, ls[i]? = some a → ∀ j v, a.cs[j]? = some v → w.cell? ⟨b, off + i * 84 + j, none⟩ = some v
section
variable {H : Type} {enc : TypeId × Value → H} {w : World} {base : Nat} {spare : Nat → Bool} {held : Bool}
theorem open_act_cells {fuel : Nat} {cs : List Value} {x : DataW H × List MemPlace} (h : DataW.trod enc Try.prog w base spare held fuel 49 cs = some x) : ∃ a : AV, cs = a.cs ∧ a.ok w := by
  obtain ⟨ys, m, _, _, hl, hy, hf⟩ := DataW.trod_struct Try.underlying49 h
  have hC : (Try.prog).cellsOf 49 = 84 := by kernel_rfl
  rw [hC] at hl
  have i1 : (Try.prog).cellsOf 3 = 1 := by kernel_rfl
  have i2 : (Try.prog).cellsOf 27 = 1 := by kernel_rfl
  have i3 : (Try.prog).cellsOf 25 = 68 := by kernel_rfl
  have i4 : (Try.prog).cellsOf 29 = 13 := by kernel_rfl
  have f0 : DataW.trod enc Try.prog w base spare held m 3 ((cs.drop 0).take ((Try.prog).cellsOf 3)) = ys[0]? := hf 0 _ rfl
  have f1 : DataW.trod enc Try.prog w base spare held m 3 ((cs.drop 1).take ((Try.prog).cellsOf 3)) = ys[1]? := hf 1 _ rfl
  have f2 : DataW.trod enc Try.prog w base spare held m 27 ((cs.drop 2).take ((Try.prog).cellsOf 27)) = ys[2]? := hf 2 _ rfl
  have f3 : DataW.trod enc Try.prog w base spare held m 25 ((cs.drop 3).take ((Try.prog).cellsOf 25)) = ys[3]? := hf 3 _ rfl
  have f4 : DataW.trod enc Try.prog w base spare held m 29 ((cs.drop 71).take ((Try.prog).cellsOf 29)) = ys[4]? := hf 4 _ rfl
  match ys, hy with
  | [y0, y1, y2, y3, y4], _ =>
    obtain ⟨a0, e0, _, _⟩ := DataW.trod_int Try.underlying3 f0
    obtain ⟨a1, e1, _, u1⟩ := DataW.trod_int Try.underlying3 f1
    obtain ⟨A, n, cap, e2⟩ : ∃ A n cap, (cs.drop 2).take ((Try.prog).cellsOf 27) = [.slice A n cap] := by
      rcases open_slice Try.underlying27 f2 with ⟨h0, _⟩ | ⟨x, l, c, m, fu, D, Pl, h0, _⟩
      · exact ⟨_, _, _, h0⟩
      · exact ⟨_, _, _, h0⟩
    rw [e2] at f2
    obtain ⟨bs, hbs⟩ := open_bs (A := A) (n := n) (cap := cap) (d := y2.1) (p := y2.2) ⟨m, f2⟩
    obtain ⟨c, oc, e3⟩ := open_com_cells f3
    obtain ⟨k, kA, kn, kc, ok, e4, hm⟩ := open_chk_cells f4
    rw [i3] at e3
    rw [i4] at e4
    have e5 : (cs.drop 71).take 13 = cs.drop 71 := List.take_of_length_le (by rw [List.length_drop]; omega)
    rw [e5] at e4
    have g0 : cs[0]? = some (.int .i64 a0) := at_of_take (by rw [i1] at e0; exact e0)
    have g1 : cs[1]? = some (.int .i64 a1) := at_of_take (by rw [i1] at e1; exact e1)
    have g2 : cs[2]? = some (.slice A n cap) := at_of_take (by rw [i2] at e2; exact e2)
    refine ⟨⟨a0, a1, A, n, cap, bs, c, kA, kn, kc, k⟩, ?_, oc, ok, hbs, hm, ⟨(wf_i64_bd u1).2, (wf_i64_bd u1).1⟩⟩
    apply List.ext_getElem?
    intro i
    unfold AV.cs
    dsimp only
    match i with
    | 0 => exact g0
    | 1 => exact g1
    | 2 => exact g2
    | i + 3 =>
      show cs[i + 3]? = (c.cs ++ k.cs kA kn kc)[i]?
      rw [← e4, ← e3, show cs.drop 71 = (cs.drop 3).drop 68 by rw [List.drop_drop], List.take_append_drop, List.getElem?_drop, Nat.add_comm]
set_option maxRecDepth 100000 in
theorem open_act {v : Value} {d : DataW H} {p : List MemPlace} {base' : Nat} (hok : Value.okWide Try.prog w .any base' 49 v) (h : DataW.Trod enc Try.prog w base spare held 49 v d p) : ∃ a : AV, v = .agg a.cs.toArray ∧ a.ok w := by
  obtain ⟨cs, rfl, hsz⟩ := okWide_struct Try.underlying49 hok
  obtain ⟨fuel, hf⟩ := h
  obtain ⟨a, e, ha⟩ := open_act_cells hf
  refine ⟨a, ?_, ha⟩
  have e' : cs.toList = a.cs := e
  rw [← e', Array.toArray_toList]
theorem open_acts {A : Option Addr} {n cap : Nat} {d : DataW H} {p : List MemPlace} (h : DataW.Trod enc Try.prog w base spare held 47 (.slice A n cap) d p) : ∃ ls : List AV, ActsV w A n cap ls := by
  obtain ⟨fuel, hf⟩ := h
  have hC : (Try.prog).cellsOf 49 = 84 := by kernel_rfl
  rcases open_slice Try.underlying47 hf with ⟨hcs, _⟩ | ⟨x, l, c, m, fu, D, Pl, hcs, _, hl, hm, hz, _, hcell⟩
  · simp [Value.cells] at hcs
    obtain ⟨rfl, rfl, rfl⟩ := hcs
    exact ⟨[], rfl, Nat.le_refl _, by decide, (fun a ha => by cases ha), fun h => absurd h (Nat.lt_irrefl _)⟩
  · simp [Value.cells] at hcs
    obtain ⟨rfl, rfl, rfl⟩ := hcs
    have hn : n ≤ m := by rw [hz]; split <;> omega
    have hb : ∀ i, i < n → ∃ a : AV, a.ok w ∧ w.cells? base (x.add (i * 84)) 84 = some a.cs := fun i hi => by
      obtain ⟨cs', h1, h2⟩ := hcell i (by omega)
      rw [hC] at h1
      obtain ⟨a, rfl, ha⟩ := open_act_cells h2
      exact ⟨a, ha, h1⟩
    let f : Nat → AV := fun i => if hi : i < n then Classical.choose (hb i hi) else ⟨0, 0, none, 0, 0, [], com0, none, 0, 0, chk0⟩
    have hF : ∀ i, i < n → (f i).ok w ∧ w.cells? base (x.add (i * 84)) 84 = some (f i).cs := fun i hi => by
      have e : f i = Classical.choose (hb i hi) := dif_pos hi
      rw [e]
      exact Classical.choose_spec (hb i hi)
    have hcc : ∀ i, i < n → ∀ j v, (f i).cs[j]? = some v → w.cell? ((x.add (i * 84)).add j) = some v := fun i hi j v hv => by
      obtain ⟨-, h1⟩ := hF i hi
      obtain ⟨_, hcl, hat⟩ := World.cells?_some h1
      have hj := (List.getElem?_eq_some_iff.1 hv).1
      rw [hat j (by omega), hv]
    refine ⟨(List.range n).map f, by simp, hl, by unfold maxLen at hm; omega, fun a ha => ?_, fun h0 => ?_⟩
    · obtain ⟨i, hi, rfl⟩ := List.mem_map.1 ha
      exact (hF i (List.mem_range.1 hi)).1
    · have hl0 : (f 0).cs[0]? = some (.int .i64 (f 0).k) := rfl
      have hc0 := hcc 0 h0 0 _ hl0
      obtain ⟨b, off, spot⟩ := x
      have hspot : spot = none := by simpa [Addr.add] using World.cell?_spot hc0
      subst hspot
      refine ⟨b, off, rfl, ?_, fun i a ha j v hv => ?_⟩
      · have := World.block_lt_of_cell? _ _ hc0
        simpa [Addr.add] using this
      · have hi : i < n := by
          rcases Nat.lt_or_ge i n with h | h
          · exact h
          · rw [List.getElem?_eq_none (by simpa using h)] at ha; cases ha
        have er : f i = a := by simpa [hi] using ha
        have h1 := hcc i hi j v (by rw [er]; exact hv)
        rw [add_none, add_none] at h1
        exact h1
end
end Go.Proofs.Ytfldgaiiniknpaa
