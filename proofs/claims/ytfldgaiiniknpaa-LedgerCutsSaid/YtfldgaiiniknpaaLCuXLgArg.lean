
/- Commits as a law's arguments. -/
import Derived.Test.YtfldgaiiniknpaaLCuf
import Derived.Test.YtfldgaiiniknpaaLCuXJlArg
namespace Go.Proofs.Ytfldgaiiniknpaa
open Go.RowKit Go.ChangeShapes Go.WideShapes Go.ChangeAt Go.Deep

theorem at_of_take {α : Type} {cs : List α} {o : Nat} {v : α} (h : (cs.drop o).take 1 = [v]) : cs[o]? = some v := by
  have h1 : ((cs.drop o).take 1)[0]? = some v := by rw [h]; rfl
  rw [List.getElem?_take, if_pos (by decide), List.getElem?_drop, Nat.add_zero] at h1
  exact h1
section
variable {H : Type} {enc : TypeId × Value → H} {w : World} {base : Nat} {spare : Nat → Bool} {held : Bool}
theorem open_u8s {t : TypeId} {k fuel : Nat} {cs : List Value} {x : DataW H × List MemPlace} (hu : (Try.prog).underlying t = some (.array k 5)) (hk : (Try.prog).cellsOf t = k) (h : DataW.trod enc Try.prog w base spare held fuel t cs = some x) :
    ∃ zs : List Int, zs.length = k ∧ Byt zs ∧ cs = zs.map (.int .u8) := by
  obtain ⟨xs, m, _, _, hl, hx, hf⟩ := DataW.trod_array hu h
  have h1 : (Try.prog).cellsOf 5 = 1 := by kernel_rfl
  rw [hk] at hl
  have hc : ∀ i, i < k → ∃ n : Int, cs[i]? = some (.int .u8 n) ∧ 0 ≤ n ∧ n ≤ 255 := fun i hi => by
    have h2 := hf i hi
    rw [h1, Nat.mul_one, List.getElem?_eq_getElem (by omega)] at h2
    obtain ⟨n, e, _, hw⟩ := DataW.trod_int Try.underlying5 h2
    refine ⟨n, at_of_take e, ?_⟩
    exact wf_u8_bd hw
  have hb : ∀ i, i < k → ∃ n : Int, cs[i]? = some (.int .u8 n) ∧ 0 ≤ n ∧ n ≤ 255 := hc
  obtain ⟨F, hF⟩ := choose_lt hb
  refine ⟨(List.range k).map F, by simp, fun z hz => ?_, ?_⟩
  · obtain ⟨i, hi, rfl⟩ := List.mem_map.1 hz
    exact (hF i (List.mem_range.1 hi)).2
  · apply List.ext_getElem?
    intro i
    by_cases hi : i < k
    · rw [(hF i hi).1]
      simp [hi]
    · rw [List.getElem?_eq_none (by omega), List.getElem?_eq_none (by simp; omega)]
theorem open_com_cells {fuel : Nat} {cs : List Value} {x : DataW H × List MemPlace} (h : DataW.trod enc Try.prog w base spare held fuel 25 cs = some x) : ∃ c : Com, c.ok ∧ cs = c.cs := by
  obtain ⟨ys, m, _, _, hl, hy, hf⟩ := DataW.trod_struct Try.underlying25 h
  have hC : (Try.prog).cellsOf 25 = 68 := by kernel_rfl
  rw [hC] at hl
  have i1 : (Try.prog).cellsOf 3 = 1 := by kernel_rfl
  have i2 : (Try.prog).cellsOf 22 = 1 := by kernel_rfl
  have i3 : (Try.prog).cellsOf 23 = 64 := by kernel_rfl
  have f0 : DataW.trod enc Try.prog w base spare held m 3 ((cs.drop 0).take ((Try.prog).cellsOf 3)) = ys[0]? := hf 0 _ rfl
  have f1 : DataW.trod enc Try.prog w base spare held m 22 ((cs.drop 1).take ((Try.prog).cellsOf 22)) = ys[1]? := hf 1 _ rfl
  have f2 : DataW.trod enc Try.prog w base spare held m 22 ((cs.drop 2).take ((Try.prog).cellsOf 22)) = ys[2]? := hf 2 _ rfl
  have f3 : DataW.trod enc Try.prog w base spare held m 3 ((cs.drop 3).take ((Try.prog).cellsOf 3)) = ys[3]? := hf 3 _ rfl
  have f4 : DataW.trod enc Try.prog w base spare held m 23 ((cs.drop 4).take ((Try.prog).cellsOf 23)) = ys[4]? := hf 4 _ rfl
  match ys, hy with
  | [y0, y1, y2, y3, y4], _ =>
    obtain ⟨a0, e0, _, _⟩ := DataW.trod_int Try.underlying3 f0
    obtain ⟨a1, e1, _, u1⟩ := DataW.trod_int Try.underlying22 f1
    obtain ⟨a2, e2, _, u2⟩ := DataW.trod_int Try.underlying22 f2
    obtain ⟨a3, e3, _, _⟩ := DataW.trod_int Try.underlying3 f3
    obtain ⟨zs, hz, hb, e4⟩ := open_u8s Try.underlying23 i3 f4
    have b1 := wf_u64_bd u1
    have b2 := wf_u64_bd u2
    have g0 : cs[0]? = some (.int .i64 a0) := at_of_take (by rw [i1] at e0; exact e0)
    have g1 : cs[1]? = some (.int .u64 a1) := at_of_take (by rw [i2] at e1; exact e1)
    have g2 : cs[2]? = some (.int .u64 a2) := at_of_take (by rw [i2] at e2; exact e2)
    have g3 : cs[3]? = some (.int .i64 a3) := at_of_take (by rw [i1] at e3; exact e3)
    refine ⟨⟨a0, a1.toNat, a2.toNat, a3, zs⟩, ⟨by show a1.toNat < _; omega, by show a2.toNat < _; omega, hz, hb⟩, ?_⟩
    have t1 : ((a1.toNat : Nat) : Int) = a1 := by omega
    have t2 : ((a2.toNat : Nat) : Int) = a2 := by omega
    apply List.ext_getElem?
    intro i
    unfold Com.cs
    dsimp only
    rw [t1, t2]
    match i with
    | 0 => exact g0
    | 1 => exact g1
    | 2 => exact g2
    | 3 => exact g3
    | i + 4 =>
      show cs[i + 4]? = (zs.map (Value.int .u8))[i]?
      rw [← e4, i3]
      have e5 : (cs.drop 4).take 64 = cs.drop 4 := List.take_of_length_le (by rw [List.length_drop]; omega)
      show _ = (List.take 64 (cs.drop 4))[i]?
      rw [e5, List.getElem?_drop, Nat.add_comm]
set_option maxRecDepth 100000 in
theorem open_commit {v : Value} {d : DataW H} {p : List MemPlace} {base' : Nat} (hok : Value.okWide Try.prog w .any base' 25 v) (h : DataW.Trod enc Try.prog w base spare held 25 v d p) : ∃ c : Com, c.ok ∧ v = c.v := by
  obtain ⟨cs, rfl, hsz⟩ := okWide_struct Try.underlying25 hok
  obtain ⟨fuel, hf⟩ := h
  obtain ⟨c, hc, e⟩ := open_com_cells hf
  refine ⟨c, hc, ?_⟩
  have e' : cs.toList = c.cs := e
  show Value.agg cs = .agg c.cs.toArray
  rw [← e', Array.toArray_toList]
end
end Go.Proofs.Ytfldgaiiniknpaa
