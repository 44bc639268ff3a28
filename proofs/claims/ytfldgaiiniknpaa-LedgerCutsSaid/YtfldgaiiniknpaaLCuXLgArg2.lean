
/- Checkpoints and states as a law's arguments. -/
import Derived.Test.YtfldgaiiniknpaaLCuXLgArg
import Derived.Test.YtfldgaiiniknpaaLCuXLg8
namespace Go.Proofs.Ytfldgaiiniknpaa
open Go.RowKit Go.ChangeShapes Go.WideShapes Go.ChangeAt Go.Deep

section
variable {H : Type} {enc : TypeId × Value → H} {w : World} {base : Nat} {spare : Nat → Bool} {held : Bool}
theorem open_chk_cells {fuel : Nat} {cs : List Value} {x : DataW H × List MemPlace} (h : DataW.trod enc Try.prog w base spare held fuel 29 cs = some x) : ∃ (k : Chk) (A : Option Addr) (n cap : Nat), k.ok ∧ cs = k.cs A n cap ∧ Bs w A n cap k.mid := by
  obtain ⟨ys, m, _, _, hl, hy, hf⟩ := DataW.trod_struct Try.underlying29 h
  have hC : (Try.prog).cellsOf 29 = 13 := by kernel_rfl
  rw [hC] at hl
  have i1 : (Try.prog).cellsOf 3 = 1 := by kernel_rfl
  have i2 : (Try.prog).cellsOf 27 = 1 := by kernel_rfl
  have i3 : (Try.prog).cellsOf 26 = 8 := by kernel_rfl
  have f0 : DataW.trod enc Try.prog w base spare held m 3 ((cs.drop 0).take ((Try.prog).cellsOf 3)) = ys[0]? := hf 0 _ rfl
  have f1 : DataW.trod enc Try.prog w base spare held m 3 ((cs.drop 1).take ((Try.prog).cellsOf 3)) = ys[1]? := hf 1 _ rfl
  have f2 : DataW.trod enc Try.prog w base spare held m 3 ((cs.drop 2).take ((Try.prog).cellsOf 3)) = ys[2]? := hf 2 _ rfl
  have f3 : DataW.trod enc Try.prog w base spare held m 3 ((cs.drop 3).take ((Try.prog).cellsOf 3)) = ys[3]? := hf 3 _ rfl
  have f4 : DataW.trod enc Try.prog w base spare held m 26 ((cs.drop 4).take ((Try.prog).cellsOf 26)) = ys[4]? := hf 4 _ rfl
  have f5 : DataW.trod enc Try.prog w base spare held m 27 ((cs.drop 12).take ((Try.prog).cellsOf 27)) = ys[5]? := hf 5 _ rfl
  match ys, hy with
  | [y0, y1, y2, y3, y4, y5], _ =>
    obtain ⟨a0, e0, _, _⟩ := DataW.trod_int Try.underlying3 f0
    obtain ⟨a1, e1, _, _⟩ := DataW.trod_int Try.underlying3 f1
    obtain ⟨a2, e2, _, _⟩ := DataW.trod_int Try.underlying3 f2
    obtain ⟨a3, e3, _, _⟩ := DataW.trod_int Try.underlying3 f3
    obtain ⟨zs, hz, hb, e4⟩ := open_u8s Try.underlying26 i3 f4
    obtain ⟨A, n, cap, e5⟩ : ∃ A n cap, (cs.drop 12).take ((Try.prog).cellsOf 27) = [.slice A n cap] := by
      rcases open_slice Try.underlying27 f5 with ⟨h0, _⟩ | ⟨x, l, c, m, fu, D, Pl, h0, _⟩
      · exact ⟨_, _, _, h0⟩
      · exact ⟨_, _, _, h0⟩
    rw [e5] at f5
    obtain ⟨ms, hms⟩ := open_bs (A := A) (n := n) (cap := cap) (d := y5.1) (p := y5.2) ⟨m, f5⟩
    have g0 : cs[0]? = some (.int .i64 a0) := at_of_take (by rw [i1] at e0; exact e0)
    have g1 : cs[1]? = some (.int .i64 a1) := at_of_take (by rw [i1] at e1; exact e1)
    have g2 : cs[2]? = some (.int .i64 a2) := at_of_take (by rw [i1] at e2; exact e2)
    have g3 : cs[3]? = some (.int .i64 a3) := at_of_take (by rw [i1] at e3; exact e3)
    have g5 : cs[12]? = some (.slice A n cap) := at_of_take (by rw [i2] at e5; exact e5)
    refine ⟨⟨a0, a1, a2, a3, zs, ms⟩, A, n, cap, ⟨hz, hb, hms.byte⟩, ?_, hms⟩
    apply List.ext_getElem?
    intro i
    unfold Chk.cs
    dsimp only
    match i with
    | 0 => exact g0
    | 1 => exact g1
    | 2 => exact g2
    | 3 => exact g3
    | i + 4 =>
      show cs[i + 4]? = (zs.map (Value.int .u8) ++ [.slice A n cap])[i]?
      by_cases h8 : i < 8
      · rw [List.getElem?_append_left (by rw [List.length_map, hz]; exact h8), ← e4, i3, List.getElem?_take, if_pos h8, List.getElem?_drop, Nat.add_comm]
      · rw [List.getElem?_append_right (by rw [List.length_map, hz]; omega), List.length_map, hz]
        by_cases h9 : i = 8
        · subst h9; exact g5
        · rw [List.getElem?_eq_none (by omega), List.getElem?_eq_none (by simp; omega)]
set_option maxRecDepth 100000 in
theorem open_check {v : Value} {d : DataW H} {p : List MemPlace} {base' : Nat} (hok : Value.okWide Try.prog w .any base' 29 v) (h : DataW.Trod enc Try.prog w base spare held 29 v d p) : ∃ (k : Chk) (A : Option Addr) (n cap : Nat), k.ok ∧ v = k.v A n cap ∧ Bs w A n cap k.mid := by
  obtain ⟨cs, rfl, hsz⟩ := okWide_struct Try.underlying29 hok
  obtain ⟨fuel, hf⟩ := h
  obtain ⟨k, A, n, cap, hc, e, hb⟩ := open_chk_cells hf
  refine ⟨k, A, n, cap, hc, ?_, hb⟩
  have e' : cs.toList = k.cs A n cap := e
  show Value.agg cs = .agg (k.cs A n cap).toArray
  rw [← e', Array.toArray_toList]
theorem open_state_cells {fuel : Nat} {cs : List Value} {x : DataW H × List MemPlace} (h : DataW.trod enc Try.prog w base spare held fuel 39 cs = some x) : ∃ (s : St) (A : Option Addr) (n cap : Nat), s.ok ∧ cs = s.cs A n cap ∧ Bs w A n cap s.k.mid := by
  obtain ⟨ys, m, _, _, hl, hy, hf⟩ := DataW.trod_struct Try.underlying39 h
  have hC : (Try.prog).cellsOf 39 = 82 := by kernel_rfl
  rw [hC] at hl
  have i1 : (Try.prog).cellsOf 25 = 68 := by kernel_rfl
  have i2 : (Try.prog).cellsOf 4 = 1 := by kernel_rfl
  have i3 : (Try.prog).cellsOf 29 = 13 := by kernel_rfl
  have f0 : DataW.trod enc Try.prog w base spare held m 25 ((cs.drop 0).take ((Try.prog).cellsOf 25)) = ys[0]? := hf 0 _ rfl
  have f1 : DataW.trod enc Try.prog w base spare held m 4 ((cs.drop 68).take ((Try.prog).cellsOf 4)) = ys[1]? := hf 1 _ rfl
  have f2 : DataW.trod enc Try.prog w base spare held m 29 ((cs.drop 69).take ((Try.prog).cellsOf 29)) = ys[2]? := hf 2 _ rfl
  match ys, hy with
  | [y0, y1, y2], _ =>
    obtain ⟨c, oc, e0⟩ := open_com_cells f0
    obtain ⟨b, e1, _⟩ := DataW.trod_bool Try.underlying4 f1
    obtain ⟨k, A, n, cap, ok, e2, hb⟩ := open_chk_cells f2
    refine ⟨⟨c, b, k⟩, A, n, cap, ⟨oc, ok⟩, ?_, hb⟩
    rw [i1, List.drop_zero] at e0
    rw [i2] at e1
    rw [i3] at e2
    have e3 : (cs.drop 69).take 13 = cs.drop 69 := List.take_of_length_le (by rw [List.length_drop]; omega)
    rw [e3] at e2
    unfold St.cs
    dsimp only
    rw [← e0, ← e2]
    have e4 : Value.bool b :: cs.drop 69 = cs.drop 68 := by
      have : cs.drop 68 = (cs.drop 68).take 1 ++ (cs.drop 68).drop 1 := (List.take_append_drop 1 _).symm
      rw [this, e1, List.drop_drop]
      rfl
    rw [e4, List.take_append_drop]
set_option maxRecDepth 100000 in
theorem open_state {v : Value} {d : DataW H} {p : List MemPlace} {base' : Nat} (hok : Value.okWide Try.prog w .any base' 39 v) (h : DataW.Trod enc Try.prog w base spare held 39 v d p) : ∃ (s : St) (A : Option Addr) (n cap : Nat), s.ok ∧ v = s.v A n cap ∧ Bs w A n cap s.k.mid := by
  obtain ⟨cs, rfl, hsz⟩ := okWide_struct Try.underlying39 hok
  obtain ⟨fuel, hf⟩ := h
  obtain ⟨k, A, n, cap, hc, e, hb⟩ := open_state_cells hf
  refine ⟨k, A, n, cap, hc, ?_, hb⟩
  have e' : cs.toList = k.cs A n cap := e
  show Value.agg cs = .agg (k.cs A n cap).toArray
  rw [← e', Array.toArray_toList]
end
end Go.Proofs.Ytfldgaiiniknpaa
