
/- The reference's PutCommit and PutCheck: bytes with zeros put behind. -/
import Derived.Test.YtfldgaiiniknpaaLFof
import Derived.Test.YtfldgaiiniknpaaLFod
import Derived.Lib.AppendZerosOnto
namespace Go.Proofs.Ytfldgaiiniknpaa
open Go.RowKit

theorem run_zeros_onto (w : World) (g : Nat) (zs : List Int) (m k : Nat) (T : TypeId) (hb : Blk w g (zs.map (Value.int .u8)) T) (hz : ∀ z ∈ zs, 0 ≤ z ∧ z ≤ 255) (hm : zs.length = m) (h0 : 0 < m) (hk : 0 < k) (hmk : m + k ≤ 64) :
    ∃ cap' w', (Builtin.append_ #[27, 3] 27 #[.slice (some ⟨g, 0, none⟩) m m, .int .i64 (k : Int)]).run Try.prog w = .ok (.slice (some ⟨w.heap.size, 0, none⟩) (m + k) cap') w' ∧ Own w' w.heap.size (.slice (some ⟨w.heap.size, 0, none⟩) (m + k) cap') (zs ++ List.replicate k 0) ∧ Keeps None w w' := by
  obtain ⟨i, hi, hz0, hz1, hz2⟩ := info_parts Try.info5
  have hold : (Builtin.firstCells i.size m (.slice (some ⟨g, 0, none⟩) m m)).run Try.prog w.drew = .ok (zs.map (Value.int .u8)).toArray w.drew :=
    run_firstCells_some w.drew i.size m ⟨g, 0, none⟩ m m (zs.map (Value.int .u8)) (by rw [hz1, Nat.mul_one, List.length_map, hm]) (fun j v hv => by
      have := hb.drew.cellD j v hv
      have e : (⟨g, 0, none⟩ : Addr).add j = ⟨g, j, none⟩ := by cases j <;> simp [Addr.add]
      rw [e]; exact this)
  have hrz := Lib.run_append_grow_zeros (P := Try.prog) w 27 3 27 5 i (.int .u8 0) .i64 .i64 Try.underlying27 Try.underlying3 hi hz0 (some ⟨g, 0, none⟩) m m (zs.map (Value.int .u8)) hold k hk (by omega) (by omega) (by omega) (by rw [hz2]; omega) (growslice_fits (by omega) (by rw [hz2]; omega))
  have hG1 := grownCap_ge w (m + k) m 5
  have hG2 := grownCap_le_maxLen w (m + k) m 5 (by unfold maxLen; omega)
  have hl : (zs ++ List.replicate k (0 : Int)).length = m + k := by simp [hm]
  refine ⟨_, _, hrz, ?_, (Keeps.refl None w).drew.alloc _⟩
  refine ⟨⟨by simp, .inr ⟨w.heap.size, _, _, by rw [hl], Nat.le_refl _, heap_alloc_new w.drew _, by rw [hl]; exact hG1, hG2, ?_, ?_⟩⟩, ?_⟩
  · simp [size_zeroCells, Value.cells, hm]
    omega
  · rw [hl]
    have hz' : (Builtin.zeroCells (Value.int .u8 0).cells k).toList = List.replicate k (Value.int .u8 0) := by
      simp [Builtin.zeroCells, Value.cells, Nat.mod_one, List.map_const']
    simp only [List.map_append, List.map_replicate, Array.toList_append, hz']
    rw [List.append_assoc, List.take_append, List.take_of_length_le (by simp [hm]), List.take_append]
    simp [hm]
  · intro y hy
    rcases List.mem_append.1 hy with hy | hy
    · exact hz y hy
    · rw [List.eq_of_mem_replicate hy]; decide
theorem wpList_zeros {ops : Array Oper} {rest : List Oper} {o : Oper} {a : Act} {w : World} {Q : Exit → Act → World → Prop} {s x : Operand} (g : Nat) (zs : List Int) (m k n : Nat) (T : TypeId) (hb : Blk w g (zs.map (Value.int .u8)) T) (hz : ∀ z ∈ zs, 0 ≤ z ∧ z ≤ 255) (hm : zs.length = m) (hn : m + k = n) (h0 : 0 < m) (hk : 0 < k) (hmk : m + k ≤ 64)
    (hg : o.guard = none) (hty : o.type = 27) (ho : o.op = .call { callee := .builtin .append, args := #[s, x], argTypes := #[27, 3] }) (h1 : a.eval s = .slice (some ⟨g, 0, none⟩) m m) (h2 : a.eval x = .int .i64 (k : Int))
    (h : ∀ A cap' w', Own w' w.heap.size (.slice A n cap') (zs ++ List.replicate k 0) → Keeps None w w' → wpList Try.prog ops Q rest (a.put o.dst (.slice A n cap')) w') : wpList Try.prog ops Q (o :: rest) a w := by
  subst hn
  obtain ⟨cap', w', hr, h3, h4⟩ := run_zeros_onto w g zs m k T hb hz hm h0 hk hmk
  rw [← hty] at hr
  exact Lib.wpList_append_run w hg s x 27 3 ho _ _ h1 h2 _ w' (by simpa [hty] using hr) (h _ cap' w' h3 h4)
theorem low8_any (n : Nat) (h : n < 18446744073709551616) (w : World) : Calls Try.prog 39 #[.int .u64 (n : Int), .int .i64 8] w (Cloned w (lowL 8 n)) := rslow_any n 8 w h (by decide)
end Go.Proofs.Ytfldgaiiniknpaa
