
/- Equality of structs and arrays by value. -/
import Derived.Test.YtfldgaiiniknpaaLCuXLg14
import Derived.Laws.StructEq
import Derived.ChangeKeysEq
namespace Go.Proofs.Ytfldgaiiniknpaa
open Go.RowKit

theorem part_u8 (zs : List Int) (i : Nat) (hi : i < zs.length) (w : World) : (part 5 (zs.map (Value.int .u8)).toArray i).run Try.prog w = .ok (.int .u8 (zs.getD i 0)) w := by
  have ha : ∀ w, (isAgg 5).run Try.prog w = .ok false w := fun w => by simp [isAgg, run_underlying Try.underlying5]
  have h := map_getD (f := Value.int .u8) 0 hi
  unfold part
  rw [Sem.run_bind, ha]
  simp only [Result.andThen_ok, Bool.false_eq_true, if_false, List.getElem?_toArray, h, Sem.run_pure]
theorem items_u8 (d : Nat) (zs ys : List Int) (n : Nat) (h1 : zs.length = n) (h2 : ys.length = n) (w : World) : ∀ (l : List Nat), (∀ i ∈ l, i < n) →
    (Op.eqItems (d + 1) 5 1 (zs.map (Value.int .u8)).toArray (ys.map (Value.int .u8)).toArray l).run Try.prog w = .ok (l.all fun i => zs.getD i 0 == ys.getD i 0) w
  | [], _ => rfl
  | i :: l, h => by
    have hi := h i List.mem_cons_self
    unfold Op.eqItems
    rw [Nat.mul_one, Sem.run_bind, part_u8 zs i (by omega), Result.andThen_ok, Sem.run_bind, part_u8 ys i (by omega), Result.andThen_ok, Sem.run_bind, run_equalIn_int w d 5 .u8 .u8 _ _ Try.underlying5, Result.andThen_ok]
    rw [List.all_cons]
    cases hq : (zs.getD i 0 == ys.getD i 0)
    · rfl
    · simp only [Bool.not_true, Bool.false_eq_true, if_false, Bool.true_and]
      exact items_u8 d zs ys n h1 h2 w l (fun j hj => h j (List.mem_cons_of_mem _ hj))
theorem info_u8 : ∃ i, (Try.prog).info? 5 = some i := by
  obtain ⟨i, hi, _, _⟩ := info_parts Try.info5
  exact ⟨i, hi⟩
theorem eq_u8s {t : TypeId} (d : Nat) (zs ys : List Int) (n : Nat) (hu : (Try.prog).underlying t = some (.array n 5)) (h1 : zs.length = n) (h2 : ys.length = n) (w : World) :
    (Op.equalIn (d + 2) t (.agg (zs.map (Value.int .u8)).toArray) (.agg (ys.map (Value.int .u8)).toArray)).run Try.prog w = .ok ((List.range n).all fun i => zs.getD i 0 == ys.getD i 0) w := by
  obtain ⟨i, hi⟩ := info_u8
  rw [run_equalIn_array w (d + 1) _ _ hu hi, show (Try.prog).cellsOf 5 = 1 by kernel_rfl]
  exact items_u8 d zs ys n h1 h2 w _ (fun j hj => List.mem_range.1 hj)
def eqComB (c e : Com) : Bool := (c.slot == e.slot) && ((c.ver : Int) == (e.ver : Int)) && ((c.fl : Int) == (e.fl : Int)) && (c.len == e.len) && ((List.range 64).all fun i => c.me.getD i 0 == e.me.getD i 0)
theorem eqComB_refl (c : Com) : eqComB c c = true := by simp [eqComB]
set_option maxRecDepth 100000 in
theorem eq_com (d : Nat) (c e : Com) (hc : c.ok) (he : e.ok) (w : World) : (Op.equalIn (d + 3) 25 (.agg c.cs.toArray) (.agg e.cs.toArray)).run Try.prog w = .ok (eqComB c e) w := by
  have i1 : ∀ w, (isAgg 3).run Try.prog w = .ok false w := fun w => by simp [isAgg, run_underlying Try.underlying3]
  have i2 : ∀ w, (isAgg 22).run Try.prog w = .ok false w := fun w => by simp [isAgg, run_underlying Try.underlying22]
  have i3 : ∀ w, (isAgg 23).run Try.prog w = .ok true w := fun w => by simp [isAgg, run_underlying Try.underlying23]
  have hs : (Try.prog.info? 23).map (·.size) = some 64 := a64_size
  have hz : ∀ w, (sizeOf 23).run Try.prog w = .ok 64 w := fun w => by
    cases hq : (Try.prog.info? 23) with
    | none => simp [hq] at hs
    | some i => simp [hq] at hs; simp [sizeOf, typeInfo, hq, hs]
  have ea : ∀ c : Com, c.ok → ∀ w, (part 23 c.cs.toArray 4).run Try.prog w = .ok (.agg (c.me.map (Value.int .u8)).toArray) w := fun c hc w => by
    have e : (c.cs.drop 4).take 64 = c.me.map (Value.int .u8) := List.take_of_length_le (by show (c.me.map _).length ≤ 64; rw [List.length_map, hc.ml]; exact Nat.le_refl _)
    unfold part
    rw [Sem.run_bind, i3, Result.andThen_ok]
    simp only [if_true, Sem.run_bind, hz, Result.andThen_ok, Sem.run_pure, List.extract_toArray]
    congr 3
  have e0 : ∀ c : Com, ∀ w, (part 3 c.cs.toArray 0).run Try.prog w = .ok (.int .i64 c.slot) w := fun c w => by unfold part; rw [Sem.run_bind, i1, Result.andThen_ok]; rfl
  have e1 : ∀ c : Com, ∀ w, (part 22 c.cs.toArray 1).run Try.prog w = .ok (.int .u64 (c.ver : Int)) w := fun c w => by unfold part; rw [Sem.run_bind, i2, Result.andThen_ok]; rfl
  have e2 : ∀ c : Com, ∀ w, (part 22 c.cs.toArray 2).run Try.prog w = .ok (.int .u64 (c.fl : Int)) w := fun c w => by unfold part; rw [Sem.run_bind, i2, Result.andThen_ok]; rfl
  have e3 : ∀ c : Com, ∀ w, (part 3 c.cs.toArray 3).run Try.prog w = .ok (.int .i64 c.len) w := fun c w => by unfold part; rw [Sem.run_bind, i1, Result.andThen_ok]; rfl
  have fo : ((Try.prog).fieldsOf 25).toList.map (fun f => (f.name, f.type, f.offset)) = [("Slot", 3, 0), ("Version", 22, 1), ("Floor", 22, 2), ("Length", 3, 3), ("Measure", 23, 4)] := by kernel_rfl
  have key : ∀ fs : List Field, fs.map (fun f => (f.name, f.type, f.offset)) = [("Slot", 3, 0), ("Version", 22, 1), ("Floor", 22, 2), ("Length", 3, 3), ("Measure", 23, 4)] → (Op.eqFields (d + 2) c.cs.toArray e.cs.toArray fs).run Try.prog w = .ok (eqComB c e) w := by
    intro fs hf
    have hlen : fs.length = 5 := by have := congrArg List.length hf; simpa using this
    obtain ⟨f0, f1, f2, f3, f4, rfl⟩ : ∃ f0 f1 f2 f3 f4, fs = [f0, f1, f2, f3, f4] := by
      match fs, hlen with
      | [a, b, c, d, e], _ => exact ⟨a, b, c, d, e, rfl⟩
    simp only [List.map_cons, List.map_nil, List.cons.injEq, Prod.mk.injEq, and_true] at hf
    obtain ⟨⟨n0, t0, o0⟩, ⟨n1, t1, o1⟩, ⟨n2, t2, o2⟩, ⟨n3, t3, o3⟩, n4, t4, o4⟩ := hf
    simp only [Op.eqFields, n0, n1, n2, n3, n4, t0, t1, t2, t3, t4, o0, o1, o2, o3, o4]
    rw [if_pos (by decide), if_pos (by decide), if_pos (by decide), if_pos (by decide), if_pos (by decide)]
    unfold eqComB
    rw [Sem.run_bind, e0, Result.andThen_ok, Sem.run_bind, e0, Result.andThen_ok, Sem.run_bind, run_equalIn_int w (d + 1) 3 .i64 .i64 _ _ Try.underlying3, Result.andThen_ok]
    cases (c.slot == e.slot)
    · rfl
    rw [if_neg (by decide), Sem.run_bind, e1, Result.andThen_ok, Sem.run_bind, e1, Result.andThen_ok, Sem.run_bind, run_equalIn_int w (d + 1) 22 .u64 .u64 _ _ Try.underlying22, Result.andThen_ok]
    cases ((c.ver : Int) == (e.ver : Int))
    · rfl
    rw [if_neg (by decide), Sem.run_bind, e2, Result.andThen_ok, Sem.run_bind, e2, Result.andThen_ok, Sem.run_bind, run_equalIn_int w (d + 1) 22 .u64 .u64 _ _ Try.underlying22, Result.andThen_ok]
    cases ((c.fl : Int) == (e.fl : Int))
    · rfl
    rw [if_neg (by decide), Sem.run_bind, e3, Result.andThen_ok, Sem.run_bind, e3, Result.andThen_ok, Sem.run_bind, run_equalIn_int w (d + 1) 3 .i64 .i64 _ _ Try.underlying3, Result.andThen_ok]
    cases (c.len == e.len)
    · rfl
    rw [if_neg (by decide), Sem.run_bind, ea c hc, Result.andThen_ok, Sem.run_bind, ea e he, Result.andThen_ok, Sem.run_bind, eq_u8s d _ _ 64 Try.underlying23 hc.ml he.ml, Result.andThen_ok]
    cases ((List.range 64).all fun i => c.me.getD i 0 == e.me.getD i 0) <;> rfl
  rw [run_equalIn_struct w (d + 2) 25 _ _ (by kernel_rfl) (by kernel_rfl)]
  exact key _ fo
section
variable {ops : Array Oper} {rest : List Oper} {op : Oper} {a : Act} {w : World} {Q : Exit → Act → World → Prop}
theorem wpList_bin_g {bo : BinOp} {t t2 : TypeId} {x y : Operand} {vx vy u : Value} (hr : (do eqGuard bo t x y vx vy; binOp bo t vx vy : Sem Value).run Try.prog w = .ok u w) (hw : Region.wanted op (yielded ops a.tmps) = true) (ho : op.op = .binOp bo t x y t2) (hx : a.eval x = vx) (hy : a.eval y = vy)
    (hn : wpList Try.prog ops Q rest (a.put op.dst u) w) : wpList Try.prog ops Q (op :: rest) a w := by
  refine wpList_step fun K hK => ?_
  rw [if_pos hw]
  unfold Oper.wp execOp
  simp only [ho, hx, hy, Sem.run_bind, Sem.run_pure] at hr ⊢
  rw [hr]
  exact hK _ _ hn
end
theorem run_eq_com (c e : Com) (hc : c.ok) (he : e.ok) (x y : Operand) (w : World) : (do eqGuard .eql 25 x y (.agg c.cs.toArray) (.agg e.cs.toArray); binOp .eql 25 (.agg c.cs.toArray) (.agg e.cs.toArray) : Sem Value).run Try.prog w = .ok (.bool (eqComB c e)) w := by
  rw [Sem.run_bind, run_eqGuard_agg w .eql 25 x y _ _ (by kernel_rfl), Result.andThen_ok, run_eql_struct, eq_com 9997 c e hc he]
  rfl
theorem run_eq_id (zs ys : List Int) (h1 : zs.length = 8) (h2 : ys.length = 8) (x y : Operand) (w : World) : (do eqGuard .eql 26 x y (.agg (zs.map (Value.int .u8)).toArray) (.agg (ys.map (Value.int .u8)).toArray); binOp .eql 26 (.agg (zs.map (Value.int .u8)).toArray) (.agg (ys.map (Value.int .u8)).toArray) : Sem Value).run Try.prog w = .ok (.bool ((List.range 8).all fun i => zs.getD i 0 == ys.getD i 0)) w := by
  rw [Sem.run_bind, run_eqGuard_agg w .eql 26 x y _ _ (by kernel_rfl), Result.andThen_ok, run_eql_struct, eq_u8s 9998 zs ys 8 Try.underlying26 h1 h2]
  rfl
theorem St.cs_k {s : St} (o : s.ok) (A : Option Addr) (n cap : Nat) (i : Nat) (hi : i < 8) : (s.cs A n cap)[73 + i]? = some (.int .u8 (s.k.id.getD i 0)) := by
  have h := St.cs_chk o A n cap (4 + i) _ (Chk.cs_id o.k A n cap i hi)
  rw [← Nat.add_assoc] at h
  exact h
def sameB (s t : St) : Bool := eqComB s.c t.c && (s.has == t.has) && (s.k.slot == t.k.slot) && (s.k.block == t.k.block) && (s.k.off == t.k.off) && (s.k.dn == t.k.dn) && ((List.range 8).all fun i => s.k.id.getD i 0 == t.k.id.getD i 0) && decide (s.k.mid = t.k.mid)
theorem sameB_refl (s : St) : sameB s s = true := by simp [sameB, eqComB_refl]
theorem quiet_bin {S : World → Prop} {a a' : Act} {o : Oper} {K : Act → Prop} {bo : BinOp} {t t2 : TypeId} {x y : Operand} {vx vy u : Value} {d : Nat}
    (hm : ∀ w, (do eqGuard bo t x y vx vy; binOp bo t vx vy : Sem Value).run Try.prog w = .ok u w) (h : o.op = .binOp bo t x y t2) (hd : o.dst = some d) (he : a.eval x = vx) (he2 : a.eval y = vy) (ha : a.put (some d) u = a') (hk : K a') : o.quiet Try.prog a (InS S) K := by
  refine ⟨u, fun w _ => ?_, by rw [hd, ha]; exact hk⟩
  have e : (execOp a.eval o).run Try.prog w = .ok (.value u) w := by
    have hm2 := hm w
    unfold execOp
    rw [h]
    simp only [Sem.run_bind, Sem.run_pure] at hm2 ⊢
    rw [he, he2, hm2]; rfl
  unfold Oper.quietAt
  rw [e]
  exact ⟨rfl, rfl⟩
end Go.Proofs.Ytfldgaiiniknpaa
