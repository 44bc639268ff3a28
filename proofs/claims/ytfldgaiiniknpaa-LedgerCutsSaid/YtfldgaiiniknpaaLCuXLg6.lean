
/- Structs by value: loads and stores of many cells in a block. The walk of ledger's GetCommit. -/
import Derived.Test.YtfldgaiiniknpaaLCuXLg5
import Derived.Test.YtfldgaiiniknpaaLCub
import Derived.Deep.MidRow
import Derived.Laws.ResultCell
namespace Go.Proofs.Ytfldgaiiniknpaa
open Go.RowKit

theorem splice_cons {α : Type} (cs : List α) (o : Nat) (v : α) (r : List α) (h : o + (r.length + 1) ≤ cs.length) : splice (cs.set o v) (o + 1) r = splice cs o (v :: r) := by
  simp only [splice]
  have h1 : (cs.set o v).take (o + 1) = cs.take o ++ [v] := by
    rw [List.take_add_one, List.getElem?_set_self (by omega)]
    simp [List.take_set]
    rw [List.set_eq_of_length_le (by rw [List.length_take]; omega)]
  have h2 : (cs.set o v).drop (o + 1 + r.length) = cs.drop (o + (r.length + 1)) := by
    rw [List.drop_set_of_lt (by omega), Nat.add_assoc, Nat.add_comm 1]
  rw [h1, h2]
  simp
theorem Blk.setCells {b : Nat} {T : TypeId} : ∀ (ds : List Value) (cs : List Value) (o : Nat) (w : World), Blk w b cs T → o + ds.length ≤ cs.length → Blk (w.setCells b o ds) b (splice cs o ds) T
  | [], cs, o, w, h, _ => by rw [splice_nil]; exact h
  | v :: r, cs, o, w, h, hl => by
    rw [← splice_cons cs o v r (by simpa using hl)]
    exact Blk.setCells r (cs.set o v) (o + 1) _ (h.set o v) (by rw [List.length_set]; simp at hl; omega)
theorem keeps_setCells {b : Nat} : ∀ (ds : List Value) (o : Nat) (w : World), Keeps (fun k => k = b) w (w.setCells b o ds)
  | [], _, w => Keeps.refl _ _
  | v :: r, o, w => ((Keeps.refl (fun k => k = b) w).setCell ⟨b, o, none⟩ v (fun _ => rfl)).trans (keeps_setCells r (o + 1) _) (fun _ h => h) (fun _ _ h => h)
theorem blk_range {w : World} {b o : Nat} {cs ds : List Value} {T : TypeId} (h : Blk w b cs T) (hd : ∀ j v, ds[j]? = some v → cs[o + j]? = some v) : w.rangeAt b o ds := fun j v hv => h.cellD (o + j) v (hd j v hv)
theorem blk_there {w : World} {b o n : Nat} {cs : List Value} {T : TypeId} (h : Blk w b cs T) (hn : o + n ≤ cs.length) : w.there b o n := fun j hj => ⟨by rw [h.cell, List.getElem?_eq_getElem (by omega)]; rfl, h.frozen _⟩
section
variable {ops : Array Oper} {rest : List Oper} {op : Oper} {a : Act} {w : World} {Q : Exit → Act → World → Prop}
theorem wpList_load_blk {b o : Nat} {cs ds : List Value} {T ty : TypeId} {d : TypeDesc} {x : Operand} (h : Blk w b cs T) (hd : ∀ j v, ds[j]? = some v → cs[o + j]? = some v) (hgd : op.guard = none) (ho : op.op = .load ty x) (hx : a.eval x = .pointer (some ⟨b, o, none⟩))
    (hu : (Try.prog).underlying ty = some d) (hr : d.isRow = true) (hi : ((Try.prog).info? ty).map (·.size) = some ds.length) (hn : wpList Try.prog ops Q rest (a.put op.dst (.agg ds.toArray)) w) : wpList Try.prog ops Q (op :: rest) a w :=
  wpList_load_mid hgd ty x ho b o hx ds d (blk_range h hd) hu hr hi hn
theorem wpList_store_blk {b o : Nat} {cs ds : List Value} {T ty : TypeId} {x y : Operand} (h : Blk w b cs T) (hl : o + ds.length ≤ cs.length) (h1 : ∀ v ∈ ds, v.oneCell' = true) (hgd : op.guard = none) (ho : op.op = .store ty x y) (hx : a.eval x = .pointer (some ⟨b, o, none⟩)) (hy : a.eval y = .agg ds.toArray)
    (hi : ((Try.prog).info? ty).map (·.size) = some ds.length) (hn : ∀ w', Blk w' b (splice cs o ds) T → Keeps (fun k => k = b) w w' → wpList Try.prog ops Q rest (a.put op.dst undef) w') : wpList Try.prog ops Q (op :: rest) a w :=
  wpList_store_mid hgd ty x y ho b o ds.toArray hx hy (by simpa using blk_there h hl) (by simpa using hi) (all_oneCell_toArray h1) (hn _ (Blk.setCells ds cs o w h hl) (keeps_setCells ds o w))
end
theorem splice_all {α : Type} {cs ds : List α} (h : cs.length = ds.length) : splice cs 0 ds = ds := by simp [splice, h]
theorem quiet_load {S : World → Prop} {a a' : Act} {o : Oper} {K : Act → Prop} {t : TypeId} {x : Operand} {v u : Value} {d : Nat}
    (hm : ∀ x : Memb S, (Instr.loadAt t v).run Try.prog x.at_ = .ok u x.at_) (h : o.op = .load t x) (hd : o.dst = some d) (he : a.eval x = v) (ha : a.put (some d) u = a') (hk : K a') : o.quiet Try.prog a (InS S) K := by
  refine ⟨u, fun w hw => ?_, by rw [hd, ha]; exact hk⟩
  obtain ⟨y, rfl⟩ := hw
  have e : (execOp a.eval o).run Try.prog y.at_ = .ok (.value u) y.at_ := by
    unfold execOp
    rw [h]
    simp only [Sem.run_bind, Sem.run_pure]
    rw [he, hm y]; rfl
  unfold Oper.quietAt
  rw [e]
  exact ⟨rfl, rfl⟩
theorem quiet_arr {S : World → Prop} {a a' : Act} {o : Oper} {K : Act → Prop} {t : TypeId} {x : Operand} {v u : Value} {d : Nat}
    (hm : ∀ x : Memb S, (Instr.arrayAt t v).run Try.prog x.at_ = .ok u x.at_) (h : o.op = .sliceToArrayPointer t x) (hd : o.dst = some d) (he : a.eval x = v) (ha : a.put (some d) u = a') (hk : K a') : o.quiet Try.prog a (InS S) K := by
  refine ⟨u, fun w hw => ?_, by rw [hd, ha]; exact hk⟩
  obtain ⟨y, rfl⟩ := hw
  have e : (execOp a.eval o).run Try.prog y.at_ = .ok (.value u) y.at_ := by
    unfold execOp
    rw [h]
    simp only [Sem.run_bind, Sem.run_pure]
    rw [he, hm y]; rfl
  unfold Oper.quietAt
  rw [e]
  exact ⟨rfl, rfl⟩
theorem fold_sets (off : Nat) : ∀ (ds : List Value) (n : Nat) (cs : Array Value), (off + n) + ds.length ≤ cs.size → ((ds.zipIdx n).foldl (fun cs (x : Value × Nat) => cs.setIfInBounds (off + x.2) x.1) cs).toList = splice cs.toList (off + n) ds
  | [], n, cs, _ => by simp [splice_nil]
  | v :: ds, n, cs, h => by
    simp only [List.length_cons] at h
    rw [List.zipIdx_cons, List.foldl_cons, fold_sets off ds (n + 1) _ (by simp; omega)]
    simp only [Array.toList_setIfInBounds]
    rw [show off + (n + 1) = off + n + 1 by omega]
    exact splice_cons cs.toList (off + n) v ds (by simp; omega)
theorem fill_splice {place : Nat → Option (Nat × Nat)} {cs : List Value} {i off size : Nat} {v : Value} {ds : List Value} {rest : List (Nat × Value)} (hp : place i = some (off, size)) (hv : v.cells = ds.toArray) (hs : ds.length = size) (hl : off + size ≤ cs.length) :
    Instr.fill place cs.toArray ((i, v) :: rest) = Instr.fill place (splice cs off ds).toArray rest := by
  conv => lhs; unfold Instr.fill
  rw [hp]
  simp only [hv, List.size_toArray]
  rw [if_neg (by simp; omega)]
  have h := fold_sets off ds 0 cs.toArray (by simp; omega)
  congr 1
  apply Array.ext'
  rw [Nat.add_zero] at h
  rw [← h]
  rw [← Array.toList_zipIdx]
  simp
theorem quiet_build {S : World → Prop} {a a' : Act} {o : Oper} {K : Act → Prop} {t : TypeId} {ps : Array (Nat × Operand)} {vs : Array (Nat × Value)} {cells : Array Value} {d : Nat}
    (hm : (Try.prog).built t vs.toList = some cells) (h : o.op = .build t ps) (hd : o.dst = some d) (he : (ps.map fun (i, x) => (i, a.eval x)) = vs) (ha : a.put (some d) (.agg cells) = a') (hk : K a') : o.quiet Try.prog a (InS S) K := by
  refine ⟨.agg cells, fun w _ => ?_, by rw [hd, ha]; exact hk⟩
  have e : (execOp a.eval o).run Try.prog w = .ok (.value (.agg cells)) w := by
    unfold execOp
    rw [h]
    simp only [Sem.run_bind, Sem.run_pure]
    rw [he, run_build w t vs cells hm]; rfl
  unfold Oper.quietAt
  rw [e]
  exact ⟨rfl, rfl⟩
theorem built_com0 (parts : List (Nat × Value)) : (Try.prog).built 25 parts = Instr.fill (fun x => [(0, 1), (1, 1), (2, 1), (3, 1), (4, 64)].toArray[x]?) com0.cs.toArray parts := by kernel_rfl
theorem built_com (c : Com) (h : c.me.length = 64) : (Try.prog).built 25 [(0, .int .i64 c.slot), (1, .int .u64 (c.ver : Int)), (2, .int .u64 (c.fl : Int)), (3, .int .i64 c.len), (4, .agg (c.me.map (.int .u8)).toArray)] = some c.cs.toArray := by
  rw [built_com0]
  have e : com0.cs = .int .i64 0 :: .int .u64 0 :: .int .u64 0 :: .int .i64 0 :: List.replicate 64 (.int .u8 0) := rfl
  rw [e, fill_splice (off := 0) (size := 1) (ds := [.int .i64 c.slot]) rfl rfl rfl (by simp), fill_splice (off := 1) (size := 1) (ds := [.int .u64 (c.ver : Int)]) rfl rfl rfl (by simp [splice]), fill_splice (off := 2) (size := 1) (ds := [.int .u64 (c.fl : Int)]) rfl rfl rfl (by simp [splice]),
    fill_splice (off := 3) (size := 1) (ds := [.int .i64 c.len]) rfl rfl rfl (by simp [splice]), fill_splice (off := 4) (size := 64) (ds := c.me.map (.int .u8)) rfl rfl (by simp [h]) (by simp [splice])]
  unfold Instr.fill
  congr 2
  simp [splice, Com.cs, h]
theorem run_arr {t e : TypeId} {n : Nat} {a : Option Addr} {len cap : Nat} (hu : (Try.prog).underlying t = some (.array n e)) (hl : n ≤ len) (w : World) : (Instr.arrayAt t (.slice a len cap)).run Try.prog w = .ok (.pointer a) w := by
  simp [Instr.arrayAt, Sem.run_bind, run_underlying hu, Nat.not_lt.2 hl]
theorem com_size : (Try.prog.info? 25).map (·.size) = some 68 := by kernel_rfl
theorem a64_size : (Try.prog.info? 23).map (·.size) = some 64 := by kernel_rfl
theorem Com.cs_one (c : Com) : ∀ v ∈ c.cs, v.oneCell' = true := by
  intro v hv
  simp only [Com.cs, List.mem_cons, List.mem_map] at hv
  rcases hv with rfl | rfl | rfl | rfl | ⟨z, -, rfl⟩ <;> rfl
theorem cell_res {fn : Func} {ty : TypeId} {d : TypeDesc} {p u : Tmp} (hr : fn.results = #[.cell p ty, .tmp u]) (tmps : Array Value) {w : World} {g : Nat} {cs : List Value} {T : TypeId} {v : Value} (h : Blk w g cs T)
    (hu : (Try.prog).underlying ty = some d) (hd : d.isRow = true) (hi : ((Try.prog).info? ty).map (·.size) = some cs.length) (h2 : tmps.getD p undef = .pointer (some ⟨g, 0, none⟩)) (h3 : tmps.getD u undef = v) :
    (results fn tmps).run Try.prog w = .ok (.tuple #[.agg cs.toArray, v]) w := by
  rw [results_cell_tmp hr, h2, h3]
  have e : (asAddr (.pointer (some ⟨g, 0, none⟩))).run Try.prog w = .ok ⟨g, 0, none⟩ w := rfl
  rw [e]
  simp only [Result.andThen]
  rw [run_loadVar_mid w g 0 ty cs d (blk_range h (fun j v hv => by rw [Nat.zero_add]; exact hv)) hu hd hi]
theorem com_zero : Try.zeroCells25 = com0.cs.toArray := by kernel_rfl
set_option maxRecDepth 100000 in
set_option maxHeartbeats 6400000 in
theorem lggetc_any (A : Option Addr) (n cap : Nat) (zs : List Int) (w : World) (h : Bs w A n cap zs) :
    Calls Try.prog 8 #[.slice A n cap] w fun e w' => e = .returned (.tuple #[(getCom zs).1.v, .bool (getCom zs).2]) ∧ Keeps None w w' := by
  have hle := h.le
  have hmx := h.max
  by_cases hn : n = 96
  case neg =>
    have d1 : ((n : Int) != 96) = true := by simp; omega
    have GN : Hid (getCom zs = (com0, false)) := if_neg (fun hh => hn (by rw [← h.len, hh.1]))
    clear h
    go_enter Try.func8, Try.ntmps8
    have NW := Lib.hid (Blk.new w com0.cs 25)
    have KW : Hid (Keeps None w (w.alloc (.cells com0.cs.toArray 25))) := (Keeps.refl None w).alloc _
    rw [← com_zero] at NW KW
    go_wp2_with (refine wpList_store_blk (b := w.heap.size) (o := 0) (ds := com0.cs) NW.out (by decide) (Com.cs_one _) rfl rfl rfl (by rw [← com_zero]; rfl) com_size ?_)
    intro w' hb hk
    rw [splice_all rfl] at hb
    have HB := Lib.hid hb
    have HK := Lib.hid (KW.out.trans hk (T := None) (fun _ h => h) (fun b hb e => absurd e (by omega)))
    clear hb hk NW KW
    go_wp2
    refine bodyPost_ret (cell_res rfl _ HB.out Try.underlying25 rfl com_size rfl rfl) rfl ?_
    exact ⟨by rw [GN.out]; rfl, HK.out⟩
  subst hn
  have HZ := Lib.hid h
  have HL := Lib.hid h.len
  obtain ⟨gb, off, rfl, hgb, hcel⟩ := h.at_ (by decide)
  have z0 := hcel 0 (by decide)
  have a0 := h.byte (zs.getD 0 0) (getD_mem 0 (by rw [h.len]; decide))
  obtain ⟨c0, hc0⟩ : ∃ c : Nat, zs.getD 0 0 = c := ⟨(zs.getD 0 0).toNat, by omega⟩
  have HC0 := Lib.hid hc0
  rw [hc0] at z0 a0
  have V1 := Lib.hid (fun w h => lgvalue_any (some ⟨gb, off + 8, none⟩) (96 - 8) (cap - 8) (zs.drop 8) w h (by decide))
  have V2 := Lib.hid (fun w h => lgvalue_any (some ⟨gb, off + 16, none⟩) (96 - 16) (cap - 16) (zs.drop 16) w h (by decide))
  have V3 := Lib.hid (fun w h => lgsmall_any (some ⟨gb, off + 24, none⟩) (96 - 24) (cap - 24) (zs.drop 24) w h (by decide))
  rw [show numN ((zs.drop 8).take 8) = part8 zs 8 from rfl] at V1
  rw [show numN ((zs.drop 16).take 8) = part8 zs 16 from rfl] at V2
  rw [show numN ((zs.drop 24).take 8) = part8 zs 24 from rfl] at V3
  have LM : Hid (∀ w', Keeps None w w' → (Instr.loadAt 23 (.pointer (some ⟨gb, off + 32, none⟩))).run Try.prog w' = .ok (.agg ((zs.drop 32).map (.int .u8)).toArray) w') := fun w' k => by
    refine run_loadAt_mid w' gb (off + 32) 23 ((zs.drop 32).map (.int .u8)) _ (fun j v hv => ?_) Try.underlying23 rfl (by rw [List.length_map, List.length_drop, HL.out]; exact a64_size)
    rw [List.getElem?_map, List.getElem?_drop] at hv
    obtain ⟨z, hz, rfl⟩ := Option.map_eq_some_iff.1 hv
    have hj := (List.getElem?_eq_some_iff.1 hz).1
    rw [HL.out] at hj
    have := ((HZ.out.keeps k (fun _ _ _ _ _ h => h)).at_ (by decide))
    obtain ⟨b', o', e', -, hc⟩ := this
    cases e'
    rw [show off + 32 + j = off + (32 + j) by omega, hc (32 + j) hj, List.getD_eq_getElem?_getD, hz]
    rfl
  clear h hcel hc0
  go_enter Try.func8, Try.ntmps8
  go_wp2
  obtain ⟨wb, hwb⟩ : ∃ x, w.alloc (.cells Try.zeroCells25 25) = x := ⟨_, rfl⟩
  have RB : Hid (Blk wb w.heap.size com0.cs 25) := by rw [← hwb, com_zero]; exact Blk.new w com0.cs 25
  have KB : Hid (Keeps None w wb) := by rw [← hwb]; exact (Keeps.refl None w).alloc _
  rw [hwb]
  clear hwb
  rw [Nat.add_zero] at z0
  have CB : Hid (∀ w2, Keeps None wb w2 → w2.cell? ⟨gb, off, none⟩ = some (.int .u8 (c0 : Int)) ∧ (Instr.loadAt 23 (.pointer (some ⟨gb, off + 32, none⟩))).run Try.prog w2 = .ok (.agg ((zs.drop 32).map (.int .u8)).toArray) w2 ∧ Bs w2 (some ⟨gb, off, none⟩) 96 cap zs) := fun w2 k =>
    have k2 := KB.out.trans k (T := None) (fun _ h => h) (fun _ _ h => h)
    ⟨(k2.cell hgb (fun h => h)).trans z0, LM.out w2 k2, HZ.out.keeps k2 (fun _ _ _ _ _ h => h)⟩
  have KR := Lib.hid (Keeps.refl None wb)
  clear z0 LM
  have AR := Lib.hid (fun w => run_arr (a := some ⟨gb, off + 32, none⟩) (len := 64) (cap := cap - 32) Try.underlying23 (by decide) w)
  have KC : Hid (Keeps None wb wb.drew) := (Keeps.refl None wb).drew
  obtain ⟨C, hC⟩ : ∃ C : Com, (⟨(c0 : Int), part8 zs 8, part8 zs 16, smallN (part8 zs 24), zs.drop 32⟩ : Com) = C := ⟨_, rfl⟩
  have HCC : Hid (C = comP zs) := by show C = _; rw [← hC, ← HC0.out]; rfl
  have BU : Hid ((Try.prog).built 25 #[(0, .int .i64 (c0 : Int)), (1, .int .u64 (part8 zs 8 : Int)), (2, .int .u64 (part8 zs 16 : Int)), (3, .int .i64 (smallN (part8 zs 24))), (4, .agg ((zs.drop 32).map (.int .u8)).toArray)].toList = some C.cs.toArray) := by rw [← hC]; exact built_com ⟨(c0 : Int), part8 zs 8, part8 zs 16, smallN (part8 zs 24), zs.drop 32⟩ (by show (zs.drop 32).length = 64; rw [List.length_drop, HL.out])
  have CL : Hid (C.cs.length = 68) := by show _ = _; rw [HCC.out]; exact Com.cs_len (comP_ok HZ.out.byte HL.out)
  have PUT : Hid (∀ w, Calls Try.prog 12 #[.agg C.cs.toArray] w (Cloned w (comL C))) := fun w => lgputc_any C (by rw [HCC.out]; exact comP_ok HZ.out.byte HL.out) w
  have GC : Hid (getCom zs = if comL C = zs then (C, true) else (com0, false)) := by
    show getCom zs = _
    rw [HCC.out]
    unfold getCom
    rw [HL.out]
    simp
  clear hC
  obtain ⟨mS, mh⟩ : ∃ S : World → Prop, ∀ w', S w' ↔ (w'.cell? ⟨gb, off, none⟩ = some (.int .u8 (c0 : Int)) ∧ ((Instr.arrayAt 23 (.slice (some ⟨gb, off + 32, none⟩) 64 (cap - 32))).run Try.prog w' = .ok (.pointer (some ⟨gb, off + 32, none⟩)) w') ∧ ((Instr.loadAt 23 (.pointer (some ⟨gb, off + 32, none⟩))).run Try.prog w' = .ok (.agg ((zs.drop 32).map (.int .u8)).toArray) w')) := ⟨_, fun _ => Iff.rfl⟩
  have mk0 : ∀ x : Memb mS, x.at_.cell? ⟨gb, off, none⟩ = some (.int .u8 (c0 : Int)) := fun x => ((mh _).1 x.is).1
  have mk1 : ∀ x : Memb mS, (Instr.arrayAt 23 (.slice (some ⟨gb, off + 32, none⟩) 64 (cap - 32))).run Try.prog x.at_ = .ok (.pointer (some ⟨gb, off + 32, none⟩)) x.at_ := fun x => ((mh _).1 x.is).2.1
  have mk2 : ∀ x : Memb mS, (Instr.loadAt 23 (.pointer (some ⟨gb, off + 32, none⟩))).run Try.prog x.at_ = .ok (.agg ((zs.drop 32).map (.int .u8)).toArray) x.at_ := fun x => ((mh _).1 x.is).2.2
  have mn : Nonempty (Memb mS) := ⟨⟨(wb).drew, (mh _).2 ⟨(CB.out _ KR.out.drew).1, AR.out _, (CB.out _ KR.out.drew).2.1⟩⟩⟩
  have mH := Lib.hid mh
  clear mh
  refine wp_region_mixT [6, 9, 12, 18, 19] (InS mS) 3 20 (by kernel_rfl) (by kernel_rfl) (by kernel_rfl) (by kernel_rfl) (InS.mk ((mH.out _).2 ⟨(CB.out _ KR.out.drew).1, AR.out _, (CB.out _ KR.out.drew).2.1⟩)) ?_
  refine wpT_node2 (us := [(0, 20)]) [(4, 3)] [(0, 4), (7, 13)] [(18, 1)] [(0, 18), (19, 1)] (by kernel_rfl) ?_ ?_
  ·
    refine wpPs_cons ?_
    try simp only [List.take_succ_cons, List.take_zero, List.drop_succ_cons, List.drop_zero, Nat.reduceSub]
    refine wpMix_seg 2 (by kernel_rfl) (by decide) ?_
    simp only [List.take_succ_cons, List.take_zero, List.drop_succ_cons, List.drop_zero, Nat.reduceSub]
    repeat (first | go_big_quiet_step (fail) | (go_big_quiet_want; first | refine quiet_arr mk1 rfl rfl rfl (by simp only [Act.put, List.setIfInBounds_toArray, List.set_cons_succ, List.set_cons_zero]; rfl) ?_; go_big_quiet_on | refine quiet_load mk2 rfl rfl rfl (by simp only [Act.put, List.setIfInBounds_toArray, List.set_cons_succ, List.set_cons_zero]; rfl) ?_; go_big_quiet_on | refine quiet_build BU.out rfl rfl (by simp [Act.eval]) (by simp only [Act.put, List.setIfInBounds_toArray, List.set_cons_succ, List.set_cons_zero]; rfl) ?_; go_big_quiet_on))
    refine wpQuiet_nil ?_
    refine wpMix_eff (by kernel_rfl) ?_
    go_wp2_with fail
    refine (V1.out _ ((CB.out _ KC.out).2.2.drop (by decide))).mono ?_
    rintro e w' ⟨rfl, rfl⟩
    go_wp2
    refine MixK.on (InS.mk ((mH.out _).2 (⟨(CB.out _ KC.out).1, AR.out _, (CB.out _ KC.out).2.1⟩))) ?_
    refine wpMix_nil ?_
    refine wpPs_nil ?_
    refine wpT_node2 (us := [(0, 4), (7, 13)]) [(7, 3)] [(0, 4), (10, 10)] [(18, 1)] [(0, 4), (7, 11), (19, 1)] (by kernel_rfl) ?_ ?_
    ·
      refine wpPs_cons ?_
      try simp only [List.take_succ_cons, List.take_zero, List.drop_succ_cons, List.drop_zero, Nat.reduceSub]
      refine wpMix_seg 2 (by kernel_rfl) (by decide) ?_
      simp only [List.take_succ_cons, List.take_zero, List.drop_succ_cons, List.drop_zero, Nat.reduceSub]
      repeat (first | go_big_quiet_step (fail) | (go_big_quiet_want; first | refine quiet_arr mk1 rfl rfl rfl (by simp only [Act.put, List.setIfInBounds_toArray, List.set_cons_succ, List.set_cons_zero]; rfl) ?_; go_big_quiet_on | refine quiet_load mk2 rfl rfl rfl (by simp only [Act.put, List.setIfInBounds_toArray, List.set_cons_succ, List.set_cons_zero]; rfl) ?_; go_big_quiet_on | refine quiet_build BU.out rfl rfl (by simp [Act.eval]) (by simp only [Act.put, List.setIfInBounds_toArray, List.set_cons_succ, List.set_cons_zero]; rfl) ?_; go_big_quiet_on))
      refine wpQuiet_nil ?_
      refine wpMix_eff (by kernel_rfl) ?_
      go_wp2_with fail
      refine (V2.out _ ((CB.out _ KC.out).2.2.drop (by decide))).mono ?_
      rintro e w' ⟨rfl, rfl⟩
      go_wp2
      refine MixK.on (InS.mk ((mH.out _).2 (⟨(CB.out _ KC.out).1, AR.out _, (CB.out _ KC.out).2.1⟩))) ?_
      refine wpMix_nil ?_
      refine wpPs_nil ?_
      refine wpT_node2 (us := [(0, 4), (10, 10)]) [(10, 3)] [(0, 4), (13, 7)] [(18, 1)] [(0, 4), (10, 8), (19, 1)] (by kernel_rfl) ?_ ?_
      ·
        refine wpPs_cons ?_
        try simp only [List.take_succ_cons, List.take_zero, List.drop_succ_cons, List.drop_zero, Nat.reduceSub]
        refine wpMix_seg 2 (by kernel_rfl) (by decide) ?_
        simp only [List.take_succ_cons, List.take_zero, List.drop_succ_cons, List.drop_zero, Nat.reduceSub]
        repeat (first | go_big_quiet_step (fail) | (go_big_quiet_want; first | refine quiet_arr mk1 rfl rfl rfl (by simp only [Act.put, List.setIfInBounds_toArray, List.set_cons_succ, List.set_cons_zero]; rfl) ?_; go_big_quiet_on | refine quiet_load mk2 rfl rfl rfl (by simp only [Act.put, List.setIfInBounds_toArray, List.set_cons_succ, List.set_cons_zero]; rfl) ?_; go_big_quiet_on | refine quiet_build BU.out rfl rfl (by simp [Act.eval]) (by simp only [Act.put, List.setIfInBounds_toArray, List.set_cons_succ, List.set_cons_zero]; rfl) ?_; go_big_quiet_on))
        refine wpQuiet_nil ?_
        refine wpMix_eff (by kernel_rfl) ?_
        go_wp2_with fail
        refine (V3.out _ ((CB.out _ KC.out).2.2.drop (by decide))).mono ?_
        rintro e w' ⟨rfl, rfl⟩
        go_wp2
        refine MixK.on (InS.mk ((mH.out _).2 (⟨(CB.out _ KC.out).1, AR.out _, (CB.out _ KC.out).2.1⟩))) ?_
        refine wpMix_nil ?_
        refine wpPs_nil ?_
        refine wpT_leaf (ps := [(0, 4), (13, 7)]) (by kernel_rfl) ?_
        refine wpPs_cons ?_
        try simp only [List.take_succ_cons, List.take_zero, List.drop_succ_cons, List.drop_zero, Nat.reduceSub]
        refine wpMix_seg 4 (by kernel_rfl) (by decide) ?_
        simp only [List.take_succ_cons, List.take_zero, List.drop_succ_cons, List.drop_zero, Nat.reduceSub]
        repeat (first | go_big_quiet_step (fail) | (go_big_quiet_want; first | refine quiet_arr mk1 rfl rfl rfl (by simp only [Act.put, List.setIfInBounds_toArray, List.set_cons_succ, List.set_cons_zero]; rfl) ?_; go_big_quiet_on | refine quiet_load mk2 rfl rfl rfl (by simp only [Act.put, List.setIfInBounds_toArray, List.set_cons_succ, List.set_cons_zero]; rfl) ?_; go_big_quiet_on | refine quiet_build BU.out rfl rfl (by simp [Act.eval]) (by simp only [Act.put, List.setIfInBounds_toArray, List.set_cons_succ, List.set_cons_zero]; rfl) ?_; go_big_quiet_on))
        refine wpQuiet_nil ?_
        refine wpMix_nil ?_
        refine wpPs_cons ?_
        try simp only [List.take_succ_cons, List.take_zero, List.drop_succ_cons, List.drop_zero, Nat.reduceSub]
        refine wpMix_seg 5 (by kernel_rfl) (by decide) ?_
        simp only [List.take_succ_cons, List.take_zero, List.drop_succ_cons, List.drop_zero, Nat.reduceSub]
        repeat (first | go_big_quiet_step (fail) | (go_big_quiet_want; first | refine quiet_arr mk1 rfl rfl rfl (by simp only [Act.put, List.setIfInBounds_toArray, List.set_cons_succ, List.set_cons_zero]; rfl) ?_; go_big_quiet_on | refine quiet_load mk2 rfl rfl rfl (by simp only [Act.put, List.setIfInBounds_toArray, List.set_cons_succ, List.set_cons_zero]; rfl) ?_; go_big_quiet_on | refine quiet_build BU.out rfl rfl (by simp [Act.eval]) (by simp only [Act.put, List.setIfInBounds_toArray, List.set_cons_succ, List.set_cons_zero]; rfl) ?_; go_big_quiet_on))
        refine wpQuiet_nil ?_
        refine wpMix_eff (by kernel_rfl) ?_
        go_wp2
        first | (refine Exists.elim (⟨_, rfl⟩ : ∃ x, wb.drew.alloc (.cells Try.zeroCells25 25) = x) fun wy hwy => ?_; rw [hwy]) | (refine Exists.elim (⟨_, rfl⟩ : ∃ x, (wb.alloc (.cells Try.zeroCells25 25)).drew = x) fun wy hwy => ?_; rw [hwy])
        have NB : Hid (Blk wy wb.heap.size com0.cs 25) := by rw [← hwy, com_zero]; first | exact Blk.new wb.drew com0.cs 25 | exact (Blk.new wb com0.cs 25).drew
        have KD : Hid (Keeps None wb wy) := by rw [← hwy]; first | exact KC.out.alloc _ | exact ((Keeps.refl None wb).alloc _).drew
        clear KC hwy
        have KC := KD
        clear KD
        refine MixK.on (InS.mk ((mH.out _).2 (⟨(CB.out _ KC.out).1, AR.out _, (CB.out _ KC.out).2.1⟩))) ?_
        refine wpMix_eff (by kernel_rfl) ?_
        go_wp2_with (refine wpList_store_blk (b := wb.heap.size) (o := 0) (ds := C.cs) NB.out (by rw [CL.out]; decide) (Com.cs_one _) rfl rfl rfl rfl (by rw [CL.out]; exact com_size) ?_)
        intro w3 b3 k3
        rw [splice_all (by rw [CL.out]; rfl)] at b3
        have N3 := Lib.hid b3
        have K3 : Hid (Keeps None wb w3) := KC.out.trans k3 (fun _ h => h) (fun b hb e => absurd e (by omega))
        have R3 : Hid (Blk w3 w.heap.size com0.cs 25) := K3.out.blk RB.out (fun h => h)
        clear b3 k3 NB KC
        go_wp2
        refine MixK.on (InS.mk ((mH.out _).2 (⟨(CB.out _ K3.out).1, AR.out _, (CB.out _ K3.out).2.1⟩))) ?_
        refine wpMix_nil ?_
        refine wpPs_nil ?_
        clear mk0 mk1 mk2 mn mH
        go_wp2_with (refine wpList_load_blk (b := wb.heap.size) (o := 0) (ds := C.cs) N3.out (fun j v hv => by rw [Nat.zero_add]; exact hv) rfl rfl rfl Try.underlying25 rfl (by rw [CL.out]; exact com_size) ?_)
        go_wp2_with fail
        refine (PUT.out _).mono ?_
        rintro e w4 ⟨v4, rfl, o4, k4⟩
        obtain ⟨A4, c4, rfl, bs4, -⟩ := o4.shape
        have K4 := Lib.hid (K3.out.trans k4 (T := None) (fun _ h => h) (fun _ _ h => h))
        have N4 := Lib.hid (k4.blk N3.out (fun h => h))
        have R4 := Lib.hid (k4.blk R3.out (fun h => h))
        have EQ := Lib.hid (bequal_any _ _ _ _ _ _ _ _ w4 bs4 (CB.out _ K4.out).2.2)
        clear o4 k4 bs4 K3 N3 R3
        go_wp2_with fail
        refine EQ.out.mono ?_
        rintro e w5 ⟨rfl, rfl⟩
        by_cases hq : comL C = zs
        · rw [decide_eq_true hq]
          rw [if_pos hq] at GC
          clear EQ
          go_wp2_with (first | (refine wpList_load_blk (b := wb.heap.size) (o := 0) (ds := C.cs) N4.out (fun j v hv => by rw [Nat.zero_add]; exact hv) rfl rfl rfl Try.underlying25 rfl (by rw [CL.out]; exact com_size) ?_) | (refine wpList_store_blk (b := w.heap.size) (o := 0) (ds := C.cs) R4.out (by rw [CL.out]; decide) (Com.cs_one _) rfl rfl rfl rfl (by rw [CL.out]; exact com_size) ?_))
          intro w6 b6 k6
          rw [splice_all (by rw [CL.out]; rfl)] at b6
          have B6 := Lib.hid b6
          have K6 := Lib.hid ((KB.out.trans K4.out (T := None) (fun _ h => h) (fun _ _ h => h)).trans k6 (T := None) (fun _ h => h) (fun b hb e => absurd e (by omega)))
          clear b6 k6 N4 R4 K4
          go_wp2
          refine bodyPost_ret (cell_res rfl _ B6.out Try.underlying25 rfl (by rw [CL.out]; exact com_size) rfl rfl) rfl ?_
          exact ⟨by rw [GC.out]; rfl, K6.out⟩
        · rw [decide_eq_false hq]
          rw [if_neg hq] at GC
          clear EQ
          go_wp2_with (refine wpList_store_blk (b := w.heap.size) (o := 0) (ds := com0.cs) R4.out (by decide) (Com.cs_one _) rfl rfl rfl (by rw [← com_zero]; rfl) com_size ?_)
          intro w6 b6 k6
          rw [splice_all rfl] at b6
          have B6 := Lib.hid b6
          have K6 := Lib.hid ((KB.out.trans K4.out (T := None) (fun _ h => h) (fun _ _ h => h)).trans k6 (T := None) (fun _ h => h) (fun b hb e => absurd e (by omega)))
          clear b6 k6 N4 R4 K4
          go_wp2
          refine bodyPost_ret (cell_res rfl _ B6.out Try.underlying25 rfl com_size rfl rfl) rfl ?_
          exact ⟨by rw [GC.out]; rfl, K6.out⟩
      ·
        refine wpPs_cons ?_
        try simp only [List.take_succ_cons, List.take_zero, List.drop_succ_cons, List.drop_zero, Nat.reduceSub]
        refine wpMix_eff (by kernel_rfl) ?_
        go_wp2
        first | (refine Exists.elim (⟨_, rfl⟩ : ∃ x, wb.drew.alloc (.cells Try.zeroCells25 25) = x) fun wy hwy => ?_; rw [hwy]) | (refine Exists.elim (⟨_, rfl⟩ : ∃ x, (wb.alloc (.cells Try.zeroCells25 25)).drew = x) fun wy hwy => ?_; rw [hwy])
        have NB : Hid (Blk wy wb.heap.size com0.cs 25) := by rw [← hwy, com_zero]; first | exact Blk.new wb.drew com0.cs 25 | exact (Blk.new wb com0.cs 25).drew
        have KD : Hid (Keeps None wb wy) := by rw [← hwy]; first | exact KC.out.alloc _ | exact ((Keeps.refl None wb).alloc _).drew
        clear KC hwy
        have KC := KD
        clear KD
        refine MixK.on (InS.mk ((mH.out _).2 (⟨(CB.out _ KC.out).1, AR.out _, (CB.out _ KC.out).2.1⟩))) ?_
        refine wpMix_nil ?_
        refine wpPs_nil ?_
        refine wpT_leaf (ps := [(0, 4), (10, 8), (19, 1)]) (by kernel_rfl) ?_
        refine wpPs_cons ?_
        try simp only [List.take_succ_cons, List.take_zero, List.drop_succ_cons, List.drop_zero, Nat.reduceSub]
        refine wpMix_seg 4 (by kernel_rfl) (by decide) ?_
        simp only [List.take_succ_cons, List.take_zero, List.drop_succ_cons, List.drop_zero, Nat.reduceSub]
        repeat (first | go_big_quiet_step (fail) | (go_big_quiet_want; first | refine quiet_arr mk1 rfl rfl rfl (by simp only [Act.put, List.setIfInBounds_toArray, List.set_cons_succ, List.set_cons_zero]; rfl) ?_; go_big_quiet_on | refine quiet_load mk2 rfl rfl rfl (by simp only [Act.put, List.setIfInBounds_toArray, List.set_cons_succ, List.set_cons_zero]; rfl) ?_; go_big_quiet_on | refine quiet_build BU.out rfl rfl (by simp [Act.eval]) (by simp only [Act.put, List.setIfInBounds_toArray, List.set_cons_succ, List.set_cons_zero]; rfl) ?_; go_big_quiet_on))
        refine wpQuiet_nil ?_
        refine wpMix_nil ?_
        refine wpPs_cons ?_
        try simp only [List.take_succ_cons, List.take_zero, List.drop_succ_cons, List.drop_zero, Nat.reduceSub]
        refine wpMix_seg 2 (by kernel_rfl) (by decide) ?_
        simp only [List.take_succ_cons, List.take_zero, List.drop_succ_cons, List.drop_zero, Nat.reduceSub]
        repeat (first | go_big_quiet_step (fail) | (go_big_quiet_want; first | refine quiet_arr mk1 rfl rfl rfl (by simp only [Act.put, List.setIfInBounds_toArray, List.set_cons_succ, List.set_cons_zero]; rfl) ?_; go_big_quiet_on | refine quiet_load mk2 rfl rfl rfl (by simp only [Act.put, List.setIfInBounds_toArray, List.set_cons_succ, List.set_cons_zero]; rfl) ?_; go_big_quiet_on | refine quiet_build BU.out rfl rfl (by simp [Act.eval]) (by simp only [Act.put, List.setIfInBounds_toArray, List.set_cons_succ, List.set_cons_zero]; rfl) ?_; go_big_quiet_on))
        refine wpQuiet_nil ?_
        refine wpMix_eff (by kernel_rfl) ?_
        go_wp2_with fail
        refine (V3.out _ ((CB.out _ KC.out).2.2.drop (by decide))).mono ?_
        rintro e w' ⟨rfl, rfl⟩
        go_wp2
        refine MixK.on (InS.mk ((mH.out _).2 (⟨(CB.out _ KC.out).1, AR.out _, (CB.out _ KC.out).2.1⟩))) ?_
        refine wpMix_seg 5 (by kernel_rfl) (by decide) ?_
        simp only [List.take_succ_cons, List.take_zero, List.drop_succ_cons, List.drop_zero, Nat.reduceSub]
        repeat (first | go_big_quiet_step (fail) | (go_big_quiet_want; first | refine quiet_arr mk1 rfl rfl rfl (by simp only [Act.put, List.setIfInBounds_toArray, List.set_cons_succ, List.set_cons_zero]; rfl) ?_; go_big_quiet_on | refine quiet_load mk2 rfl rfl rfl (by simp only [Act.put, List.setIfInBounds_toArray, List.set_cons_succ, List.set_cons_zero]; rfl) ?_; go_big_quiet_on | refine quiet_build BU.out rfl rfl (by simp [Act.eval]) (by simp only [Act.put, List.setIfInBounds_toArray, List.set_cons_succ, List.set_cons_zero]; rfl) ?_; go_big_quiet_on))
        refine wpQuiet_nil ?_
        refine wpMix_nil ?_
        refine wpPs_cons ?_
        try simp only [List.take_succ_cons, List.take_zero, List.drop_succ_cons, List.drop_zero, Nat.reduceSub]
        refine wpMix_eff (by kernel_rfl) ?_
        go_wp2_with (refine wpList_store_blk (b := wb.heap.size) (o := 0) (ds := C.cs) NB.out (by rw [CL.out]; decide) (Com.cs_one _) rfl rfl rfl rfl (by rw [CL.out]; exact com_size) ?_)
        intro w3 b3 k3
        rw [splice_all (by rw [CL.out]; rfl)] at b3
        have N3 := Lib.hid b3
        have K3 : Hid (Keeps None wb w3) := KC.out.trans k3 (fun _ h => h) (fun b hb e => absurd e (by omega))
        have R3 : Hid (Blk w3 w.heap.size com0.cs 25) := K3.out.blk RB.out (fun h => h)
        clear b3 k3 NB KC
        go_wp2
        refine MixK.on (InS.mk ((mH.out _).2 (⟨(CB.out _ K3.out).1, AR.out _, (CB.out _ K3.out).2.1⟩))) ?_
        refine wpMix_nil ?_
        refine wpPs_nil ?_
        clear mk0 mk1 mk2 mn mH
        go_wp2_with (refine wpList_load_blk (b := wb.heap.size) (o := 0) (ds := C.cs) N3.out (fun j v hv => by rw [Nat.zero_add]; exact hv) rfl rfl rfl Try.underlying25 rfl (by rw [CL.out]; exact com_size) ?_)
        go_wp2_with fail
        refine (PUT.out _).mono ?_
        rintro e w4 ⟨v4, rfl, o4, k4⟩
        obtain ⟨A4, c4, rfl, bs4, -⟩ := o4.shape
        have K4 := Lib.hid (K3.out.trans k4 (T := None) (fun _ h => h) (fun _ _ h => h))
        have N4 := Lib.hid (k4.blk N3.out (fun h => h))
        have R4 := Lib.hid (k4.blk R3.out (fun h => h))
        have EQ := Lib.hid (bequal_any _ _ _ _ _ _ _ _ w4 bs4 (CB.out _ K4.out).2.2)
        clear o4 k4 bs4 K3 N3 R3
        go_wp2_with fail
        refine EQ.out.mono ?_
        rintro e w5 ⟨rfl, rfl⟩
        by_cases hq : comL C = zs
        · rw [decide_eq_true hq]
          rw [if_pos hq] at GC
          clear EQ
          go_wp2_with (first | (refine wpList_load_blk (b := wb.heap.size) (o := 0) (ds := C.cs) N4.out (fun j v hv => by rw [Nat.zero_add]; exact hv) rfl rfl rfl Try.underlying25 rfl (by rw [CL.out]; exact com_size) ?_) | (refine wpList_store_blk (b := w.heap.size) (o := 0) (ds := C.cs) R4.out (by rw [CL.out]; decide) (Com.cs_one _) rfl rfl rfl rfl (by rw [CL.out]; exact com_size) ?_))
          intro w6 b6 k6
          rw [splice_all (by rw [CL.out]; rfl)] at b6
          have B6 := Lib.hid b6
          have K6 := Lib.hid ((KB.out.trans K4.out (T := None) (fun _ h => h) (fun _ _ h => h)).trans k6 (T := None) (fun _ h => h) (fun b hb e => absurd e (by omega)))
          clear b6 k6 N4 R4 K4
          go_wp2
          refine bodyPost_ret (cell_res rfl _ B6.out Try.underlying25 rfl (by rw [CL.out]; exact com_size) rfl rfl) rfl ?_
          exact ⟨by rw [GC.out]; rfl, K6.out⟩
        · rw [decide_eq_false hq]
          rw [if_neg hq] at GC
          clear EQ
          go_wp2_with (refine wpList_store_blk (b := w.heap.size) (o := 0) (ds := com0.cs) R4.out (by decide) (Com.cs_one _) rfl rfl rfl (by rw [← com_zero]; rfl) com_size ?_)
          intro w6 b6 k6
          rw [splice_all rfl] at b6
          have B6 := Lib.hid b6
          have K6 := Lib.hid ((KB.out.trans K4.out (T := None) (fun _ h => h) (fun _ _ h => h)).trans k6 (T := None) (fun _ h => h) (fun b hb e => absurd e (by omega)))
          clear b6 k6 N4 R4 K4
          go_wp2
          refine bodyPost_ret (cell_res rfl _ B6.out Try.underlying25 rfl com_size rfl rfl) rfl ?_
          exact ⟨by rw [GC.out]; rfl, K6.out⟩
    ·
      refine wpPs_cons ?_
      try simp only [List.take_succ_cons, List.take_zero, List.drop_succ_cons, List.drop_zero, Nat.reduceSub]
      refine wpMix_eff (by kernel_rfl) ?_
      go_wp2
      first | (refine Exists.elim (⟨_, rfl⟩ : ∃ x, wb.drew.alloc (.cells Try.zeroCells25 25) = x) fun wy hwy => ?_; rw [hwy]) | (refine Exists.elim (⟨_, rfl⟩ : ∃ x, (wb.alloc (.cells Try.zeroCells25 25)).drew = x) fun wy hwy => ?_; rw [hwy])
      have NB : Hid (Blk wy wb.heap.size com0.cs 25) := by rw [← hwy, com_zero]; first | exact Blk.new wb.drew com0.cs 25 | exact (Blk.new wb com0.cs 25).drew
      have KD : Hid (Keeps None wb wy) := by rw [← hwy]; first | exact KC.out.alloc _ | exact ((Keeps.refl None wb).alloc _).drew
      clear KC hwy
      have KC := KD
      clear KD
      refine MixK.on (InS.mk ((mH.out _).2 (⟨(CB.out _ KC.out).1, AR.out _, (CB.out _ KC.out).2.1⟩))) ?_
      refine wpMix_nil ?_
      refine wpPs_nil ?_
      refine wpT_node1 (us := [(0, 4), (7, 11), (19, 1)]) [(7, 3)] [(0, 4), (10, 8), (19, 1)] (by kernel_rfl) ?_
      ·
        refine wpPs_cons ?_
        try simp only [List.take_succ_cons, List.take_zero, List.drop_succ_cons, List.drop_zero, Nat.reduceSub]
        refine wpMix_seg 2 (by kernel_rfl) (by decide) ?_
        simp only [List.take_succ_cons, List.take_zero, List.drop_succ_cons, List.drop_zero, Nat.reduceSub]
        repeat (first | go_big_quiet_step (fail) | (go_big_quiet_want; first | refine quiet_arr mk1 rfl rfl rfl (by simp only [Act.put, List.setIfInBounds_toArray, List.set_cons_succ, List.set_cons_zero]; rfl) ?_; go_big_quiet_on | refine quiet_load mk2 rfl rfl rfl (by simp only [Act.put, List.setIfInBounds_toArray, List.set_cons_succ, List.set_cons_zero]; rfl) ?_; go_big_quiet_on | refine quiet_build BU.out rfl rfl (by simp [Act.eval]) (by simp only [Act.put, List.setIfInBounds_toArray, List.set_cons_succ, List.set_cons_zero]; rfl) ?_; go_big_quiet_on))
        refine wpQuiet_nil ?_
        refine wpMix_eff (by kernel_rfl) ?_
        go_wp2_with fail
        refine (V2.out _ ((CB.out _ KC.out).2.2.drop (by decide))).mono ?_
        rintro e w' ⟨rfl, rfl⟩
        go_wp2
        refine MixK.on (InS.mk ((mH.out _).2 (⟨(CB.out _ KC.out).1, AR.out _, (CB.out _ KC.out).2.1⟩))) ?_
        refine wpMix_nil ?_
        refine wpPs_nil ?_
        refine wpT_leaf (ps := [(0, 4), (10, 8), (19, 1)]) (by kernel_rfl) ?_
        refine wpPs_cons ?_
        try simp only [List.take_succ_cons, List.take_zero, List.drop_succ_cons, List.drop_zero, Nat.reduceSub]
        refine wpMix_seg 4 (by kernel_rfl) (by decide) ?_
        simp only [List.take_succ_cons, List.take_zero, List.drop_succ_cons, List.drop_zero, Nat.reduceSub]
        repeat (first | go_big_quiet_step (fail) | (go_big_quiet_want; first | refine quiet_arr mk1 rfl rfl rfl (by simp only [Act.put, List.setIfInBounds_toArray, List.set_cons_succ, List.set_cons_zero]; rfl) ?_; go_big_quiet_on | refine quiet_load mk2 rfl rfl rfl (by simp only [Act.put, List.setIfInBounds_toArray, List.set_cons_succ, List.set_cons_zero]; rfl) ?_; go_big_quiet_on | refine quiet_build BU.out rfl rfl (by simp [Act.eval]) (by simp only [Act.put, List.setIfInBounds_toArray, List.set_cons_succ, List.set_cons_zero]; rfl) ?_; go_big_quiet_on))
        refine wpQuiet_nil ?_
        refine wpMix_nil ?_
        refine wpPs_cons ?_
        try simp only [List.take_succ_cons, List.take_zero, List.drop_succ_cons, List.drop_zero, Nat.reduceSub]
        refine wpMix_seg 2 (by kernel_rfl) (by decide) ?_
        simp only [List.take_succ_cons, List.take_zero, List.drop_succ_cons, List.drop_zero, Nat.reduceSub]
        repeat (first | go_big_quiet_step (fail) | (go_big_quiet_want; first | refine quiet_arr mk1 rfl rfl rfl (by simp only [Act.put, List.setIfInBounds_toArray, List.set_cons_succ, List.set_cons_zero]; rfl) ?_; go_big_quiet_on | refine quiet_load mk2 rfl rfl rfl (by simp only [Act.put, List.setIfInBounds_toArray, List.set_cons_succ, List.set_cons_zero]; rfl) ?_; go_big_quiet_on | refine quiet_build BU.out rfl rfl (by simp [Act.eval]) (by simp only [Act.put, List.setIfInBounds_toArray, List.set_cons_succ, List.set_cons_zero]; rfl) ?_; go_big_quiet_on))
        refine wpQuiet_nil ?_
        refine wpMix_eff (by kernel_rfl) ?_
        go_wp2_with fail
        refine (V3.out _ ((CB.out _ KC.out).2.2.drop (by decide))).mono ?_
        rintro e w' ⟨rfl, rfl⟩
        go_wp2
        refine MixK.on (InS.mk ((mH.out _).2 (⟨(CB.out _ KC.out).1, AR.out _, (CB.out _ KC.out).2.1⟩))) ?_
        refine wpMix_seg 5 (by kernel_rfl) (by decide) ?_
        simp only [List.take_succ_cons, List.take_zero, List.drop_succ_cons, List.drop_zero, Nat.reduceSub]
        repeat (first | go_big_quiet_step (fail) | (go_big_quiet_want; first | refine quiet_arr mk1 rfl rfl rfl (by simp only [Act.put, List.setIfInBounds_toArray, List.set_cons_succ, List.set_cons_zero]; rfl) ?_; go_big_quiet_on | refine quiet_load mk2 rfl rfl rfl (by simp only [Act.put, List.setIfInBounds_toArray, List.set_cons_succ, List.set_cons_zero]; rfl) ?_; go_big_quiet_on | refine quiet_build BU.out rfl rfl (by simp [Act.eval]) (by simp only [Act.put, List.setIfInBounds_toArray, List.set_cons_succ, List.set_cons_zero]; rfl) ?_; go_big_quiet_on))
        refine wpQuiet_nil ?_
        refine wpMix_nil ?_
        refine wpPs_cons ?_
        try simp only [List.take_succ_cons, List.take_zero, List.drop_succ_cons, List.drop_zero, Nat.reduceSub]
        refine wpMix_eff (by kernel_rfl) ?_
        go_wp2_with (refine wpList_store_blk (b := wb.heap.size) (o := 0) (ds := C.cs) NB.out (by rw [CL.out]; decide) (Com.cs_one _) rfl rfl rfl rfl (by rw [CL.out]; exact com_size) ?_)
        intro w3 b3 k3
        rw [splice_all (by rw [CL.out]; rfl)] at b3
        have N3 := Lib.hid b3
        have K3 : Hid (Keeps None wb w3) := KC.out.trans k3 (fun _ h => h) (fun b hb e => absurd e (by omega))
        have R3 : Hid (Blk w3 w.heap.size com0.cs 25) := K3.out.blk RB.out (fun h => h)
        clear b3 k3 NB KC
        go_wp2
        refine MixK.on (InS.mk ((mH.out _).2 (⟨(CB.out _ K3.out).1, AR.out _, (CB.out _ K3.out).2.1⟩))) ?_
        refine wpMix_nil ?_
        refine wpPs_nil ?_
        clear mk0 mk1 mk2 mn mH
        go_wp2_with (refine wpList_load_blk (b := wb.heap.size) (o := 0) (ds := C.cs) N3.out (fun j v hv => by rw [Nat.zero_add]; exact hv) rfl rfl rfl Try.underlying25 rfl (by rw [CL.out]; exact com_size) ?_)
        go_wp2_with fail
        refine (PUT.out _).mono ?_
        rintro e w4 ⟨v4, rfl, o4, k4⟩
        obtain ⟨A4, c4, rfl, bs4, -⟩ := o4.shape
        have K4 := Lib.hid (K3.out.trans k4 (T := None) (fun _ h => h) (fun _ _ h => h))
        have N4 := Lib.hid (k4.blk N3.out (fun h => h))
        have R4 := Lib.hid (k4.blk R3.out (fun h => h))
        have EQ := Lib.hid (bequal_any _ _ _ _ _ _ _ _ w4 bs4 (CB.out _ K4.out).2.2)
        clear o4 k4 bs4 K3 N3 R3
        go_wp2_with fail
        refine EQ.out.mono ?_
        rintro e w5 ⟨rfl, rfl⟩
        by_cases hq : comL C = zs
        · rw [decide_eq_true hq]
          rw [if_pos hq] at GC
          clear EQ
          go_wp2_with (first | (refine wpList_load_blk (b := wb.heap.size) (o := 0) (ds := C.cs) N4.out (fun j v hv => by rw [Nat.zero_add]; exact hv) rfl rfl rfl Try.underlying25 rfl (by rw [CL.out]; exact com_size) ?_) | (refine wpList_store_blk (b := w.heap.size) (o := 0) (ds := C.cs) R4.out (by rw [CL.out]; decide) (Com.cs_one _) rfl rfl rfl rfl (by rw [CL.out]; exact com_size) ?_))
          intro w6 b6 k6
          rw [splice_all (by rw [CL.out]; rfl)] at b6
          have B6 := Lib.hid b6
          have K6 := Lib.hid ((KB.out.trans K4.out (T := None) (fun _ h => h) (fun _ _ h => h)).trans k6 (T := None) (fun _ h => h) (fun b hb e => absurd e (by omega)))
          clear b6 k6 N4 R4 K4
          go_wp2
          refine bodyPost_ret (cell_res rfl _ B6.out Try.underlying25 rfl (by rw [CL.out]; exact com_size) rfl rfl) rfl ?_
          exact ⟨by rw [GC.out]; rfl, K6.out⟩
        · rw [decide_eq_false hq]
          rw [if_neg hq] at GC
          clear EQ
          go_wp2_with (refine wpList_store_blk (b := w.heap.size) (o := 0) (ds := com0.cs) R4.out (by decide) (Com.cs_one _) rfl rfl rfl (by rw [← com_zero]; rfl) com_size ?_)
          intro w6 b6 k6
          rw [splice_all rfl] at b6
          have B6 := Lib.hid b6
          have K6 := Lib.hid ((KB.out.trans K4.out (T := None) (fun _ h => h) (fun _ _ h => h)).trans k6 (T := None) (fun _ h => h) (fun b hb e => absurd e (by omega)))
          clear b6 k6 N4 R4 K4
          go_wp2
          refine bodyPost_ret (cell_res rfl _ B6.out Try.underlying25 rfl com_size rfl rfl) rfl ?_
          exact ⟨by rw [GC.out]; rfl, K6.out⟩
  ·
    refine wpPs_cons ?_
    try simp only [List.take_succ_cons, List.take_zero, List.drop_succ_cons, List.drop_zero, Nat.reduceSub]
    refine wpMix_eff (by kernel_rfl) ?_
    go_wp2
    first | (refine Exists.elim (⟨_, rfl⟩ : ∃ x, wb.drew.alloc (.cells Try.zeroCells25 25) = x) fun wy hwy => ?_; rw [hwy]) | (refine Exists.elim (⟨_, rfl⟩ : ∃ x, (wb.alloc (.cells Try.zeroCells25 25)).drew = x) fun wy hwy => ?_; rw [hwy])
    have NB : Hid (Blk wy wb.heap.size com0.cs 25) := by rw [← hwy, com_zero]; first | exact Blk.new wb.drew com0.cs 25 | exact (Blk.new wb com0.cs 25).drew
    have KD : Hid (Keeps None wb wy) := by rw [← hwy]; first | exact KC.out.alloc _ | exact ((Keeps.refl None wb).alloc _).drew
    clear KC hwy
    have KC := KD
    clear KD
    refine MixK.on (InS.mk ((mH.out _).2 (⟨(CB.out _ KC.out).1, AR.out _, (CB.out _ KC.out).2.1⟩))) ?_
    refine wpMix_nil ?_
    refine wpPs_nil ?_
    refine wpT_node1 (us := [(0, 18), (19, 1)]) [(4, 3)] [(0, 4), (7, 11), (19, 1)] (by kernel_rfl) ?_
    ·
      refine wpPs_cons ?_
      try simp only [List.take_succ_cons, List.take_zero, List.drop_succ_cons, List.drop_zero, Nat.reduceSub]
      refine wpMix_seg 2 (by kernel_rfl) (by decide) ?_
      simp only [List.take_succ_cons, List.take_zero, List.drop_succ_cons, List.drop_zero, Nat.reduceSub]
      repeat (first | go_big_quiet_step (fail) | (go_big_quiet_want; first | refine quiet_arr mk1 rfl rfl rfl (by simp only [Act.put, List.setIfInBounds_toArray, List.set_cons_succ, List.set_cons_zero]; rfl) ?_; go_big_quiet_on | refine quiet_load mk2 rfl rfl rfl (by simp only [Act.put, List.setIfInBounds_toArray, List.set_cons_succ, List.set_cons_zero]; rfl) ?_; go_big_quiet_on | refine quiet_build BU.out rfl rfl (by simp [Act.eval]) (by simp only [Act.put, List.setIfInBounds_toArray, List.set_cons_succ, List.set_cons_zero]; rfl) ?_; go_big_quiet_on))
      refine wpQuiet_nil ?_
      refine wpMix_eff (by kernel_rfl) ?_
      go_wp2_with fail
      refine (V1.out _ ((CB.out _ KC.out).2.2.drop (by decide))).mono ?_
      rintro e w' ⟨rfl, rfl⟩
      go_wp2
      refine MixK.on (InS.mk ((mH.out _).2 (⟨(CB.out _ KC.out).1, AR.out _, (CB.out _ KC.out).2.1⟩))) ?_
      refine wpMix_nil ?_
      refine wpPs_nil ?_
      refine wpT_node1 (us := [(0, 4), (7, 11), (19, 1)]) [(7, 3)] [(0, 4), (10, 8), (19, 1)] (by kernel_rfl) ?_
      ·
        refine wpPs_cons ?_
        try simp only [List.take_succ_cons, List.take_zero, List.drop_succ_cons, List.drop_zero, Nat.reduceSub]
        refine wpMix_seg 2 (by kernel_rfl) (by decide) ?_
        simp only [List.take_succ_cons, List.take_zero, List.drop_succ_cons, List.drop_zero, Nat.reduceSub]
        repeat (first | go_big_quiet_step (fail) | (go_big_quiet_want; first | refine quiet_arr mk1 rfl rfl rfl (by simp only [Act.put, List.setIfInBounds_toArray, List.set_cons_succ, List.set_cons_zero]; rfl) ?_; go_big_quiet_on | refine quiet_load mk2 rfl rfl rfl (by simp only [Act.put, List.setIfInBounds_toArray, List.set_cons_succ, List.set_cons_zero]; rfl) ?_; go_big_quiet_on | refine quiet_build BU.out rfl rfl (by simp [Act.eval]) (by simp only [Act.put, List.setIfInBounds_toArray, List.set_cons_succ, List.set_cons_zero]; rfl) ?_; go_big_quiet_on))
        refine wpQuiet_nil ?_
        refine wpMix_eff (by kernel_rfl) ?_
        go_wp2_with fail
        refine (V2.out _ ((CB.out _ KC.out).2.2.drop (by decide))).mono ?_
        rintro e w' ⟨rfl, rfl⟩
        go_wp2
        refine MixK.on (InS.mk ((mH.out _).2 (⟨(CB.out _ KC.out).1, AR.out _, (CB.out _ KC.out).2.1⟩))) ?_
        refine wpMix_nil ?_
        refine wpPs_nil ?_
        refine wpT_leaf (ps := [(0, 4), (10, 8), (19, 1)]) (by kernel_rfl) ?_
        refine wpPs_cons ?_
        try simp only [List.take_succ_cons, List.take_zero, List.drop_succ_cons, List.drop_zero, Nat.reduceSub]
        refine wpMix_seg 4 (by kernel_rfl) (by decide) ?_
        simp only [List.take_succ_cons, List.take_zero, List.drop_succ_cons, List.drop_zero, Nat.reduceSub]
        repeat (first | go_big_quiet_step (fail) | (go_big_quiet_want; first | refine quiet_arr mk1 rfl rfl rfl (by simp only [Act.put, List.setIfInBounds_toArray, List.set_cons_succ, List.set_cons_zero]; rfl) ?_; go_big_quiet_on | refine quiet_load mk2 rfl rfl rfl (by simp only [Act.put, List.setIfInBounds_toArray, List.set_cons_succ, List.set_cons_zero]; rfl) ?_; go_big_quiet_on | refine quiet_build BU.out rfl rfl (by simp [Act.eval]) (by simp only [Act.put, List.setIfInBounds_toArray, List.set_cons_succ, List.set_cons_zero]; rfl) ?_; go_big_quiet_on))
        refine wpQuiet_nil ?_
        refine wpMix_nil ?_
        refine wpPs_cons ?_
        try simp only [List.take_succ_cons, List.take_zero, List.drop_succ_cons, List.drop_zero, Nat.reduceSub]
        refine wpMix_seg 2 (by kernel_rfl) (by decide) ?_
        simp only [List.take_succ_cons, List.take_zero, List.drop_succ_cons, List.drop_zero, Nat.reduceSub]
        repeat (first | go_big_quiet_step (fail) | (go_big_quiet_want; first | refine quiet_arr mk1 rfl rfl rfl (by simp only [Act.put, List.setIfInBounds_toArray, List.set_cons_succ, List.set_cons_zero]; rfl) ?_; go_big_quiet_on | refine quiet_load mk2 rfl rfl rfl (by simp only [Act.put, List.setIfInBounds_toArray, List.set_cons_succ, List.set_cons_zero]; rfl) ?_; go_big_quiet_on | refine quiet_build BU.out rfl rfl (by simp [Act.eval]) (by simp only [Act.put, List.setIfInBounds_toArray, List.set_cons_succ, List.set_cons_zero]; rfl) ?_; go_big_quiet_on))
        refine wpQuiet_nil ?_
        refine wpMix_eff (by kernel_rfl) ?_
        go_wp2_with fail
        refine (V3.out _ ((CB.out _ KC.out).2.2.drop (by decide))).mono ?_
        rintro e w' ⟨rfl, rfl⟩
        go_wp2
        refine MixK.on (InS.mk ((mH.out _).2 (⟨(CB.out _ KC.out).1, AR.out _, (CB.out _ KC.out).2.1⟩))) ?_
        refine wpMix_seg 5 (by kernel_rfl) (by decide) ?_
        simp only [List.take_succ_cons, List.take_zero, List.drop_succ_cons, List.drop_zero, Nat.reduceSub]
        repeat (first | go_big_quiet_step (fail) | (go_big_quiet_want; first | refine quiet_arr mk1 rfl rfl rfl (by simp only [Act.put, List.setIfInBounds_toArray, List.set_cons_succ, List.set_cons_zero]; rfl) ?_; go_big_quiet_on | refine quiet_load mk2 rfl rfl rfl (by simp only [Act.put, List.setIfInBounds_toArray, List.set_cons_succ, List.set_cons_zero]; rfl) ?_; go_big_quiet_on | refine quiet_build BU.out rfl rfl (by simp [Act.eval]) (by simp only [Act.put, List.setIfInBounds_toArray, List.set_cons_succ, List.set_cons_zero]; rfl) ?_; go_big_quiet_on))
        refine wpQuiet_nil ?_
        refine wpMix_nil ?_
        refine wpPs_cons ?_
        try simp only [List.take_succ_cons, List.take_zero, List.drop_succ_cons, List.drop_zero, Nat.reduceSub]
        refine wpMix_eff (by kernel_rfl) ?_
        go_wp2_with (refine wpList_store_blk (b := wb.heap.size) (o := 0) (ds := C.cs) NB.out (by rw [CL.out]; decide) (Com.cs_one _) rfl rfl rfl rfl (by rw [CL.out]; exact com_size) ?_)
        intro w3 b3 k3
        rw [splice_all (by rw [CL.out]; rfl)] at b3
        have N3 := Lib.hid b3
        have K3 : Hid (Keeps None wb w3) := KC.out.trans k3 (fun _ h => h) (fun b hb e => absurd e (by omega))
        have R3 : Hid (Blk w3 w.heap.size com0.cs 25) := K3.out.blk RB.out (fun h => h)
        clear b3 k3 NB KC
        go_wp2
        refine MixK.on (InS.mk ((mH.out _).2 (⟨(CB.out _ K3.out).1, AR.out _, (CB.out _ K3.out).2.1⟩))) ?_
        refine wpMix_nil ?_
        refine wpPs_nil ?_
        clear mk0 mk1 mk2 mn mH
        go_wp2_with (refine wpList_load_blk (b := wb.heap.size) (o := 0) (ds := C.cs) N3.out (fun j v hv => by rw [Nat.zero_add]; exact hv) rfl rfl rfl Try.underlying25 rfl (by rw [CL.out]; exact com_size) ?_)
        go_wp2_with fail
        refine (PUT.out _).mono ?_
        rintro e w4 ⟨v4, rfl, o4, k4⟩
        obtain ⟨A4, c4, rfl, bs4, -⟩ := o4.shape
        have K4 := Lib.hid (K3.out.trans k4 (T := None) (fun _ h => h) (fun _ _ h => h))
        have N4 := Lib.hid (k4.blk N3.out (fun h => h))
        have R4 := Lib.hid (k4.blk R3.out (fun h => h))
        have EQ := Lib.hid (bequal_any _ _ _ _ _ _ _ _ w4 bs4 (CB.out _ K4.out).2.2)
        clear o4 k4 bs4 K3 N3 R3
        go_wp2_with fail
        refine EQ.out.mono ?_
        rintro e w5 ⟨rfl, rfl⟩
        by_cases hq : comL C = zs
        · rw [decide_eq_true hq]
          rw [if_pos hq] at GC
          clear EQ
          go_wp2_with (first | (refine wpList_load_blk (b := wb.heap.size) (o := 0) (ds := C.cs) N4.out (fun j v hv => by rw [Nat.zero_add]; exact hv) rfl rfl rfl Try.underlying25 rfl (by rw [CL.out]; exact com_size) ?_) | (refine wpList_store_blk (b := w.heap.size) (o := 0) (ds := C.cs) R4.out (by rw [CL.out]; decide) (Com.cs_one _) rfl rfl rfl rfl (by rw [CL.out]; exact com_size) ?_))
          intro w6 b6 k6
          rw [splice_all (by rw [CL.out]; rfl)] at b6
          have B6 := Lib.hid b6
          have K6 := Lib.hid ((KB.out.trans K4.out (T := None) (fun _ h => h) (fun _ _ h => h)).trans k6 (T := None) (fun _ h => h) (fun b hb e => absurd e (by omega)))
          clear b6 k6 N4 R4 K4
          go_wp2
          refine bodyPost_ret (cell_res rfl _ B6.out Try.underlying25 rfl (by rw [CL.out]; exact com_size) rfl rfl) rfl ?_
          exact ⟨by rw [GC.out]; rfl, K6.out⟩
        · rw [decide_eq_false hq]
          rw [if_neg hq] at GC
          clear EQ
          go_wp2_with (refine wpList_store_blk (b := w.heap.size) (o := 0) (ds := com0.cs) R4.out (by decide) (Com.cs_one _) rfl rfl rfl (by rw [← com_zero]; rfl) com_size ?_)
          intro w6 b6 k6
          rw [splice_all rfl] at b6
          have B6 := Lib.hid b6
          have K6 := Lib.hid ((KB.out.trans K4.out (T := None) (fun _ h => h) (fun _ _ h => h)).trans k6 (T := None) (fun _ h => h) (fun b hb e => absurd e (by omega)))
          clear b6 k6 N4 R4 K4
          go_wp2
          refine bodyPost_ret (cell_res rfl _ B6.out Try.underlying25 rfl com_size rfl rfl) rfl ?_
          exact ⟨by rw [GC.out]; rfl, K6.out⟩
end Go.Proofs.Ytfldgaiiniknpaa
