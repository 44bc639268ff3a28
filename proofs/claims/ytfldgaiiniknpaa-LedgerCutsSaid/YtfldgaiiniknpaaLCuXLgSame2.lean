
/- The walk of SameState of any two states. -/
import Derived.Test.YtfldgaiiniknpaaLCuXLgSame
namespace Go.Proofs.Ytfldgaiiniknpaa
open Go.RowKit

section
variable {ops : Array Oper} {rest : List Oper} {op : Oper} {a : Act} {w : World} {Q : Exit → Act → World → Prop}
theorem wpList_unwant (hw : Region.wanted op (yielded ops a.tmps) = false) (h : wpList Try.prog ops Q rest (a.put op.dst undef) w) : wpList Try.prog ops Q (op :: rest) a w := by
  refine wpList_step fun K hK => ?_
  rw [if_neg (by rw [hw]; decide)]
  exact hK _ _ h
end
set_option maxRecDepth 100000 in
set_option maxHeartbeats 25600000 in
theorem rgsame_all (s t : St) (os : s.ok) (ot : t.ok) (A A' : Option Addr) (n cap n' cap' : Nat) (w : World) (hs : Bs w A n cap s.k.mid) (ht : Bs w A' n' cap' t.k.mid) :
    Calls Try.prog 16 #[.agg (s.cs A n cap).toArray, .agg (t.cs A' n' cap').toArray] w fun e w' => e = .returned (.bool (sameB s t)) ∧ Keeps None w w' := by
  have OS := Lib.hid os
  have OT := Lib.hid ot
  obtain ⟨w2, hw2⟩ : ∃ x, (w.alloc (.cells (s.cs A n cap).toArray 39)).alloc (.cells (t.cs A' n' cap').toArray 39) = x := ⟨_, rfl⟩
  have SB : Hid (Blk w2 w.heap.size (s.cs A n cap) 39) := by rw [← hw2]; exact (Blk.new w (s.cs A n cap) 39).alloc _
  have TB : Hid (Blk w2 (w.heap.size + 1) (t.cs A' n' cap') 39) := by
    rw [← hw2]
    have h := Blk.new (w.alloc (.cells (s.cs A n cap).toArray 39)) (t.cs A' n' cap') 39
    rw [show (w.alloc (.cells (s.cs A n cap).toArray 39)).heap.size = w.heap.size + 1 by simp] at h
    exact h
  have KB : Hid (Keeps None w w2) := by rw [← hw2]; exact ((Keeps.refl None w).alloc _).alloc _
  have EC := Lib.hid (fun x y w => run_eq_com s.c t.c os.c ot.c x y w)
  have EI := Lib.hid (fun x y w => run_eq_id s.k.id t.k.id os.k.il ot.k.il x y w)
  have IS : Hid (∀ j v, (s.k.id.map (Value.int .u8))[j]? = some v → (s.cs A n cap)[73 + j]? = some v) := fun j v hv => by
    have hj : j < 8 := by have := (List.getElem?_eq_some_iff.1 hv).1; rw [List.length_map, os.k.il] at this; exact this
    rw [St.cs_k os A n cap j hj, ← hv, map_getD 0 (by rw [os.k.il]; exact hj)]
  have IT : Hid (∀ j v, (t.k.id.map (Value.int .u8))[j]? = some v → (t.cs A' n' cap')[73 + j]? = some v) := fun j v hv => by
    have hj : j < 8 := by have := (List.getElem?_eq_some_iff.1 hv).1; rw [List.length_map, ot.k.il] at this; exact this
    rw [St.cs_k ot A' n' cap' j hj, ← hv, map_getD 0 (by rw [ot.k.il]; exact hj)]
  have S68 := Lib.hid (SB.out.cellD 68 _ (St.cs_has os A n cap))
  have T68 := Lib.hid (TB.out.cellD 68 _ (St.cs_has ot A' n' cap'))
  have S69 := Lib.hid (SB.out.cellD 69 _ (St.cs_chk os A n cap 0 _ rfl))
  have T69 := Lib.hid (TB.out.cellD 69 _ (St.cs_chk ot A' n' cap' 0 _ rfl))
  have S70 := Lib.hid (SB.out.cellD 70 _ (St.cs_chk os A n cap 1 _ rfl))
  have T70 := Lib.hid (TB.out.cellD 70 _ (St.cs_chk ot A' n' cap' 1 _ rfl))
  have S71 := Lib.hid (SB.out.cellD 71 _ (St.cs_chk os A n cap 2 _ rfl))
  have T71 := Lib.hid (TB.out.cellD 71 _ (St.cs_chk ot A' n' cap' 2 _ rfl))
  have S72 := Lib.hid (SB.out.cellD 72 _ (St.cs_chk os A n cap 3 _ rfl))
  have T72 := Lib.hid (TB.out.cellD 72 _ (St.cs_chk ot A' n' cap' 3 _ rfl))
  have S81 := Lib.hid (SB.out.cellD 81 _ (St.cs_mid os A n cap))
  have T81 := Lib.hid (TB.out.cellD 81 _ (St.cs_mid ot A' n' cap'))
  have C1 : (convert 27 9 (.slice A n cap)).run Try.prog w2 = .ok (.string (strOf s.k.mid)) w2 := run_str (hs.keeps KB.out (fun _ _ _ _ _ h => h))
  have C2 : (convert 27 9 (.slice A' n' cap')).run Try.prog w2 = .ok (.string (strOf t.k.mid)) w2 := run_str (ht.keeps KB.out (fun _ _ _ _ _ h => h))
  have EQ := strOf_beq hs.byte ht.byte
  obtain ⟨ss, hss⟩ : ∃ x, strOf s.k.mid = x := ⟨_, rfl⟩
  obtain ⟨st, hst⟩ : ∃ x, strOf t.k.mid = x := ⟨_, rfl⟩
  rw [hss] at C1 EQ
  rw [hst] at C2 EQ
  obtain ⟨b0, h0⟩ : ∃ b, eqComB s.c t.c = b := ⟨_, rfl⟩
  obtain ⟨b6, h6⟩ : ∃ b, ((List.range 8).all fun i => s.k.id.getD i 0 == t.k.id.getD i 0) = b := ⟨_, rfl⟩
  obtain ⟨b7, h7⟩ : ∃ b, decide (s.k.mid = t.k.mid) = b := ⟨_, rfl⟩
  obtain ⟨b1, q0⟩ : ∃ b, (s.has == t.has) = b := ⟨_, rfl⟩
  obtain ⟨b2, q1⟩ : ∃ b, (s.k.slot == t.k.slot) = b := ⟨_, rfl⟩
  obtain ⟨b3, q2⟩ : ∃ b, (s.k.block == t.k.block) = b := ⟨_, rfl⟩
  obtain ⟨b4, q3⟩ : ∃ b, (s.k.off == t.k.off) = b := ⟨_, rfl⟩
  obtain ⟨b5, q4⟩ : ∃ b, (s.k.dn == t.k.dn) = b := ⟨_, rfl⟩
  have RES : Hid (sameB s t = (b0 && b1 && b2 && b3 && b4 && b5 && b6 && b7)) := by
    show sameB s t = _
    unfold sameB
    rw [h0, h6, h7, q0, q1, q2, q3, q4]
  rw [h0] at EC
  rw [h6] at EI
  rw [h7] at EQ
  rw [RES.out]
  obtain ⟨V1, hV1⟩ : ∃ V, (s.cs A n cap).toArray = V := ⟨_, rfl⟩
  obtain ⟨V2, hV2⟩ : ∃ V, (t.cs A' n' cap').toArray = V := ⟨_, rfl⟩
  rw [hV1, hV2] at hw2 ⊢
  clear hV1 hV2 h0 h6 h7 os ot hs ht RES
  cases b0 with
  | false =>
    go_enter Try.func16, Try.ntmps16
    iterate 16 (first | go_values | go_skip | go_guarded | go_step | go_upon | go_back)
    refine wp_region_lit ?_
    simp only [List.append_eq, List.cons_append, List.nil_append]
    have s68 := S68.out
    have t68 := T68.out
    have s69 := S69.out
    have t69 := T69.out
    have s70 := S70.out
    have t70 := T70.out
    have s71 := S71.out
    have t71 := T71.out
    have s72 := S72.out
    have t72 := T72.out
    have s81 := S81.out
    have t81 := T81.out
    go_wp2_with (first | (with_reducible show wpList _ _ _ ({ dst := some 6, op := _, type := _, pos := _, after := _, guard := _ } :: _) _ _; refine wpList_load_blk (b := w.heap.size) (o := 0) (ds := s.c.cs) SB.out (fun j v hv => by rw [Nat.zero_add]; exact St.cs_com OS.out A n cap j v hv) rfl rfl rfl Try.underlying25 rfl (by rw [Com.cs_len OS.out.c]; exact com_size) ?_) | (with_reducible show wpList _ _ _ ({ dst := some 8, op := _, type := _, pos := _, after := _, guard := _ } :: _) _ _; refine wpList_load_blk (b := w.heap.size + 1) (o := 0) (ds := t.c.cs) TB.out (fun j v hv => by rw [Nat.zero_add]; exact St.cs_com OT.out A' n' cap' j v hv) rfl rfl rfl Try.underlying25 rfl (by rw [Com.cs_len OT.out.c]; exact com_size) ?_) | (with_reducible show wpList _ _ _ ({ dst := some 9, op := _, type := _, pos := _, after := _, guard := _ } :: _) _ _; refine wpList_bin_g (EC.out _ _ _) rfl rfl rfl rfl ?_))
    go_ret
    exact ⟨rfl, KB.out⟩
  | true =>
  cases b1 with
  | false =>
    go_enter Try.func16, Try.ntmps16
    iterate 16 (first | go_values | go_skip | go_guarded | go_step | go_upon | go_back)
    refine wp_region_lit ?_
    simp only [List.append_eq, List.cons_append, List.nil_append]
    have s68 := S68.out
    have t68 := T68.out
    have s69 := S69.out
    have t69 := T69.out
    have s70 := S70.out
    have t70 := T70.out
    have s71 := S71.out
    have t71 := T71.out
    have s72 := S72.out
    have t72 := T72.out
    have s81 := S81.out
    have t81 := T81.out
    go_wp2_with (first | (with_reducible show wpList _ _ _ ({ dst := some 6, op := _, type := _, pos := _, after := _, guard := _ } :: _) _ _; refine wpList_load_blk (b := w.heap.size) (o := 0) (ds := s.c.cs) SB.out (fun j v hv => by rw [Nat.zero_add]; exact St.cs_com OS.out A n cap j v hv) rfl rfl rfl Try.underlying25 rfl (by rw [Com.cs_len OS.out.c]; exact com_size) ?_) | (with_reducible show wpList _ _ _ ({ dst := some 8, op := _, type := _, pos := _, after := _, guard := _ } :: _) _ _; refine wpList_load_blk (b := w.heap.size + 1) (o := 0) (ds := t.c.cs) TB.out (fun j v hv => by rw [Nat.zero_add]; exact St.cs_com OT.out A' n' cap' j v hv) rfl rfl rfl Try.underlying25 rfl (by rw [Com.cs_len OT.out.c]; exact com_size) ?_) | (with_reducible show wpList _ _ _ ({ dst := some 9, op := _, type := _, pos := _, after := _, guard := _ } :: _) _ _; refine wpList_bin_g (EC.out _ _ _) rfl rfl rfl rfl ?_) | (with_reducible show wpList _ _ _ ({ dst := _, op := _, type := _, pos := _, after := _, guard := some (5, true) } :: _) _ _; refine wpList_want (by kernel_rfl) ?_; intro K hK))
    go_ret
    exact ⟨rfl, KB.out⟩
  | true =>
  cases b2 with
  | false =>
    go_enter Try.func16, Try.ntmps16
    iterate 16 (first | go_values | go_skip | go_guarded | go_step | go_upon | go_back)
    refine wp_region_lit ?_
    simp only [List.append_eq, List.cons_append, List.nil_append]
    have s68 := S68.out
    have t68 := T68.out
    have s69 := S69.out
    have t69 := T69.out
    have s70 := S70.out
    have t70 := T70.out
    have s71 := S71.out
    have t71 := T71.out
    have s72 := S72.out
    have t72 := T72.out
    have s81 := S81.out
    have t81 := T81.out
    go_wp2_with (first | (with_reducible show wpList _ _ _ ({ dst := some 6, op := _, type := _, pos := _, after := _, guard := _ } :: _) _ _; refine wpList_load_blk (b := w.heap.size) (o := 0) (ds := s.c.cs) SB.out (fun j v hv => by rw [Nat.zero_add]; exact St.cs_com OS.out A n cap j v hv) rfl rfl rfl Try.underlying25 rfl (by rw [Com.cs_len OS.out.c]; exact com_size) ?_) | (with_reducible show wpList _ _ _ ({ dst := some 8, op := _, type := _, pos := _, after := _, guard := _ } :: _) _ _; refine wpList_load_blk (b := w.heap.size + 1) (o := 0) (ds := t.c.cs) TB.out (fun j v hv => by rw [Nat.zero_add]; exact St.cs_com OT.out A' n' cap' j v hv) rfl rfl rfl Try.underlying25 rfl (by rw [Com.cs_len OT.out.c]; exact com_size) ?_) | (with_reducible show wpList _ _ _ ({ dst := some 9, op := _, type := _, pos := _, after := _, guard := _ } :: _) _ _; refine wpList_bin_g (EC.out _ _ _) rfl rfl rfl rfl ?_) | (with_reducible show wpList _ _ _ ({ dst := _, op := _, type := _, pos := _, after := _, guard := some (5, true) } :: _) _ _; refine wpList_want (by kernel_rfl) ?_; intro K hK) | (with_reducible show wpList _ _ _ ({ dst := _, op := _, type := _, pos := _, after := _, guard := some (12, true) } :: _) _ _; refine wpList_want (by kernel_rfl) ?_; intro K hK))
    go_ret
    exact ⟨rfl, KB.out⟩
  | true =>
  cases b3 with
  | false =>
    go_enter Try.func16, Try.ntmps16
    iterate 16 (first | go_values | go_skip | go_guarded | go_step | go_upon | go_back)
    refine wp_region_lit ?_
    simp only [List.append_eq, List.cons_append, List.nil_append]
    have s68 := S68.out
    have t68 := T68.out
    have s69 := S69.out
    have t69 := T69.out
    have s70 := S70.out
    have t70 := T70.out
    have s71 := S71.out
    have t71 := T71.out
    have s72 := S72.out
    have t72 := T72.out
    have s81 := S81.out
    have t81 := T81.out
    go_wp2_with (first | (with_reducible show wpList _ _ _ ({ dst := some 6, op := _, type := _, pos := _, after := _, guard := _ } :: _) _ _; refine wpList_load_blk (b := w.heap.size) (o := 0) (ds := s.c.cs) SB.out (fun j v hv => by rw [Nat.zero_add]; exact St.cs_com OS.out A n cap j v hv) rfl rfl rfl Try.underlying25 rfl (by rw [Com.cs_len OS.out.c]; exact com_size) ?_) | (with_reducible show wpList _ _ _ ({ dst := some 8, op := _, type := _, pos := _, after := _, guard := _ } :: _) _ _; refine wpList_load_blk (b := w.heap.size + 1) (o := 0) (ds := t.c.cs) TB.out (fun j v hv => by rw [Nat.zero_add]; exact St.cs_com OT.out A' n' cap' j v hv) rfl rfl rfl Try.underlying25 rfl (by rw [Com.cs_len OT.out.c]; exact com_size) ?_) | (with_reducible show wpList _ _ _ ({ dst := some 9, op := _, type := _, pos := _, after := _, guard := _ } :: _) _ _; refine wpList_bin_g (EC.out _ _ _) rfl rfl rfl rfl ?_) | (with_reducible show wpList _ _ _ ({ dst := _, op := _, type := _, pos := _, after := _, guard := some (5, true) } :: _) _ _; refine wpList_want (by kernel_rfl) ?_; intro K hK) | (with_reducible show wpList _ _ _ ({ dst := _, op := _, type := _, pos := _, after := _, guard := some (12, true) } :: _) _ _; refine wpList_want (by kernel_rfl) ?_; intro K hK) | (with_reducible show wpList _ _ _ ({ dst := _, op := _, type := _, pos := _, after := _, guard := some (21, true) } :: _) _ _; refine wpList_want (by kernel_rfl) ?_; intro K hK))
    go_ret
    exact ⟨rfl, KB.out⟩
  | true =>
  cases b4 with
  | false =>
    go_enter Try.func16, Try.ntmps16
    iterate 16 (first | go_values | go_skip | go_guarded | go_step | go_upon | go_back)
    refine wp_region_lit ?_
    simp only [List.append_eq, List.cons_append, List.nil_append]
    have s68 := S68.out
    have t68 := T68.out
    have s69 := S69.out
    have t69 := T69.out
    have s70 := S70.out
    have t70 := T70.out
    have s71 := S71.out
    have t71 := T71.out
    have s72 := S72.out
    have t72 := T72.out
    have s81 := S81.out
    have t81 := T81.out
    go_wp2_with (first | (with_reducible show wpList _ _ _ ({ dst := some 6, op := _, type := _, pos := _, after := _, guard := _ } :: _) _ _; refine wpList_load_blk (b := w.heap.size) (o := 0) (ds := s.c.cs) SB.out (fun j v hv => by rw [Nat.zero_add]; exact St.cs_com OS.out A n cap j v hv) rfl rfl rfl Try.underlying25 rfl (by rw [Com.cs_len OS.out.c]; exact com_size) ?_) | (with_reducible show wpList _ _ _ ({ dst := some 8, op := _, type := _, pos := _, after := _, guard := _ } :: _) _ _; refine wpList_load_blk (b := w.heap.size + 1) (o := 0) (ds := t.c.cs) TB.out (fun j v hv => by rw [Nat.zero_add]; exact St.cs_com OT.out A' n' cap' j v hv) rfl rfl rfl Try.underlying25 rfl (by rw [Com.cs_len OT.out.c]; exact com_size) ?_) | (with_reducible show wpList _ _ _ ({ dst := some 9, op := _, type := _, pos := _, after := _, guard := _ } :: _) _ _; refine wpList_bin_g (EC.out _ _ _) rfl rfl rfl rfl ?_) | (with_reducible show wpList _ _ _ ({ dst := _, op := _, type := _, pos := _, after := _, guard := some (5, true) } :: _) _ _; refine wpList_want (by kernel_rfl) ?_; intro K hK) | (with_reducible show wpList _ _ _ ({ dst := _, op := _, type := _, pos := _, after := _, guard := some (12, true) } :: _) _ _; refine wpList_want (by kernel_rfl) ?_; intro K hK) | (with_reducible show wpList _ _ _ ({ dst := _, op := _, type := _, pos := _, after := _, guard := some (21, true) } :: _) _ _; refine wpList_want (by kernel_rfl) ?_; intro K hK) | (with_reducible show wpList _ _ _ ({ dst := _, op := _, type := _, pos := _, after := _, guard := some (30, true) } :: _) _ _; refine wpList_want (by kernel_rfl) ?_; intro K hK))
    go_ret
    exact ⟨rfl, KB.out⟩
  | true =>
  cases b5 with
  | false =>
    go_enter Try.func16, Try.ntmps16
    iterate 16 (first | go_values | go_skip | go_guarded | go_step | go_upon | go_back)
    refine wp_region_lit ?_
    simp only [List.append_eq, List.cons_append, List.nil_append]
    have s68 := S68.out
    have t68 := T68.out
    have s69 := S69.out
    have t69 := T69.out
    have s70 := S70.out
    have t70 := T70.out
    have s71 := S71.out
    have t71 := T71.out
    have s72 := S72.out
    have t72 := T72.out
    have s81 := S81.out
    have t81 := T81.out
    go_wp2_with (first | (with_reducible show wpList _ _ _ ({ dst := some 6, op := _, type := _, pos := _, after := _, guard := _ } :: _) _ _; refine wpList_load_blk (b := w.heap.size) (o := 0) (ds := s.c.cs) SB.out (fun j v hv => by rw [Nat.zero_add]; exact St.cs_com OS.out A n cap j v hv) rfl rfl rfl Try.underlying25 rfl (by rw [Com.cs_len OS.out.c]; exact com_size) ?_) | (with_reducible show wpList _ _ _ ({ dst := some 8, op := _, type := _, pos := _, after := _, guard := _ } :: _) _ _; refine wpList_load_blk (b := w.heap.size + 1) (o := 0) (ds := t.c.cs) TB.out (fun j v hv => by rw [Nat.zero_add]; exact St.cs_com OT.out A' n' cap' j v hv) rfl rfl rfl Try.underlying25 rfl (by rw [Com.cs_len OT.out.c]; exact com_size) ?_) | (with_reducible show wpList _ _ _ ({ dst := some 9, op := _, type := _, pos := _, after := _, guard := _ } :: _) _ _; refine wpList_bin_g (EC.out _ _ _) rfl rfl rfl rfl ?_) | (with_reducible show wpList _ _ _ ({ dst := _, op := _, type := _, pos := _, after := _, guard := some (5, true) } :: _) _ _; refine wpList_want (by kernel_rfl) ?_; intro K hK) | (with_reducible show wpList _ _ _ ({ dst := _, op := _, type := _, pos := _, after := _, guard := some (12, true) } :: _) _ _; refine wpList_want (by kernel_rfl) ?_; intro K hK) | (with_reducible show wpList _ _ _ ({ dst := _, op := _, type := _, pos := _, after := _, guard := some (21, true) } :: _) _ _; refine wpList_want (by kernel_rfl) ?_; intro K hK) | (with_reducible show wpList _ _ _ ({ dst := _, op := _, type := _, pos := _, after := _, guard := some (30, true) } :: _) _ _; refine wpList_want (by kernel_rfl) ?_; intro K hK) | (with_reducible show wpList _ _ _ ({ dst := _, op := _, type := _, pos := _, after := _, guard := some (39, true) } :: _) _ _; refine wpList_want (by kernel_rfl) ?_; intro K hK))
    go_ret
    exact ⟨rfl, KB.out⟩
  | true =>
  cases b6 with
  | false =>
    go_enter Try.func16, Try.ntmps16
    iterate 16 (first | go_values | go_skip | go_guarded | go_step | go_upon | go_back)
    refine wp_region_lit ?_
    simp only [List.append_eq, List.cons_append, List.nil_append]
    have s68 := S68.out
    have t68 := T68.out
    have s69 := S69.out
    have t69 := T69.out
    have s70 := S70.out
    have t70 := T70.out
    have s71 := S71.out
    have t71 := T71.out
    have s72 := S72.out
    have t72 := T72.out
    have s81 := S81.out
    have t81 := T81.out
    go_wp2_with (first | (with_reducible show wpList _ _ _ ({ dst := some 6, op := _, type := _, pos := _, after := _, guard := _ } :: _) _ _; refine wpList_load_blk (b := w.heap.size) (o := 0) (ds := s.c.cs) SB.out (fun j v hv => by rw [Nat.zero_add]; exact St.cs_com OS.out A n cap j v hv) rfl rfl rfl Try.underlying25 rfl (by rw [Com.cs_len OS.out.c]; exact com_size) ?_) | (with_reducible show wpList _ _ _ ({ dst := some 8, op := _, type := _, pos := _, after := _, guard := _ } :: _) _ _; refine wpList_load_blk (b := w.heap.size + 1) (o := 0) (ds := t.c.cs) TB.out (fun j v hv => by rw [Nat.zero_add]; exact St.cs_com OT.out A' n' cap' j v hv) rfl rfl rfl Try.underlying25 rfl (by rw [Com.cs_len OT.out.c]; exact com_size) ?_) | (with_reducible show wpList _ _ _ ({ dst := some 9, op := _, type := _, pos := _, after := _, guard := _ } :: _) _ _; refine wpList_bin_g (EC.out _ _ _) rfl rfl rfl rfl ?_) | (with_reducible show wpList _ _ _ ({ dst := _, op := _, type := _, pos := _, after := _, guard := some (5, true) } :: _) _ _; refine wpList_want (by kernel_rfl) ?_; intro K hK) | (with_reducible show wpList _ _ _ ({ dst := _, op := _, type := _, pos := _, after := _, guard := some (12, true) } :: _) _ _; refine wpList_want (by kernel_rfl) ?_; intro K hK) | (with_reducible show wpList _ _ _ ({ dst := _, op := _, type := _, pos := _, after := _, guard := some (21, true) } :: _) _ _; refine wpList_want (by kernel_rfl) ?_; intro K hK) | (with_reducible show wpList _ _ _ ({ dst := _, op := _, type := _, pos := _, after := _, guard := some (30, true) } :: _) _ _; refine wpList_want (by kernel_rfl) ?_; intro K hK) | (with_reducible show wpList _ _ _ ({ dst := _, op := _, type := _, pos := _, after := _, guard := some (39, true) } :: _) _ _; refine wpList_want (by kernel_rfl) ?_; intro K hK) | (with_reducible show wpList _ _ _ ({ dst := some 56, op := _, type := _, pos := _, after := _, guard := _ } :: _) _ _; refine wpList_load_blk_g (b := w.heap.size) (o := 73) (ds := s.k.id.map (.int .u8)) SB.out IS.out rfl rfl rfl Try.underlying26 rfl (by rw [List.length_map, OS.out.k.il]; exact a8_size) ?_) | (with_reducible show wpList _ _ _ ({ dst := some 59, op := _, type := _, pos := _, after := _, guard := _ } :: _) _ _; refine wpList_load_blk_g (b := w.heap.size + 1) (o := 73) (ds := t.k.id.map (.int .u8)) TB.out IT.out rfl rfl rfl Try.underlying26 rfl (by rw [List.length_map, OT.out.k.il]; exact a8_size) ?_) | (with_reducible show wpList _ _ _ ({ dst := some 60, op := _, type := _, pos := _, after := _, guard := _ } :: _) _ _; refine wpList_bin_g (EI.out _ _ _) rfl rfl rfl rfl ?_) | (with_reducible show wpList _ _ _ ({ dst := _, op := _, type := _, pos := _, after := _, guard := some (48, true) } :: _) _ _; refine wpList_want (by kernel_rfl) ?_; intro K hK))
    go_ret
    exact ⟨rfl, KB.out⟩
  | true =>
  cases b7 with
  | false =>
    go_enter Try.func16, Try.ntmps16
    iterate 16 (first | go_values | go_skip | go_guarded | go_step | go_upon | go_back)
    refine wp_region_lit ?_
    simp only [List.append_eq, List.cons_append, List.nil_append]
    have s68 := S68.out
    have t68 := T68.out
    have s69 := S69.out
    have t69 := T69.out
    have s70 := S70.out
    have t70 := T70.out
    have s71 := S71.out
    have t71 := T71.out
    have s72 := S72.out
    have t72 := T72.out
    have s81 := S81.out
    have t81 := T81.out
    go_wp2_with (first | (with_reducible show wpList _ _ _ ({ dst := some 6, op := _, type := _, pos := _, after := _, guard := _ } :: _) _ _; refine wpList_load_blk (b := w.heap.size) (o := 0) (ds := s.c.cs) SB.out (fun j v hv => by rw [Nat.zero_add]; exact St.cs_com OS.out A n cap j v hv) rfl rfl rfl Try.underlying25 rfl (by rw [Com.cs_len OS.out.c]; exact com_size) ?_) | (with_reducible show wpList _ _ _ ({ dst := some 8, op := _, type := _, pos := _, after := _, guard := _ } :: _) _ _; refine wpList_load_blk (b := w.heap.size + 1) (o := 0) (ds := t.c.cs) TB.out (fun j v hv => by rw [Nat.zero_add]; exact St.cs_com OT.out A' n' cap' j v hv) rfl rfl rfl Try.underlying25 rfl (by rw [Com.cs_len OT.out.c]; exact com_size) ?_) | (with_reducible show wpList _ _ _ ({ dst := some 9, op := _, type := _, pos := _, after := _, guard := _ } :: _) _ _; refine wpList_bin_g (EC.out _ _ _) rfl rfl rfl rfl ?_) | (with_reducible show wpList _ _ _ ({ dst := some 56, op := _, type := _, pos := _, after := _, guard := _ } :: _) _ _; refine wpList_load_blk_g (b := w.heap.size) (o := 73) (ds := s.k.id.map (.int .u8)) SB.out IS.out rfl rfl rfl Try.underlying26 rfl (by rw [List.length_map, OS.out.k.il]; exact a8_size) ?_) | (with_reducible show wpList _ _ _ ({ dst := some 59, op := _, type := _, pos := _, after := _, guard := _ } :: _) _ _; refine wpList_load_blk_g (b := w.heap.size + 1) (o := 73) (ds := t.k.id.map (.int .u8)) TB.out IT.out rfl rfl rfl Try.underlying26 rfl (by rw [List.length_map, OT.out.k.il]; exact a8_size) ?_) | (with_reducible show wpList _ _ _ ({ dst := some 60, op := _, type := _, pos := _, after := _, guard := _ } :: _) _ _; refine wpList_bin_g (EI.out _ _ _) rfl rfl rfl rfl ?_) | (with_reducible show wpList _ _ _ ({ dst := _, op := _, type := _, pos := _, after := _, guard := some _ } :: _) _ _; refine wpList_want (by kernel_rfl) ?_; intro K hK))
    go_ret
    exact ⟨rfl, KB.out⟩
  | true =>
    go_enter Try.func16, Try.ntmps16
    iterate 16 (first | go_values | go_skip | go_guarded | go_step | go_upon | go_back)
    refine wp_region_lit ?_
    simp only [List.append_eq, List.cons_append, List.nil_append]
    have s68 := S68.out
    have t68 := T68.out
    have s69 := S69.out
    have t69 := T69.out
    have s70 := S70.out
    have t70 := T70.out
    have s71 := S71.out
    have t71 := T71.out
    have s72 := S72.out
    have t72 := T72.out
    have s81 := S81.out
    have t81 := T81.out
    go_wp2_with (first | (with_reducible show wpList _ _ _ ({ dst := some 6, op := _, type := _, pos := _, after := _, guard := _ } :: _) _ _; refine wpList_load_blk (b := w.heap.size) (o := 0) (ds := s.c.cs) SB.out (fun j v hv => by rw [Nat.zero_add]; exact St.cs_com OS.out A n cap j v hv) rfl rfl rfl Try.underlying25 rfl (by rw [Com.cs_len OS.out.c]; exact com_size) ?_) | (with_reducible show wpList _ _ _ ({ dst := some 8, op := _, type := _, pos := _, after := _, guard := _ } :: _) _ _; refine wpList_load_blk (b := w.heap.size + 1) (o := 0) (ds := t.c.cs) TB.out (fun j v hv => by rw [Nat.zero_add]; exact St.cs_com OT.out A' n' cap' j v hv) rfl rfl rfl Try.underlying25 rfl (by rw [Com.cs_len OT.out.c]; exact com_size) ?_) | (with_reducible show wpList _ _ _ ({ dst := some 9, op := _, type := _, pos := _, after := _, guard := _ } :: _) _ _; refine wpList_bin_g (EC.out _ _ _) rfl rfl rfl rfl ?_) | (with_reducible show wpList _ _ _ ({ dst := some 56, op := _, type := _, pos := _, after := _, guard := _ } :: _) _ _; refine wpList_load_blk_g (b := w.heap.size) (o := 73) (ds := s.k.id.map (.int .u8)) SB.out IS.out rfl rfl rfl Try.underlying26 rfl (by rw [List.length_map, OS.out.k.il]; exact a8_size) ?_) | (with_reducible show wpList _ _ _ ({ dst := some 59, op := _, type := _, pos := _, after := _, guard := _ } :: _) _ _; refine wpList_load_blk_g (b := w.heap.size + 1) (o := 73) (ds := t.k.id.map (.int .u8)) TB.out IT.out rfl rfl rfl Try.underlying26 rfl (by rw [List.length_map, OT.out.k.il]; exact a8_size) ?_) | (with_reducible show wpList _ _ _ ({ dst := some 60, op := _, type := _, pos := _, after := _, guard := _ } :: _) _ _; refine wpList_bin_g (EI.out _ _ _) rfl rfl rfl rfl ?_) | (with_reducible show wpList _ _ _ ({ dst := _, op := _, type := _, pos := _, after := _, guard := some _ } :: _) _ _; refine wpList_want (by kernel_rfl) ?_; intro K hK))
    go_ret
    exact ⟨rfl, KB.out⟩
end Go.Proofs.Ytfldgaiiniknpaa
