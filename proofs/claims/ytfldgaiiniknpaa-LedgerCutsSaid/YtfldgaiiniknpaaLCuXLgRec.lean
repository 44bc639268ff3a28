
/- The walk of folder 23's record. -/
import Derived.Test.YtfldgaiiniknpaaLCuXLgDo
namespace Go.Proofs.Ytfldgaiiniknpaa
open Go.RowKit

def GotRec (w : World) (r : Rec) (e : Ending) (w' : World) : Prop :=
  ∃ A n c, e = .returned (.agg #[.int .i64 r.k, .int .i64 r.s, .slice A n c]) ∧ ChkV w' (fun b => w.heap.size ≤ b) A n c r.b ∧ Keeps None w w'
set_option maxRecDepth 100000 in
set_option maxHeartbeats 3200000 in
theorem record23_any {w : World} {a : AV} (ha : a.ok w) : Calls Try.prog 28 #[.agg a.cs.toArray] w (GotRec w (actRec a)) := by
  have AO := Lib.hid ha
  have a0 : a.cs.toArray[0]? = some (.int .i64 a.k) := rfl
  obtain ⟨w0, hw0⟩ : ∃ x, (w.alloc (.cells a.cs.toArray 49)).alloc (.cells #[.int .i64 0, .int .i64 0, .slice none 0 0] 58) = x := ⟨_, rfl⟩
  have CB : Hid (Blk w0 w.heap.size a.cs 49) := by rw [← hw0]; exact (Blk.new w a.cs 49).alloc _
  have RB : Hid (Blk w0 (w.heap.size + 1) [.int .i64 0, .int .i64 0, .slice none 0 0] 58) := by
    rw [← hw0]
    have h := Blk.new (w.alloc (.cells a.cs.toArray 49)) [.int .i64 0, .int .i64 0, .slice none 0 0] 58
    rw [show (w.alloc (.cells a.cs.toArray 49)).heap.size = w.heap.size + 1 by simp] at h
    exact h
  have K0 : Hid (Keeps None w w0) := by rw [← hw0]; exact ((Keeps.refl None w).alloc _).alloc _
  have S0 : w0.heap.size = w.heap.size + 1 + 1 := by rw [← hw0]; simp
  have AO0 := Lib.hid (ha.keeps K0.out)
  have b0 : w0.cell? ⟨w.heap.size, 0, none⟩ = some (.int .i64 a.k) := CB.out.cellD 0 _ rfl
  obtain ⟨V, hV⟩ : ∃ V, a.cs.toArray = V := ⟨_, rfl⟩
  rw [hV] at hw0 a0 ⊢
  have HV := Lib.hid hV
  clear ha hV
  by_cases q1 : a.k = 1
  · rw [q1] at a0 b0
    have AF : Hid (actRec a = ⟨2, 0, comL a.c⟩) := if_pos q1
    have C1 := Lib.hid (lgputc_any a.c AO0.out.c w0)
    unfold Com.v at C1
    clear q1
    go_enter Try.func28, Try.ntmps28
    go_wp2_with (refine wpList_load_blk (b := w.heap.size) (o := 3) (ds := a.c.cs) CB.out (fun j v hv => AV.cs_com AO.out j v hv) rfl rfl rfl Try.underlying25 rfl (by rw [Com.cs_len AO.out.c]; exact com_size) ?_)
    go_wp2_with fail
    refine C1.out.mono ?_
    rintro e w2 ⟨v2, rfl, o2, k2⟩
    obtain ⟨A2, c2, rfl, -, -⟩ := o2.shape
    have M2 := Lib.hid (chkV_own o2)
    have R2 := Lib.hid (k2.blk RB.out (fun h => h))
    have K2 := Lib.hid (K0.out.trans k2 (T := None) (fun _ h => h) (fun _ _ h => h))
    obtain ⟨n2, hn2⟩ : ∃ x, (comL a.c).length = x := ⟨_, rfl⟩
    rw [hn2] at M2 ⊢
    clear o2 k2 C1 hn2
    -- 2 kind, A2 n2 c2 the slice, M2.out its fact at the world ahead (ChkV), R2 the result's block, K2 keeping, AF equation
    have y0 := R2.out.cellD 0 _ rfl
    have y1 := R2.out.cellD 1 _ rfl
    have y2 := R2.out.cellD 2 _ rfl
    have z0 := R2.out.frozen 0
    have z1 := R2.out.frozen 1
    have z2 := R2.out.frozen 2
    have HBZ := Lib.hid (((R2.out.set 0 (.int .i64 2)).set 1 (.int .i64 0)).set 2 (.slice A2 n2 c2))
    have KZ := ((((Keeps.refl (fun b => b = w.heap.size + 1) w2).setCell ⟨w.heap.size + 1, 0, none⟩ (.int .i64 2) (fun _ => rfl)).setCell ⟨w.heap.size + 1, 1, none⟩ (.int .i64 0) (fun _ => rfl)).setCell ⟨w.heap.size + 1, 2, none⟩ (.slice A2 n2 c2) (fun _ => rfl))
    have HKZ := Lib.hid (K2.out.trans KZ (T := None) (fun _ h => h) (fun b hb e => absurd e (by omega)))
    have HMZ := Lib.hid (M2.out.keeps KZ (fun b hb e => absurd e (by have h1 := hb; omega)))
    clear KZ
    go_wp2
    refine bodyPost_ret (cell_res1 rfl _ HBZ.out Try.underlying58 rfl rec_size rfl) rfl ?_
    exact ⟨_, _, _, by rw [AF.out]; rfl, by rw [AF.out]; exact HMZ.out.mono (fun b hb => by have h1 := hb; omega), HKZ.out⟩
  have d1 : (a.k == 1) = false := by simpa using q1
  by_cases q2 : a.k = 2
  · rw [q2] at a0 b0
    have AF : Hid (actRec a = ⟨3, 0, chkL a.ck⟩) := by show _ = _; unfold actRec; rw [if_neg q1, if_pos q2]
    have C1 := Lib.hid (lgputk_any a.ck AO0.out.k a.kA a.kn a.kc w0 AO0.out.m)
    unfold Chk.v at C1
    clear q1 q2 d1
    go_enter Try.func28, Try.ntmps28
    go_wp2_with (refine wpList_load_blk (b := w.heap.size) (o := 71) (ds := a.ck.cs a.kA a.kn a.kc) CB.out (fun j v hv => AV.cs_chk AO.out j v hv) rfl rfl rfl Try.underlying29 rfl (by rw [Chk.cs_len AO.out.k]; exact chk_size) ?_)
    go_wp2_with fail
    refine C1.out.mono ?_
    rintro e w2 ⟨v2, rfl, o2, k2⟩
    obtain ⟨A2, c2, rfl, -, -⟩ := o2.shape
    have M2 := Lib.hid (chkV_own o2)
    have R2 := Lib.hid (k2.blk RB.out (fun h => h))
    have K2 := Lib.hid (K0.out.trans k2 (T := None) (fun _ h => h) (fun _ _ h => h))
    obtain ⟨n2, hn2⟩ : ∃ x, (chkL a.ck).length = x := ⟨_, rfl⟩
    rw [hn2] at M2 ⊢
    clear o2 k2 C1 hn2
    -- 3 kind, A2 n2 c2 the slice, M2.out its fact at the world ahead (ChkV), R2 the result's block, K2 keeping, AF equation
    have y0 := R2.out.cellD 0 _ rfl
    have y1 := R2.out.cellD 1 _ rfl
    have y2 := R2.out.cellD 2 _ rfl
    have z0 := R2.out.frozen 0
    have z1 := R2.out.frozen 1
    have z2 := R2.out.frozen 2
    have HBZ := Lib.hid (((R2.out.set 0 (.int .i64 3)).set 1 (.int .i64 0)).set 2 (.slice A2 n2 c2))
    have KZ := ((((Keeps.refl (fun b => b = w.heap.size + 1) w2).setCell ⟨w.heap.size + 1, 0, none⟩ (.int .i64 3) (fun _ => rfl)).setCell ⟨w.heap.size + 1, 1, none⟩ (.int .i64 0) (fun _ => rfl)).setCell ⟨w.heap.size + 1, 2, none⟩ (.slice A2 n2 c2) (fun _ => rfl))
    have HKZ := Lib.hid (K2.out.trans KZ (T := None) (fun _ h => h) (fun b hb e => absurd e (by omega)))
    have HMZ := Lib.hid (M2.out.keeps KZ (fun b hb e => absurd e (by have h1 := hb; omega)))
    clear KZ
    go_wp2
    refine bodyPost_ret (cell_res1 rfl _ HBZ.out Try.underlying58 rfl rec_size rfl) rfl ?_
    exact ⟨_, _, _, by rw [AF.out]; rfl, by rw [AF.out]; exact HMZ.out.mono (fun b hb => by have h1 := hb; omega), HKZ.out⟩
  have d2 : (a.k == 2) = false := by simpa using q2
  have AF : Hid (actRec a = ⟨4, 0, []⟩) := by show _ = _; unfold actRec; rw [if_neg q1, if_neg q2]
  have MN := Lib.hid (ChkV.nil w0 (fun b => w0.heap.size ≤ b))
  go_enter Try.func28, Try.ntmps28
  -- 4 kind, none 0 0 the slice, MN.out its fact at the world ahead (ChkV), RB the result's block, K0 keeping, AF equation
  have y0 := RB.out.cellD 0 _ rfl
  have y1 := RB.out.cellD 1 _ rfl
  have y2 := RB.out.cellD 2 _ rfl
  have z0 := RB.out.frozen 0
  have z1 := RB.out.frozen 1
  have z2 := RB.out.frozen 2
  have HBZ := Lib.hid (((RB.out.set 0 (.int .i64 4)).set 1 (.int .i64 0)).set 2 (.slice none 0 0))
  have KZ := ((((Keeps.refl (fun b => b = w.heap.size + 1) w0).setCell ⟨w.heap.size + 1, 0, none⟩ (.int .i64 4) (fun _ => rfl)).setCell ⟨w.heap.size + 1, 1, none⟩ (.int .i64 0) (fun _ => rfl)).setCell ⟨w.heap.size + 1, 2, none⟩ (.slice none 0 0) (fun _ => rfl))
  have HKZ := Lib.hid (K0.out.trans KZ (T := None) (fun _ h => h) (fun b hb e => absurd e (by omega)))
  have HMZ := Lib.hid (MN.out.keeps KZ (fun b hb e => absurd e (by have h1 := hb; omega)))
  clear KZ
  go_wp2
  refine bodyPost_ret (cell_res1 rfl _ HBZ.out Try.underlying58 rfl rec_size rfl) rfl ?_
  exact ⟨_, _, _, by rw [AF.out]; rfl, by rw [AF.out]; exact HMZ.out.mono (fun b hb => by have h1 := hb; omega), HKZ.out⟩
end Go.Proofs.Ytfldgaiiniknpaa
