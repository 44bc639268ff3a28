
/- The walk of folder 23's alive. -/
import Derived.Test.YtfldgaiiniknpaaLCuXLg13
namespace Go.Proofs.Ytfldgaiiniknpaa
open Go.RowKit

section
variable {ops : Array Oper} {rest : List Oper} {op : Oper} {a : Act} {w : World} {Q : Exit → Act → World → Prop}
theorem wpList_load_blk_g {b o : Nat} {cs ds : List Value} {T ty : TypeId} {d : TypeDesc} {x : Operand} (h : Blk w b cs T) (hd : ∀ j v, ds[j]? = some v → cs[o + j]? = some v) (hw : Region.wanted op (yielded ops a.tmps) = true) (ho : op.op = .load ty x) (hx : a.eval x = .pointer (some ⟨b, o, none⟩))
    (hu : (Try.prog).underlying ty = some d) (hr : d.isRow = true) (hi : ((Try.prog).info? ty).map (·.size) = some ds.length) (hn : wpList Try.prog ops Q rest (a.put op.dst (.agg ds.toArray)) w) : wpList Try.prog ops Q (op :: rest) a w := by
  refine wpList_step fun K hK => ?_
  rw [if_pos hw]
  exact wp_load_mid ty x ho b o hx ds d (blk_range h hd) hu hr hi (hK _ _ hn)
theorem wpList_field_g {t : TypeId} {x : Operand} {f : Nat} {v u : Value} (hr : (Instr.field t v f).run Try.prog w = .ok u w) (hw : Region.wanted op (yielded ops a.tmps) = true) (ho : op.op = .field t x f) (hx : a.eval x = v)
    (hn : wpList Try.prog ops Q rest (a.put op.dst u) w) : wpList Try.prog ops Q (op :: rest) a w := by
  refine wpList_step fun K hK => ?_
  rw [if_pos hw]
  unfold Oper.wp execOp
  simp only [ho, hx, Sem.run_bind, Sem.run_pure, hr, Result.andThen_ok]
  exact hK _ _ hn
end
theorem field_com (s : St) (o : s.ok) (A : Option Addr) (n cap : Nat) (w : World) : (Instr.field 39 (.agg (s.cs A n cap).toArray) 0).run Try.prog w = .ok (.agg s.c.cs.toArray) w := by
  have hs : (Try.prog.info? 25).map (·.size) = some 68 := com_size
  have hz : ∀ w, (sizeOf 25).run Try.prog w = .ok 68 w := fun w => by
    cases hq : (Try.prog.info? 25) with
    | none => simp [hq] at hs
    | some i => simp [hq] at hs; simp [sizeOf, typeInfo, hq, hs]
  have ha : ∀ w, (isAgg 25).run Try.prog w = .ok true w := fun w => by simp [isAgg, run_underlying Try.underlying25]
  have e : (s.cs A n cap).take 68 = s.c.cs := by
    unfold St.cs
    exact List.take_left' (Com.cs_len o.c)
  simp [Instr.field, run_underlying Try.underlying39, part, asAgg, ha, hz, e]
theorem field_slot (c : Com) (w : World) : (Instr.field 25 (.agg c.cs.toArray) 0).run Try.prog w = .ok (.int .i64 c.slot) w := by
  have ha : ∀ w, (isAgg 3).run Try.prog w = .ok false w := fun w => by simp [isAgg, run_underlying Try.underlying3]
  simp [Instr.field, run_underlying Try.underlying25, part, asAgg, ha, Com.cs]
theorem field_ver (c : Com) (w : World) : (Instr.field 25 (.agg c.cs.toArray) 1).run Try.prog w = .ok (.int .u64 (c.ver : Int)) w := by
  have ha : ∀ w, (isAgg 22).run Try.prog w = .ok false w := fun w => by simp [isAgg, run_underlying Try.underlying22]
  simp [Instr.field, run_underlying Try.underlying25, part, asAgg, ha, Com.cs]
def c0 : Com := ⟨1, 5, 0, 0, List.replicate 64 0⟩
theorem c0_ok : c0.ok := ⟨by decide, by decide, by decide, com0_ok.mb⟩
theorem c0_may : c0.may := by decide
def n0S : St := ⟨c0, false, chk0⟩
theorem next0 : nextS st0 2 (comL c0) = n0S := by
  unfold nextS
  rw [foldS_append, fold_recs st0_inv, List.foldl_cons, List.foldl_nil]
  rw [stepS_com c0_may c0_ok]
  rfl
theorem recs0 : recsS n0S = [⟨2, 0, comL c0⟩] := by
  have h1 : 0 < (comL n0S.c).length := comL_pos.2 c0_may
  unfold recsS
  rw [if_pos h1, if_neg (fun h => by cases h.1)]
  rfl
theorem app0 : appF (newF ((2 : Nat) : Int)) (keptJ 0 (-1) [] []) 2 (comL c0) = (newF ((2 : Nat) : Int), keptJ 0 (-1) [] [], 14) := by
  have hb : Byt (comL c0) := fun z hz => (recsS_byt (st := n0S) ⟨.inr ⟨c0_may, c0_ok⟩, (fun e => by cases e), fun _ => rfl⟩) ⟨2, 0, comL c0⟩ (by rw [recs0]; exact List.mem_singleton.2 rfl) z hz
  have hl : (comL c0).length = 96 := by rw [comL_len c0_may]; rfl
  have e : (keptJ 0 (-1) [] []).room = 0 := by decide
  have hf : fitsR 2 (((([] : List Rec).length : Nat) : Int) + 1) (comL c0).length := by rw [hl]; exact ⟨by decide, by decide, by decide, by decide, by decide⟩
  have h1 := putL_len 2 (((([] : List Rec).length : Nat) : Int) + 1) (comL c0) hf
  rw [hl] at h1
  rcases (Live.new 2 (by decide) (by decide)).app (m := 99) 2 (comL c0) hb with ⟨h, -⟩ | ⟨-, -, h⟩ | ⟨-, -, h, -⟩
  · rcases h with h | h
    · exact absurd h (by decide)
    · exact absurd hf h
  · exact h
  · rw [e, h1] at h
    exact absurd h (by decide)
theorem commit0 : ∃ s' T, commitF (newF ((2 : Nat) : Int)) (keptJ 0 (-1) [] []) st0 c0 = (s', keptJ 1 0 (numR 0 [⟨2, 0, comL c0⟩]) T, n0S, 0) := by
  have hb : ∀ r ∈ [(⟨2, 0, comL c0⟩ : Rec)], Byt r.b := by
    rw [← recs0]
    exact recsS_byt ⟨.inr ⟨c0_may, c0_ok⟩, (fun e => by cases e), fun _ => rfl⟩
  have hl : (comL c0).length = 96 := by rw [comL_len c0_may]; rfl
  unfold commitF
  rw [if_pos c0_may]
  unfold keepF
  rw [app0, next0, recs0]
  rcases (Live.new 2 (by decide) (by decide)).cmp (m := 99) (by decide) [⟨2, 0, comL c0⟩] hb with ⟨h, -⟩ | ⟨s', -, -, -, h1, -⟩
  · have hg : GR ⟨2, 1, comL c0⟩ := ⟨by decide, (by rw [hl]; exact ⟨by decide, by decide, by decide, by decide, by decide⟩), hb ⟨2, 0, comL c0⟩ List.mem_cons_self⟩
    have h2 := hg.len
    have h3 : (pkL [⟨2, 1, comL c0⟩]).length = (Rec.put ⟨2, 1, comL c0⟩).length := by simp [pkL]
    rw [hl] at h2
    have h4 : sizeZ ((96 : Nat) : Int) = 112 := by decide
    rw [h4] at h2
    have h5 := packF_of [⟨2, 1, comL c0⟩] [] (fun r hr => by rw [List.mem_singleton.1 hr]; exact hg) (by rw [h3]; show 0 + _ ≤ _; omega)
    have h6 : numR 0 [(⟨2, 0, comL c0⟩ : Rec)] = [⟨2, 1, comL c0⟩] := rfl
    rw [h6, h5] at h
    cases h
  · refine ⟨s', blk (1008 - (pkL (numR 0 [(⟨2, 0, comL c0⟩ : Rec)])).length), ?_⟩
    simp only [if_true]
    rw [h1]
    rfl
theorem built_c0 : (Try.prog).built 25 #[(0, .int .i64 1), (1, .int .u64 5)].toList = some c0.cs.toArray := by kernel_rfl
set_option maxRecDepth 100000 in
set_option maxHeartbeats 3200000 in
theorem alive23_any (W : World) : Calls Try.prog 7 #[] W fun e w' => e = .returned (.bool true) ∧ Keeps None W w' := by
  have V0 := Lib.hid (Live.new 2 (by decide) (by decide))
  have NW := Lib.hid (lnew (Keeps.refl None W) ((2 : Nat) : Int))
  have CM := Lib.hid commit0
  have OPN := Lib.hid (fun (w : World) B q L (h : LF W w B q L (newF ((2 : Nat) : Int))) => open23_any h V0.out.g V0.out.dark V0.out.keep)
  have CMT := Lib.hid (fun (w : World) B q lb jb X A n cap (h : LG W w B q lb jb X (newF ((2 : Nat) : Int)) (keptJ 0 (-1) [] []) st0 A n cap) => lgcommit_any h V0.out.keep.ok c0 c0_ok (m := 100) (by rw [app0]; exact V0.out.keep.ok) (by rw [app0]; decide) (V0.out.rm.less (by decide)))
  obtain ⟨s1, T, hc⟩ := CM.out
  rw [hc] at CMT
  clear CM hc
  generalize newF ((2 : Nat) : Int) = f0 at *
  go_enter Try.func7, Try.ntmps7
  go_wp2_with fail
  refine NW.out.mono ?_
  rintro e w1 ⟨q, L, rfl, hF⟩
  have HF := Lib.hid hF
  clear hF NW
  go_wp2_with fail
  refine (OPN.out _ _ _ _ HF.out).mono ?_
  rintro e w2 ⟨X, jb, lb, A, n, cap, rfl, g2, -, -, -⟩
  have G2 : Hid (LG W w2 W.heap.size q lb jb X f0 (keptJ 0 (-1) [] []) st0 A n cap) := g2
  clear g2 HF OPN
  go_wp2_with fail
  refine (lgfold_any none 0 0 [] (fun _ => True) w2 (Rws.none w2) (Bds.nil _ _)).mono ?_
  rintro e w3 ⟨A3, n3, c3, rfl, -, k3⟩
  have G3 := Lib.hid (G2.out.later k3)
  have FC := Lib.hid (fun w => field_com st0 st0_ok A3 n3 c3 w)
  have FS0 := Lib.hid (fun w => field_slot st0.c w)
  clear k3 G2
  go_wp2_with (first | (refine wpList_field_g (FC.out _) rfl rfl rfl ?_) | (refine wpList_field_g (FS0.out _) rfl rfl rfl ?_) | (refine wpList_build_run built_c0 rfl rfl (by simp [Act.eval, Act.put]) ?_))
  have CMT2 := Lib.hid (CMT.out _ _ _ _ _ _ _ _ _ G3.out)
  unfold Com.v at CMT2
  clear CMT FC FS0
  go_wp2_with fail
  refine CMT2.out.mono ?_
  rintro e w4 ⟨rfl, X4, A4, n4, c4, g4, -⟩
  have G4 : Hid (LG W w4 W.heap.size q lb jb X4 s1 (keptJ 1 0 (numR 0 [⟨2, 0, comL c0⟩]) T) n0S A4 n4 c4) := g4
  clear g4 CMT2 G3
  go_wp2_with fail
  refine (num23_any _ _).mono ?_
  rintro e wX ⟨rfl, rfl⟩
  have NOK : Hid (n0S.ok) := ⟨c0_ok, chk0_ok⟩
  go_wp2_with fail
  refine (lgstate_any G4.out).mono ?_
  rintro e w5 ⟨A5, n5, c5, rfl, -, k5⟩
  have G5 := Lib.hid (G4.out.later k5)
  have FC := Lib.hid (fun w => field_com n0S NOK.out A5 n5 c5 w)
  have FS0 := Lib.hid (fun w => field_slot n0S.c w)
  clear k5 G4
  go_wp2_with (first | (refine wpList_field_g (FC.out _) rfl rfl rfl ?_) | (refine wpList_field_g (FS0.out _) rfl rfl rfl ?_))
  refine (lgstate_any G5.out).mono ?_
  rintro e w6 ⟨A6, n6, c6, rfl, -, k6⟩
  have G6 := Lib.hid (G5.out.later k6)
  have FD := Lib.hid (fun w => field_com n0S NOK.out A6 n6 c6 w)
  have FV0 := Lib.hid (fun w => field_ver n0S.c w)
  clear k6 G5 FC FS0
  go_wp2_with (first | (refine wpList_field_g (FD.out _) rfl rfl rfl ?_) | (refine wpList_field_g (FV0.out _) rfl rfl rfl ?_))
  go_ret
  exact ⟨rfl, G6.out.lj.keeps⟩
end Go.Proofs.Ytfldgaiiniknpaa
