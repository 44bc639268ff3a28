
/- LedgerFolds: Fold of any records, and Records of any state, are the reference's. Conditions: none but the law's own. -/
import Derived.Test.YtfldgaiiniknpaaLFoXLgFloor
import Derived.Test.YtfldgaiiniknpaaLFoXLgArg2
import Derived.Test.YtfldgaiiniknpaaLFoXLgSame
import Derived.Test.YtfldgaiiniknpaaLFoXLgRefRecs
import Derived.Test.YtfldgaiiniknpaaLFoXJlSame
import Derived.Test.YtfldgaiiniknpaaLFoXJlSized
import Derived.Test.YtfldgaiiniknpaaLFob
namespace Go.Proofs.Ytfldgaiiniknpaa
open Go.RowKit Go.ChangeShapes Go.WideShapes Go.Deep

set_option maxRecDepth 100000 in
set_option maxHeartbeats 6400000 in
theorem folds23_any (A0 : Option Addr) (n0 c0 : Nat) (rs : List RV) (s : St) (os : s.ok) (A : Option Addr) (n cap : Nat) (W : World) (h0 : Rws W A0 n0 c0 rs) (b0 : Bds W (fun _ => True) rs) (hm : Bs W A n cap s.k.mid) :
    Calls Try.prog 4 #[.slice A0 n0 c0, s.v A n cap] W fun e W' => e = .returned (.bool true) ∧ Below W.heap.size W W' := by
  have y0 := h0.le
  have x0 := h0.max
  have y1 := hm.le
  have x1 := hm.max
  have H0 := Lib.hid h0
  have B0 := Lib.hid b0
  have L0 := Lib.hid h0.len
  have OS := Lib.hid os
  have HM : Hid (ChkV W (fun b => b < W.heap.size) A n cap s.k.mid) := ⟨hm, fun g off h0 e => ⟨hm.blt h0 e, hm.blt h0 e⟩⟩
  obtain ⟨w0, hw0⟩ : ∃ x, W.alloc (.cells (s.cs A n cap).toArray 39) = x := ⟨_, rfl⟩
  have SB0 : Hid (Blk w0 W.heap.size (s.cs A n cap) 39) := by rw [← hw0]; exact Blk.new W (s.cs A n cap) 39
  have K0 : Hid (Keeps None W w0) := by rw [← hw0]; exact (Keeps.refl None W).alloc _
  have AL := Lib.hid (alive23_any w0)
  unfold St.v
  obtain ⟨V, hV⟩ : ∃ V, (s.cs A n cap).toArray = V := ⟨_, rfl⟩
  rw [hV] at hw0 ⊢
  have HV := Lib.hid hV
  clear h0 b0 hm os hV
  go_enter Try.func4, Try.ntmps4
  go_wp2_with fail
  refine AL.out.mono ?_
  rintro e w1 ⟨rfl, k1⟩
  have K1 := Lib.hid (K0.out.trans k1 (T := None) (fun _ h => h) (fun _ _ h => h))
  have SB := Lib.hid (k1.blk SB0.out (fun h => h))
  have s81 := SB.out.cellD 81 _ (St.cs_mid OS.out A n cap)
  clear k1 SB0 K0 hw0 AL
  by_cases g1 : 20 < n0
  · have d1 : decide (20 < (n0 : Int)) = true := decide_eq_true (by omega)
    go_wp2
    go_ret
    exact ⟨rfl, K1.out.below (fun _ _ h => h)⟩
  have d1 : decide (20 < (n0 : Int)) = false := decide_eq_false (by omega)
  by_cases g2 : 300 < n
  · have d2 : decide (300 < (n : Int)) = true := decide_eq_true (by omega)
    go_wp2
    go_ret
    exact ⟨rfl, K1.out.below (fun _ _ h => h)⟩
  have d2 : decide (300 < (n : Int)) = false := decide_eq_false (by omega)
  have GG : Hid (n0 ≤ 20) := by show _ ≤ _; omega
  clear g1 g2
  have FA := Lib.hid (fun w A2 c2 (r : Rws w A2 n0 c2 rs) (k : Keeps None W w) => lgfold_any A2 n0 c2 rs _ w r (B0.out.later k))
  have FR := Lib.hid (fun w (k : Keeps None W w) => rgfold_any _ _ _ _ _ w (H0.out.later k) (B0.out.later k))
  have FO := Lib.hid (foldS_inv (byt_map B0.out)).ok
  obtain ⟨sf, hsf⟩ : ∃ x, foldS (rs.map RV.r) = x := ⟨_, rfl⟩
  rw [hsf] at FA FR FO
  have RC := Lib.hid (fun w (k : Keeps None W w) => lgrecs_any s OS.out A n cap _ w (HM.out.later k))
  have RR := Lib.hid (fun w (k : Keeps None W w) => rgrecs_any s OS.out A n cap _ w (HM.out.later k))
  unfold St.v at RC RR
  rw [HV.out] at RC RR
  have LD : Hid (∀ w', Keeps None w1 w' → (Instr.loadAt 39 (.pointer (some ⟨W.heap.size, 0, none⟩))).run Try.prog w' = .ok (.agg V) w') := fun w' k => by
    rw [← HV.out]
    exact run_loadAt_mid w' W.heap.size 0 39 (s.cs A n cap) _ (blk_range (k.blk SB.out (fun h => h)) (fun j v hv => by rw [Nat.zero_add]; exact hv)) Try.underlying39 rfl (by rw [St.cs_len OS.out]; exact st_size)
  have KR := Lib.hid (Keeps.refl None w1)
  clear hsf
  go_wp2
  clear s81 d1 d2
  obtain ⟨mS, mh⟩ : ∃ S : World → Prop, ∀ w', S w' ↔ (((Instr.loadAt 39 (.pointer (some ⟨W.heap.size, 0, none⟩))).run Try.prog w' = .ok (.agg V) w')) := ⟨_, fun _ => Iff.rfl⟩
  have mk0 : ∀ x : Memb mS, (Instr.loadAt 39 (.pointer (some ⟨W.heap.size, 0, none⟩))).run Try.prog x.at_ = .ok (.agg V) x.at_ := fun x => ((mh _).1 x.is)
  have mn : Nonempty (Memb mS) := ⟨⟨(w1).drew, (mh _).2 (LD.out _ KR.out.drew)⟩⟩
  have mH := Lib.hid mh
  clear mh
  refine wp_region_mix [1, 2, 4, 5, 8, 10, 11] (InS mS) (by kernel_rfl) (by kernel_rfl) (InS.mk ((mH.out _).2 (LD.out _ KR.out.drew))) ?_
  refine wpMix_seg 1 (by kernel_rfl) (by decide) ?_
  simp only [List.take_succ_cons, List.take_zero, List.drop_succ_cons, List.drop_zero]
  repeat (first | go_big_quiet_step (fail) | (go_big_quiet_want; first | refine quiet_load mk0 rfl rfl rfl (by simp only [Act.put, List.setIfInBounds_toArray, List.set_cons_succ, List.set_cons_zero]; rfl) ?_; go_big_quiet_on))
  refine wpQuiet_nil ?_
  refine wpMix_eff (by kernel_rfl) ?_
  go_wp2_with (at_builtin; refine Hid.out ?_)
  refine Lib.hid ?_
  refine wpList_append_recs (OwnR.nil _ _) (H0.out.later K1.out.drew) (by have := GG.out; simp; omega) (Nat.le_refl _) (by rfl) (by rfl) (by rfl) (by rfl) (by rfl) ?_
  intro v2 w2 o2 k2 _
  rw [List.nil_append] at o2
  obtain ⟨A2, c2, rfl, r2, -⟩ := o2.shape
  have q2 := r2.le
  have q3 := r2.max
  rw [L0.out] at r2 q2 ⊢
  have R2 := Lib.hid r2
  have X2 : Hid (Keeps None w1 w2) := KR.out.drew.trans k2 (fun _ h => h) (fun i hi e => by simp [Value.ownBlock] at e)
  clear o2 k2 r2
  go_wp2
  refine MixK.on (InS.mk ((mH.out _).2 (LD.out _ X2.out))) ?_
  refine wpMix_eff (by kernel_rfl) ?_
  go_wp2_with fail
  refine (FA.out _ _ _ R2.out (K1.out.trans X2.out (T := None) (fun _ h => h) (fun _ _ h => h))).mono ?_
  rintro e w3 ⟨A3, n3, c3, rfl, m3, k3⟩
  have M3 := Lib.hid m3
  have X3 : Hid (Keeps None w1 w3) := X2.out.trans k3 (fun _ h => h) (fun _ _ h => h)
  clear m3 k3 FA R2
  unfold St.v
  go_wp2
  refine MixK.on (InS.mk ((mH.out _).2 (LD.out _ X3.out))) ?_
  refine wpMix_seg 1 (by kernel_rfl) (by decide) ?_
  simp only [List.take_succ_cons, List.take_zero, List.drop_succ_cons, List.drop_zero]
  repeat (first | go_big_quiet_step (fail) | (go_big_quiet_want; first | refine quiet_load mk0 rfl rfl rfl (by simp only [Act.put, List.setIfInBounds_toArray, List.set_cons_succ, List.set_cons_zero]; rfl) ?_; go_big_quiet_on))
  refine wpQuiet_nil ?_
  refine wpMix_eff (by kernel_rfl) ?_
  go_wp2_with fail
  refine (FR.out _ (K1.out.trans X3.out (T := None) (fun _ h => h) (fun _ _ h => h))).mono ?_
  rintro e w4 ⟨A4, n4, c4, rfl, m4, k4⟩
  have M4 := Lib.hid m4
  have N3 := Lib.hid (M3.out.later k4)
  have X4 : Hid (Keeps None w1 w4) := X3.out.trans k4 (fun _ h => h) (fun _ _ h => h)
  clear m4 k4 FR M3
  unfold St.v
  go_wp2
  refine MixK.on (InS.mk ((mH.out _).2 (LD.out _ X4.out))) ?_
  refine wpMix_eff (by kernel_rfl) ?_
  go_wp2_with fail
  refine (rgsame_refl sf sf rfl FO.out FO.out A3 A4 n3 c3 n4 c4 _ N3.out.b M4.out.b).mono ?_
  rintro e w5 ⟨rfl, k5⟩
  have X5 : Hid (Keeps None w1 w5) := X4.out.trans k5 (fun _ h => h) (fun _ _ h => h)
  clear k5 N3 M4
  go_wp2
  refine MixK.on (InS.mk ((mH.out _).2 (LD.out _ X5.out))) ?_
  refine wpMix_seg 2 (by kernel_rfl) (by decide) ?_
  simp only [List.take_succ_cons, List.take_zero, List.drop_succ_cons, List.drop_zero]
  repeat (first | go_big_quiet_step (fail) | (go_big_quiet_want; first | refine quiet_load mk0 rfl rfl rfl (by simp only [Act.put, List.setIfInBounds_toArray, List.set_cons_succ, List.set_cons_zero]; rfl) ?_; go_big_quiet_on))
  refine wpQuiet_nil ?_
  refine wpMix_eff (by kernel_rfl) ?_
  go_wp2_with fail
  refine (RC.out _ (K1.out.trans X5.out (T := None) (fun _ h => h) (fun _ _ h => h))).mono ?_
  rintro e w6 ⟨v6, rs6, rfl, cp6, hm6⟩
  obtain ⟨A6, c6, rfl, r6, -⟩ := cp6.o.shape
  have q6 := r6.le
  have q7 := r6.max
  have CP6 := Lib.hid cp6
  have R6 := Lib.hid r6
  have HM6 := Lib.hid hm6
  have X6 : Hid (Keeps None w1 w6) := X5.out.trans cp6.k (fun _ h => h) (fun _ _ h => h)
  obtain ⟨n6, hn6⟩ : ∃ x, rs6.length = x := ⟨_, rfl⟩
  rw [hn6] at q6 R6 ⊢
  clear cp6 r6 hm6 hn6 RC
  go_wp2
  refine MixK.on (InS.mk ((mH.out _).2 (LD.out _ X6.out))) ?_
  refine wpMix_seg 1 (by kernel_rfl) (by decide) ?_
  simp only [List.take_succ_cons, List.take_zero, List.drop_succ_cons, List.drop_zero]
  repeat (first | go_big_quiet_step (fail) | (go_big_quiet_want; first | refine quiet_load mk0 rfl rfl rfl (by simp only [Act.put, List.setIfInBounds_toArray, List.set_cons_succ, List.set_cons_zero]; rfl) ?_; go_big_quiet_on))
  refine wpQuiet_nil ?_
  refine wpMix_eff (by kernel_rfl) ?_
  go_wp2_with fail
  refine (RR.out _ (K1.out.trans X6.out (T := None) (fun _ h => h) (fun _ _ h => h))).mono ?_
  rintro e w7 ⟨v7, rs7, rfl, cp7, hm7⟩
  obtain ⟨A7, c7, rfl, r7, -⟩ := cp7.o.shape
  have q8 := r7.le
  have q9 := r7.max
  have X7 : Hid (Keeps None w1 w7) := X6.out.trans cp7.k (fun _ h => h) (fun _ _ h => h)
  obtain ⟨n7, hn7⟩ : ∃ x, rs7.length = x := ⟨_, rfl⟩
  rw [hn7] at q8 r7 ⊢
  have RS := Lib.hid (rsames_all A6 A7 n6 n7 c6 c7 rs6 rs7 _ _ w7 (R6.out.later cp7.k) r7 (CP6.out.bd.later cp7.k) cp7.bd)
  rw [HM6.out, hm7, decide_eq_true rfl] at RS
  clear cp7 r7 hm7 hn7 RR
  go_wp2
  refine MixK.on (InS.mk ((mH.out _).2 (LD.out _ X7.out))) ?_
  refine wpMix_eff (by kernel_rfl) ?_
  go_wp2_with fail
  refine RS.out.mono ?_
  rintro e w8 ⟨rfl, k8⟩
  have X8 : Hid (Keeps None w1 w8) := X7.out.trans k8 (fun _ h => h) (fun _ _ h => h)
  clear k8 RS
  go_wp2
  refine MixK.on (InS.mk ((mH.out _).2 (LD.out _ X8.out))) ?_
  refine wpMix_seg 2 (by kernel_rfl) (by decide) ?_
  simp only [List.take_succ_cons, List.take_zero, List.drop_succ_cons, List.drop_zero]
  repeat (first | go_big_quiet_step (fail) | (go_big_quiet_want; first | refine quiet_load mk0 rfl rfl rfl (by simp only [Act.put, List.setIfInBounds_toArray, List.set_cons_succ, List.set_cons_zero]; rfl) ?_; go_big_quiet_on))
  refine wpQuiet_nil ?_
  refine wpMix_nil ?_
  clear mk0 mn mH
  go_wp2
  go_ret
  exact ⟨rfl, (K1.out.trans X8.out (T := None) (fun _ h => h) (fun _ _ h => h)).below (fun _ _ h => h)⟩
set_option maxRecDepth 100000 in
theorem LedgerFolds_lifted (os : Os) (started : os.Started) (H : Type) (enc : TypeId × Value → H) :
    ReturnsInHanded {} Try.checked os 4 .any (Rows.ledgerFoldsSpec.pre6 enc Try.prog Try.f4 Rows.ledgerFoldsRow.domain false) (Rows.ledgerFoldsSpec.post enc Try.prog Try.f4 false true false false) := by
  refine returnsInHanded_of_change_sized (C := Try.checked) Try.own started (by kernel_rfl) Try.func4
    (ChangeSpec.witness6 (enc := enc) (C := Try.checked) false ⟨#[], #[.slice none 0 0, stZ.v none 0 0], []⟩ 8 (by kernel_rfl) (by kernel_rfl) (by kernel_rfl) (by kernel_rfl)) ?_
  intro W base args ds gs before hval0 hW hcnd hsz0 _
  have hsz : (DataW.weightsEach Try.prog (Try.f4.params.toList ++ []) (ds ++ gs)).all (· ≤ reachBytes) = true := hsz0
  have hval : ∀ (j : Nat) t v, Try.f4.params[j]? = some t → args[j]? = some v → Value.okWide Try.prog W .any base t v := hval0
  have hW' := hW
  obtain ⟨p, q, hA0, hV, rfl, hfz, hnd⟩ := hW
  have hA : DataW.TrodAll enc Try.prog W 0 (fun _ => true) true Try.f4.params.toList args.toList ds p := hA0
  rw [Try.params4] at hA hval hsz
  obtain ⟨v0, vs0, d0, ds0, p0, q0, hargs, rfl, rfl, h0, r0⟩ := trodAll_cons hA
  obtain ⟨v1, vs1, d1, ds1, p1, q1, rfl, rfl, rfl, h1, r1⟩ := trodAll_cons r0
  obtain ⟨rfl, rfl, rfl⟩ := trodAll_nil r1
  obtain rfl : args = #[v0, v1] := by cases args; simp_all
  obtain ⟨rfl, rfl⟩ := trodVars_none hV
  have k0 := h0
  have lt0 : ∀ x ∈ p0, x.block < W.heap.size := by obtain ⟨m, hm⟩ := k0; exact DataW.trod_lt m _ _ _ hm
  obtain ⟨a0, len0, cap0, rfl⟩ := okWide_slice Try.underlying41 (hval 0 41 v0 rfl rfl)
  obtain ⟨z0, s0, b0⟩ := open_recs h0
  have bl0 := recs_sized h0 (fun k hk => by have := List.all_eq_true.1 hsz k (DataW.weights_mem_each (j := 0) (t := 41) rfl rfl k hk); simpa using this) s0
  have k1 := h1
  have lt1 : ∀ x ∈ p1, x.block < W.heap.size := by obtain ⟨m, hm⟩ := k1; exact DataW.trod_lt m _ _ _ hm
  obtain ⟨c1, a1, len1, cap1, o1, rfl, s1⟩ := open_state (hval 1 39 v1 rfl rfl) h1
  clear hA0 hval0 hsz0
  refine (folds23_any a0 len0 cap0 z0 c1 o1 a1 len1 cap1 W s0 b0 s1).mono fun e W' ⟨he, bel⟩ => ?_
  subst he
  exact ⟨_, rfl, _, _, _, [], _, [], hW', trodAll_mk1 (shut_bool Try.underlying4 _), (trodAll_cons_mk (Below.trod Try.laidOut (by kernel_rfl) (of_decide_eq_true (by kernel_rfl)) k0 bel lt0) (trodAll_cons_mk (Below.trod Try.laidOut (by kernel_rfl) (of_decide_eq_true (by kernel_rfl)) k1 bel lt1) trodAll_mk0)), rfl, bel.frame _, fun h => by cases h⟩

set_option maxRecDepth 100000 in
theorem LedgerFolds_closed : joinedFacts Try.checked.prog 4 Try.f4 Rows.ledgerFoldsSpec Rows.ledgerFoldsRow = true := by
  unfold joinedFacts
  rw [closed_laid, closed_maps, closed_heard, closed_plain, closed_mayEnter, closed_lifts, closed_make]
  kernel_rfl

theorem LedgerFolds_holds : Rows.LedgerFoldsSaid :=
  OpenClaim.holds_of_wide 4 Try.f4 rfl rfl rfl rfl rfl rfl rfl ⟨rfl, rfl, rfl, rfl, rfl⟩ rfl rfl rfl rfl rfl (by kernel_rfl) Try.func4 LedgerFolds_closed
    (of_decide_eq_true (by kernel_rfl)) (by unfold Func.isWrapper; first | (rw [if_pos (by decide +kernel)]; kernel_rfl) | (rw [if_neg (by decide +kernel)]; exact ⟨rfl, rfl⟩))
    (fun os started H enc _ => LedgerFolds_lifted os started H enc)
#print axioms LedgerFolds_holds
end Go.Proofs.Ytfldgaiiniknpaa
