
/- LedgerBack: the records of what any records say, say it too, and are two at most. -/
import Derived.Test.YtfldgaiiniknpaaLBkXLgFloor
import Derived.Test.YtfldgaiiniknpaaLBkXLgSame
namespace Go.Proofs.Ytfldgaiiniknpaa
open Go.RowKit Go.ChangeShapes Go.WideShapes Go.Deep

set_option maxRecDepth 100000 in
set_option maxHeartbeats 6400000 in
theorem back23_any (A0 : Option Addr) (n0 c0 : Nat) (rs : List RV) (W : World) (h0 : Rws W A0 n0 c0 rs) (b0 : Bds W (fun _ => True) rs) :
    Calls Try.prog 5 #[.slice A0 n0 c0] W fun e W' => e = .returned (.bool true) ∧ Below W.heap.size W W' := by
  have y0 := h0.le
  have x0 := h0.max
  have H0 := Lib.hid h0
  have B0 := Lib.hid b0
  have AL := Lib.hid (alive23_any W)
  clear h0 b0
  go_enter Try.func5, Try.ntmps5
  go_wp2_with fail
  refine AL.out.mono ?_
  rintro e w1 ⟨rfl, k1⟩
  have K1 := Lib.hid k1
  clear k1 AL
  by_cases g1 : 20 < n0
  · have d1 : decide (20 < (n0 : Int)) = true := decide_eq_true (by omega)
    go_wp2
    go_ret
    exact ⟨rfl, K1.out.below (fun _ _ h => h)⟩
  have d1 : decide (20 < (n0 : Int)) = false := decide_eq_false (by omega)
  have FA := Lib.hid (fun w (k : Keeps None W w) => lgfold_any _ _ _ _ _ w (H0.out.later k) (B0.out.later k))
  have HA := Lib.hid (foldS_inv (byt_map B0.out))
  obtain ⟨sa, hsa⟩ : ∃ x, foldS (rs.map RV.r) = x := ⟨_, rfl⟩
  rw [hsa] at FA HA
  have AO := Lib.hid HA.out.ok
  clear hsa
  go_wp2_with fail
  refine (FA.out _ K1.out).mono ?_
  rintro e w4 ⟨A4, n4, c4, rfl, m4, k4⟩
  have K4 := Lib.hid (K1.out.trans k4 (T := None) (fun _ h => h) (fun _ _ h => h))
  have M4 := Lib.hid m4.lt
  clear m4 k4 FA
  unfold St.v
  -- a state that Fold gives, put into a block: w4 the world ahead, sa state, A4 n4 c4 its slice, AO its fact, w5 behind
  have NBx := Lib.hid (Blk.new w4 (stZ.cs none 0 0) 39)
  have KNx : Hid (Keeps None w4 ((w4).alloc (.cells (stZ.cs none 0 0).toArray 39))) := (Keeps.refl None w4).alloc _
  rw [← st_zero] at NBx KNx
  go_wp2_with (refine wpList_store_blk (b := (w4).heap.size) (o := 0) (ds := St.cs sa A4 n4 c4) NBx.out (by rw [St.cs_len AO.out, St.cs_len stZ_ok]; decide) (St.cs_one _ _ _ _) rfl rfl rfl rfl (by rw [St.cs_len AO.out]; exact st_size) ?_)
  intro w5 bx kx
  rw [splice_all (by rw [St.cs_len AO.out, St.cs_len stZ_ok])] at bx
  have SBw5 := Lib.hid bx
  have Kw5 := Lib.hid (KNx.out.trans kx (T := None) (fun _ h => h) (fun b hb e => absurd e (by omega)))
  clear bx kx NBx KNx
  have K5 := Lib.hid (K4.out.trans Kw5.out (T := None) (fun _ h => h) (fun _ _ h => h))
  have M5 := Lib.hid (M4.out.later Kw5.out)
  have RC := Lib.hid (lgrecs_any sa AO.out A4 n4 c4 _ w5 M5.out)
  unfold St.v at RC
  obtain ⟨sb, hsb⟩ : ∃ x, w4.heap.size = x := ⟨_, rfl⟩
  rw [hsb] at SBw5 ⊢
  have SZ := SBw5.out.lt
  clear hsb K4 M4 Kw5
  go_wp2_with (refine wpList_load_blk (b := sb) (o := 0) (ds := sa.cs A4 n4 c4) SBw5.out (fun j v hv => by rw [Nat.zero_add]; exact hv) rfl rfl rfl Try.underlying39 rfl (by rw [St.cs_len AO.out]; exact st_size) ?_)
  go_wp2_with fail
  refine RC.out.mono ?_
  rintro e w6 ⟨v6, rs6, rfl, cp6, hm6⟩
  obtain ⟨A6, c6, rfl, r6, -⟩ := cp6.o.shape
  have q6 := r6.le
  have q7 := r6.max
  have LR : rs6.length ≤ 2 := by
    have h1 := congrArg List.length hm6
    have h2 := recsS_len sa
    rw [List.length_map] at h1
    omega
  have FD := Lib.hid (fun w (k : Keeps None w6 w) => lgfold_any _ _ _ _ _ w (r6.later k) (cp6.bd.later k))
  rw [hm6, fold_recs HA.out] at FD
  have K6 := Lib.hid (K5.out.trans cp6.k (T := None) (fun _ h => h) (fun _ _ h => h))
  have SB6 := Lib.hid (cp6.k.blk SBw5.out (fun h => h))
  have M6 := Lib.hid (M5.out.later cp6.k)
  have LD : Hid (∀ w', Keeps None w6 w' → (Instr.loadAt 39 (.pointer (some ⟨sb, 0, none⟩))).run Try.prog w' = .ok (.agg (sa.cs A4 n4 c4).toArray) w') := fun w' k =>
    run_loadAt_mid w' sb 0 39 (sa.cs A4 n4 c4) _ (blk_range (k.blk SB6.out (fun h => h)) (fun j v hv => by rw [Nat.zero_add]; exact hv)) Try.underlying39 rfl (by rw [St.cs_len AO.out]; exact st_size)
  obtain ⟨n6, hn6⟩ : ∃ x, rs6.length = x := ⟨_, rfl⟩
  rw [hn6] at FD q6 LR ⊢
  have d2 : decide ((n6 : Int) ≤ 2) = true := decide_eq_true (by omega)
  have KR := Lib.hid (Keeps.refl None w6)
  clear hm6 cp6 r6 hn6 SBw5 K5 M5 RC d1
  go_wp2
  obtain ⟨mS, mh⟩ : ∃ S : World → Prop, ∀ w', S w' ↔ (((Instr.loadAt 39 (.pointer (some ⟨sb, 0, none⟩))).run Try.prog w' = .ok (.agg (sa.cs A4 n4 c4).toArray) w')) := ⟨_, fun _ => Iff.rfl⟩
  have mk0 : ∀ x : Memb mS, (Instr.loadAt 39 (.pointer (some ⟨sb, 0, none⟩))).run Try.prog x.at_ = .ok (.agg (sa.cs A4 n4 c4).toArray) x.at_ := fun x => ((mh _).1 x.is)
  have mn : Nonempty (Memb mS) := ⟨⟨(w6).drew, (mh _).2 (LD.out _ KR.out.drew)⟩⟩
  have mH := Lib.hid mh
  clear mh
  refine wp_region_mix [5, 7] (InS mS) (by kernel_rfl) (by kernel_rfl) (InS.mk ((mH.out _).2 (LD.out _ KR.out.drew))) ?_
  refine wpMix_seg 5 (by kernel_rfl) (by decide) ?_
  simp only [List.take_succ_cons, List.take_zero, List.drop_succ_cons, List.drop_zero]
  repeat (first | go_big_quiet_step (fail) | (go_big_quiet_want; first | refine quiet_load mk0 rfl rfl rfl (by simp only [Act.put, List.setIfInBounds_toArray, List.set_cons_succ, List.set_cons_zero]; rfl) ?_; go_big_quiet_on))
  refine wpQuiet_nil ?_
  refine wpMix_eff (by kernel_rfl) ?_
  go_wp2_with fail
  refine (FD.out _ KR.out.drew).mono ?_
  rintro e w7 ⟨A7, n7, c7, rfl, m7, k7⟩
  have K7 := Lib.hid (KR.out.drew.trans k7 (T := None) (fun _ h => h) (fun _ _ h => h))
  have M7 := Lib.hid m7
  clear m7 k7
  unfold St.v
  go_wp2
  refine MixK.on (InS.mk ((mH.out _).2 (LD.out _ K7.out))) ?_
  refine wpMix_seg 1 (by kernel_rfl) (by decide) ?_
  simp only [List.take_succ_cons, List.take_zero, List.drop_succ_cons, List.drop_zero]
  repeat (first | go_big_quiet_step (fail) | (go_big_quiet_want; first | refine quiet_load mk0 rfl rfl rfl (by simp only [Act.put, List.setIfInBounds_toArray, List.set_cons_succ, List.set_cons_zero]; rfl) ?_; go_big_quiet_on))
  refine wpQuiet_nil ?_
  refine wpMix_eff (by kernel_rfl) ?_
  go_wp2_with fail
  refine (rgsame_refl sa sa rfl AO.out AO.out A7 A4 n7 c7 n4 c4 _ M7.out.b (M6.out.b.keeps K7.out (fun _ _ _ _ _ h => h))).mono ?_
  rintro e w8 ⟨rfl, k8⟩
  have K8 := Lib.hid (K7.out.trans k8 (T := None) (fun _ h => h) (fun _ _ h => h))
  clear k8
  go_wp2
  refine MixK.on (InS.mk ((mH.out _).2 (LD.out _ K8.out))) ?_
  refine wpMix_seg 2 (by kernel_rfl) (by decide) ?_
  simp only [List.take_succ_cons, List.take_zero, List.drop_succ_cons, List.drop_zero]
  repeat (first | go_big_quiet_step (fail) | (go_big_quiet_want; first | refine quiet_load mk0 rfl rfl rfl (by simp only [Act.put, List.setIfInBounds_toArray, List.set_cons_succ, List.set_cons_zero]; rfl) ?_; go_big_quiet_on))
  refine wpQuiet_nil ?_
  refine wpMix_nil ?_
  clear mk0 mn mH
  go_wp2
  go_ret
  exact ⟨rfl, (K6.out.trans K8.out (T := None) (fun _ h => h) (fun _ _ h => h)).below (fun _ _ h => h)⟩
set_option maxRecDepth 100000 in
theorem LedgerBack_lifted (os : Os) (started : os.Started) (H : Type) (enc : TypeId × Value → H) :
    ReturnsInHanded {} Try.checked os 5 .any (Rows.ledgerBackSpec.pre6 enc Try.prog Try.f5 Rows.ledgerBackRow.domain false) (Rows.ledgerBackSpec.post enc Try.prog Try.f5 false true false false) := by
  refine returnsInHanded_of_change_sized (C := Try.checked) Try.own started (by kernel_rfl) Try.func5
    (ChangeSpec.witness6 (enc := enc) (C := Try.checked) false ⟨#[], #[.slice none 0 0], []⟩ 8 (by kernel_rfl) (by kernel_rfl) (by kernel_rfl) (by kernel_rfl)) ?_
  intro W base args ds gs before hval0 hW hcnd hsz0 _
  have hsz : (DataW.weightsEach Try.prog (Try.f5.params.toList ++ []) (ds ++ gs)).all (· ≤ reachBytes) = true := hsz0
  have hval : ∀ (j : Nat) t v, Try.f5.params[j]? = some t → args[j]? = some v → Value.okWide Try.prog W .any base t v := hval0
  have hW' := hW
  obtain ⟨p, q, hA0, hV, rfl, hfz, hnd⟩ := hW
  have hA : DataW.TrodAll enc Try.prog W 0 (fun _ => true) true Try.f5.params.toList args.toList ds p := hA0
  rw [Try.params5] at hA hval hsz
  obtain ⟨v0, vs0, d0, ds0, p0, q0, hargs, rfl, rfl, h0, r0⟩ := trodAll_cons hA
  obtain ⟨rfl, rfl, rfl⟩ := trodAll_nil r0
  obtain rfl : args = #[v0] := by cases args; simp_all
  obtain ⟨rfl, rfl⟩ := trodVars_none hV
  have k0 := h0
  have lt0 : ∀ x ∈ p0, x.block < W.heap.size := by obtain ⟨m, hm⟩ := k0; exact DataW.trod_lt m _ _ _ hm
  obtain ⟨a0, len0, cap0, rfl⟩ := okWide_slice Try.underlying41 (hval 0 41 v0 rfl rfl)
  obtain ⟨z0, s0, b0⟩ := open_recs h0
  have bl0 := recs_sized h0 (fun k hk => by have := List.all_eq_true.1 hsz k (DataW.weights_mem_each (j := 0) (t := 41) rfl rfl k hk); simpa using this) s0
  clear hA0 hval0 hsz0
  refine (back23_any a0 len0 cap0 z0 W s0 b0).mono fun e W' ⟨he, bel⟩ => ?_
  subst he
  exact ⟨_, rfl, _, _, _, [], _, [], hW', trodAll_mk1 (shut_bool Try.underlying4 _), (trodAll_cons_mk (Below.trod Try.laidOut (by kernel_rfl) (of_decide_eq_true (by kernel_rfl)) k0 bel lt0) trodAll_mk0), rfl, bel.frame _, fun h => by cases h⟩

set_option maxRecDepth 100000 in
theorem LedgerBack_closed : joinedFacts Try.checked.prog 5 Try.f5 Rows.ledgerBackSpec Rows.ledgerBackRow = true := by
  unfold joinedFacts
  rw [closed_laid, closed_maps, closed_heard, closed_plain, closed_mayEnter, closed_lifts, closed_make]
  kernel_rfl

theorem LedgerBack_holds : Rows.LedgerBackSaid :=
  OpenClaim.holds_of_wide 5 Try.f5 rfl rfl rfl rfl rfl rfl rfl ⟨rfl, rfl, rfl, rfl, rfl⟩ rfl rfl rfl rfl rfl (by kernel_rfl) Try.func5 LedgerBack_closed
    (of_decide_eq_true (by kernel_rfl)) (by unfold Func.isWrapper; first | (rw [if_pos (by decide +kernel)]; kernel_rfl) | (rw [if_neg (by decide +kernel)]; exact ⟨rfl, rfl⟩))
    (fun os started H enc _ => LedgerBack_lifted os started H enc)
#print axioms LedgerBack_holds
end Go.Proofs.Ytfldgaiiniknpaa
