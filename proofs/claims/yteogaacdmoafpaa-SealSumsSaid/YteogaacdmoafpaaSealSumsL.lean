/-
  For every row of bytes and every byte, the law SealSums returns true: the sum of the bytes, and what comes of the byte, are those of the definition. No condition.
-/
import Derived.Test.YteogaacdmoafpaaSealAl
import Derived.Test.YteogaacdmoafpaaInit
namespace Go.Proofs.Yteogaacdmoafpaa
open Go.RowKit Go.ChangeShapes Go.WideShapes Go.ChangeAt

theorem quiet_index {P : Program} {S : World → Prop} {a a' : Act} {o : Oper} {K : Act → Prop} {t : TypeId} {x ix : Operand} {v iv u : Value} {d : Nat}
    (hm : ∀ w, (Instr.index t v iv).run P w = .ok u w) (h : o.op = .index t x ix) (hd : o.dst = some d) (he : a.eval x = v) (hi : a.eval ix = iv) (ha : a.put (some d) u = a') (hk : K a') : o.quiet P a (InS S) K := by
  refine ⟨u, fun w hw => ?_, by rw [hd, ha]; exact hk⟩
  have e : (execOp a.eval o).run P w = .ok (.value u) w := by
    unfold execOp
    rw [h]
    simp only [Sem.run_bind, Sem.run_pure]
    rw [he, hi, hm w]; rfl
  unfold Oper.quietAt
  rw [e]
  exact ⟨rfl, rfl⟩
theorem Try.info46 : (Try.prog.info? 46).map (fun i => (i.zero, i.size)) = some (some (.int .u32 0), 1) := by kernel_rfl
theorem run_index (T : Array Value) (c : Nat) (v : Value) (hc : c < 256) (hv : T[c]? = some v) (w : World) : (Instr.index 48 (.agg T) (.int .u8 c)).run Try.prog w = .ok v w := by
  have hs : (Try.prog.info? 46).map (·.size) = some 1 := (zero_of_info Try.info46).2
  have hz : ∀ w, (sizeOf 46).run Try.prog w = .ok 1 w := fun w => by
    cases hq : (Try.prog.info? 46) with
    | none => simp [hq] at hs
    | some i => simp [hq] at hs; simp [sizeOf, typeInfo, hq, hs]
  have h2 : (0 : Int) ≤ c ∧ (c : Int) < 256 := by omega
  simp [Instr.index, asIntOf, run_underlying Try.underlying48, hz, h2]
  rw [if_pos hc]
  have ha : ∀ w, (isAgg 46).run Try.prog w = .ok false w := fun w => by simp [isAgg, run_underlying Try.underlying46]
  simp [part, ha, hv]

set_option maxRecDepth 100000 in
set_option maxHeartbeats 1600000 in
theorem sums5_any (A : Option Addr) (n cap : Nat) (zs : List Int) (z : Int) (W : World) (h : Bs W A n cap zs) (hz : 0 ≤ z ∧ z ≤ 255) :
    Calls Try.prog 7 #[.slice A n cap, .int .u8 z] W fun e w' => e = .returned (.bool true) ∧ Below W.heap.size W w' := by
  have ALV : Hid (∀ w, Calls Try.prog 37 #[] w fun e w' => e = .returned (.bool true) ∧ Keeps None w w') := alive5_any
  have hle := h.le
  have hmax := h.max
  by_cases g1 : 700 < n
  · have d1 : decide (700 < (n : Int)) = true := decide_eq_true (by omega)
    clear h
    go_enter Try.func7, Try.ntmps7
    go_wp2_with fail
    refine (ALV.out _).mono ?_
    rintro e w1 ⟨rfl, hk⟩
    go_wp2
    go_ret
    exact ⟨rfl, hk.below (fun _ _ h => h)⟩
  have d1 : decide (700 < (n : Int)) = false := decide_eq_false (by omega)
  obtain ⟨c, rfl⟩ : ∃ c : Nat, z = c := ⟨z.toNat, by omega⟩
  have hc : c < 256 := by omega
  have HB := Lib.hid h
  have SU := Lib.hid (fun w h => ssum_any A n cap zs w h)
  have RS := Lib.hid (fun w h => rsum_any A n cap zs w h)
  have FA := Lib.hid (fun w => rfall_any c hc w)
  have TB := Lib.hid (fun w => stable_any w)
  have IX : (tblL 256).toArray[c]? = some (.int .u32 (halves 8 c)) := by
    have := tblL_get 256 c hc
    rw [if_pos hc] at this
    simpa using this
  have SZ : (tblL 256).toArray.size = 256 := by simp [tblL_len]
  generalize crcOf (natL zs) = S at *
  generalize halves 8 c = hh at *
  have IDX := Lib.hid (run_index _ c _ hc IX)
  generalize (tblL 256).toArray = T at *
  clear h
  go_enter Try.func7, Try.ntmps7
  go_wp2_with fail
  refine (ALV.out _).mono ?_
  rintro e w1 ⟨rfl, hk⟩
  have K1 := Lib.hid hk
  clear hk
  go_wp2
  obtain ⟨mS, mh⟩ : ∃ S : World → Prop, ∀ w', S w' ↔ (True) := ⟨_, fun _ => Iff.rfl⟩
  have mn : Nonempty (Memb mS) := ⟨⟨(w1).drew, (mh _).2 trivial⟩⟩
  have mH := Lib.hid mh
  clear mh
  refine wp_region_mix [1, 3, 6, 10] (InS mS) (by kernel_rfl) (by kernel_rfl) (InS.mk ((mH.out _).2 trivial)) ?_
  refine wpMix_seg 1 (by kernel_rfl) (by decide) ?_
  simp only [List.take_succ_cons, List.take_zero, List.drop_succ_cons, List.drop_zero]
  repeat (first | go_big_quiet_step (fail) | (go_big_quiet_want; first | refine quiet_index IDX.out rfl rfl rfl rfl (by simp only [Act.put, List.setIfInBounds_toArray, List.set_cons_succ, List.set_cons_zero]; rfl) ?_; go_big_quiet_on))
  refine wpQuiet_nil ?_
  refine wpMix_eff (by kernel_rfl) ?_
  go_wp2_with fail
  refine (SU.out _ (HB.out.keeps K1.out.drew (fun _ _ _ _ _ h => h))).mono ?_
  rintro e w2 ⟨rfl, k2⟩
  have K2 := Lib.hid (K1.out.drew.trans k2 (T := None) (fun _ h => h) (fun _ _ h => h))
  clear k2
  go_wp2
  refine MixK.on (InS.mk ((mH.out _).2 trivial)) ?_
  refine wpMix_seg 1 (by kernel_rfl) (by decide) ?_
  simp only [List.take_succ_cons, List.take_zero, List.drop_succ_cons, List.drop_zero]
  repeat (first | go_big_quiet_step (fail) | (go_big_quiet_want; first | refine quiet_index IDX.out rfl rfl rfl rfl (by simp only [Act.put, List.setIfInBounds_toArray, List.set_cons_succ, List.set_cons_zero]; rfl) ?_; go_big_quiet_on))
  refine wpQuiet_nil ?_
  refine wpMix_eff (by kernel_rfl) ?_
  go_wp2_with fail
  refine (RS.out _ (HB.out.keeps K2.out (fun _ _ _ _ _ h => h))).mono ?_
  rintro e w' ⟨rfl, rfl⟩
  go_wp2
  refine MixK.on (InS.mk ((mH.out _).2 trivial)) ?_
  refine wpMix_seg 2 (by kernel_rfl) (by decide) ?_
  simp only [List.take_succ_cons, List.take_zero, List.drop_succ_cons, List.drop_zero]
  repeat (first | go_big_quiet_step (fail) | (go_big_quiet_want; first | refine quiet_index IDX.out rfl rfl rfl rfl (by simp only [Act.put, List.setIfInBounds_toArray, List.set_cons_succ, List.set_cons_zero]; rfl) ?_; go_big_quiet_on))
  refine wpQuiet_nil ?_
  refine wpMix_eff (by kernel_rfl) ?_
  go_wp2_with fail
  refine (TB.out _).mono ?_
  rintro e w4 ⟨rfl, k4⟩
  have K4 := Lib.hid (K2.out.trans k4 (T := None) (fun _ h => h) (fun _ _ h => h))
  clear k4
  go_wp2
  refine MixK.on (InS.mk ((mH.out _).2 trivial)) ?_
  refine wpMix_seg 3 (by kernel_rfl) (by decide) ?_
  simp only [List.take_succ_cons, List.take_zero, List.drop_succ_cons, List.drop_zero]
  repeat (first | go_big_quiet_step (fail) | (go_big_quiet_want; first | refine quiet_index IDX.out rfl rfl rfl rfl (by simp only [Act.put, List.setIfInBounds_toArray, List.set_cons_succ, List.set_cons_zero]; rfl) ?_; go_big_quiet_on))
  refine wpQuiet_nil ?_
  refine wpMix_eff (by kernel_rfl) ?_
  go_wp2_with fail
  refine (FA.out _).mono ?_
  rintro e w' ⟨rfl, rfl⟩
  go_wp2
  refine MixK.on (InS.mk ((mH.out _).2 trivial)) ?_
  refine wpMix_seg 3 (by kernel_rfl) (by decide) ?_
  simp only [List.take_succ_cons, List.take_zero, List.drop_succ_cons, List.drop_zero]
  repeat (first | go_big_quiet_step (fail) | (go_big_quiet_want; first | refine quiet_index IDX.out rfl rfl rfl rfl (by simp only [Act.put, List.setIfInBounds_toArray, List.set_cons_succ, List.set_cons_zero]; rfl) ?_; go_big_quiet_on))
  refine wpQuiet_nil ?_
  refine wpMix_nil ?_
  clear  mn mH
  go_wp2
  go_ret
  exact ⟨by first | rfl | simp, K4.out.below (fun _ _ h => h)⟩
set_option maxRecDepth 100000 in
theorem SealSums_lifted (os : Os) (started : os.Started) (H : Type) (enc : TypeId × Value → H) :
    ReturnsInHanded {} Try.checked os 7 .any (Rows.sealSumsSpec.pre6 enc Try.prog Try.f7 Rows.sealSumsRow.domain false) (Rows.sealSumsSpec.post enc Try.prog Try.f7 false true false false) := by
  refine returnsInHanded_of_change (C := Try.checked) Try.own started (by kernel_rfl) Try.func7
    (ChangeSpec.witness6 (enc := enc) (C := Try.checked) false ⟨#[], #[.slice none 0 0, .int .u8 0], []⟩ 8 (by kernel_rfl) (by kernel_rfl) (by kernel_rfl) (by kernel_rfl)) ?_
  intro W base args ds gs before hval0 hW hcnd _
  have hval : ∀ (j : Nat) t v, Try.f7.params[j]? = some t → args[j]? = some v → Value.okWide Try.prog W .any base t v := hval0
  have hW' := hW
  obtain ⟨p, q, hA0, hV, rfl, hfz, hnd⟩ := hW
  have hA : DataW.TrodAll enc Try.prog W 0 (fun _ => true) true Try.f7.params.toList args.toList ds p := hA0
  rw [Try.params7] at hA hval
  obtain ⟨v0, vs0, d0, ds0, p0, q0, hargs, rfl, rfl, h0, r0⟩ := trodAll_cons hA
  obtain ⟨v1, vs1, d1, ds1, p1, q1, rfl, rfl, rfl, h1, r1⟩ := trodAll_cons r0
  obtain ⟨rfl, rfl, rfl⟩ := trodAll_nil r1
  obtain rfl : args = #[v0, v1] := by cases args; simp_all
  obtain ⟨rfl, rfl⟩ := trodVars_none hV
  have k0 := h0
  have lt0 : ∀ x ∈ p0, x.block < W.heap.size := by obtain ⟨m, hm⟩ := k0; exact DataW.trod_lt m _ _ _ hm
  obtain ⟨a0, len0, cap0, rfl⟩ := okWide_slice Try.underlying22 (hval 0 22 v0 rfl rfl)
  obtain ⟨z0, s0⟩ := open_bs h0
  have k1 := h1
  have lt1 : ∀ x ∈ p1, x.block < W.heap.size := by obtain ⟨m, hm⟩ := k1; exact DataW.trod_lt m _ _ _ hm
  obtain ⟨a1, rfl, rfl, rfl, w1⟩ := open_int Try.underlying5 (hval 1 5 v1 rfl rfl) h1
  clear hA0 hval0
  refine (sums5_any a0 len0 cap0 z0 a1 W s0 (wf_u8_bd w1)).mono fun e W' ⟨he, bel⟩ => ?_
  subst he
  exact ⟨_, rfl, _, _, _, [], _, [], hW', trodAll_mk1 (shut_bool Try.underlying4 _), (trodAll_cons_mk (Below.trod Try.laidOut (by kernel_rfl) (of_decide_eq_true (by kernel_rfl)) k0 bel lt0) (trodAll_cons_mk (Below.trod Try.laidOut (by kernel_rfl) (of_decide_eq_true (by kernel_rfl)) k1 bel lt1) trodAll_mk0)), rfl, bel.frame _, fun h => by cases h⟩

set_option maxRecDepth 100000 in
theorem SealSums_closed : joinedFacts Try.checked.prog 7 Try.f7 Rows.sealSumsSpec Rows.sealSumsRow = true := by
  unfold joinedFacts
  rw [closed_laid, closed_maps, closed_heard, closed_plain, closed_mayEnter, closed_lifts, closed_make]
  kernel_rfl

theorem SealSums_holds : Rows.SealSumsSaid :=
  OpenClaim.holds_of_wide 7 Try.f7 rfl rfl rfl rfl rfl rfl rfl ⟨rfl, rfl, rfl, rfl, rfl⟩ rfl rfl rfl rfl rfl (by kernel_rfl) Try.func7 SealSums_closed
    (of_decide_eq_true (by kernel_rfl)) (by unfold Func.isWrapper; first | (rw [if_pos (by decide +kernel)]; kernel_rfl) | (rw [if_neg (by decide +kernel)]; exact ⟨rfl, rfl⟩))
    (fun os started H enc _ => SealSums_lifted os started H enc)
#print axioms SealSums_holds
end Go.Proofs.Yteogaacdmoafpaa
