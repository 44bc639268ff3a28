/-
  For every row of tokens and every other number of plain bytes, the law TokenBack returns true: tokens that were packed are unpacked as they were, for just as many plain bytes as they make. No condition.
-/
import Derived.Test.YtggjdkkobhefeaaTkArg
import Derived.Test.YtggjdkkobhefeaaTkOnly
import Derived.Test.YtggjdkkobhefeaaTkBack
import Derived.Test.YtggjdkkobhefeaaTkSame
import Derived.Test.YtggjdkkobhefeaaTkFew
namespace Go.Proofs.Ytggjdkkobhefeaa
open Go.RowKit Go.ChangeShapes Go.WideShapes Go.ChangeAt

theorem pack_len {ts : List Tok} (h : rightB ts 0 = true) (hw : ∀ t ∈ ts, TokWf t) : 4 ≤ (packL ts).length := by
  have e : packL ts = (eRow ts (cst0, ms0)).1.l := if_pos h
  rw [e]
  exact (row_ok ts cst0 ms0 ⟨0, 0, 0⟩ (right_tv ts 0 h hw) ROk.start PP.start COk.start).1.len
set_option maxRecDepth 100000 in
set_option maxHeartbeats 3200000 in
theorem back19_any (A : Option Addr) (L cap : Nat) (ts : List Tok) (other : Int) (W : World) (h : Ts W A L cap ts) (ho : -9223372036854775808 ≤ other ∧ other ≤ 9223372036854775807) :
    Calls Try.prog 7 #[.slice A L cap, .int .i64 other] W fun e w' => e = .returned (.bool true) ∧ Below W.heap.size W w' := by
  have hle := h.le
  have hmx := h.max
  have HL := Lib.hid h.len
  have HT := Lib.hid h
  clear h
  obtain ⟨ho1, ho2⟩ := ho
  have FEW := Lib.hid (fun w => few19_any A L cap w (by omega))
  by_cases hf : L ≤ 300
  · rw [decide_eq_true hf] at FEW
    cases hr : rightB ts 0 with
    | false =>
      have RB := Lib.hid hr
      clear hr
      go_enter Try.func7, Try.ntmps7
      go_wp2_with fail
      refine (alive19_any W).mono ?_
      rintro e w1 ⟨rfl, k1⟩
      have K1 := Lib.hid k1
      clear k1
      go_wp2_with fail
      refine (FEW.out _).mono ?_
      rintro e w' ⟨rfl, rfl⟩
      go_wp2_with fail
      refine (tkright_any A L cap _ _ (HT.out.later K1.out)).mono ?_
      rw [RB.out]
      rintro e w2 ⟨rfl, k2⟩
      have K2 := Lib.hid (K1.out.trans k2 (T := None) (fun _ h => h) (fun _ _ h => h))
      clear k2
      go_wp2
      go_ret
      exact ⟨by first | rfl | simp, K2.out.below (fun _ _ h => h)⟩
    | true =>
      have RB := Lib.hid hr
      have HNK := Lib.hid (pack_len hr HT.out.wf)
      have h8 := (madeT_le ts 0 hr (by decide)).2
      rw [← plainL_len hr] at h8
      have UN := Lib.hid (unp_pack hr HT.out.wf)
      obtain ⟨pl, hpl⟩ : ∃ x, plainL ts = x := ⟨_, rfl⟩
      obtain ⟨pk, hpk⟩ : ∃ x, packL ts = x := ⟨_, rfl⟩
      rw [hpl] at UN h8
      rw [hpk] at UN HNK
      have PL := Lib.hid hpl
      have PK := Lib.hid hpk
      obtain ⟨np, hnp⟩ : ∃ x, pl.length = x := ⟨_, rfl⟩
      obtain ⟨nk, hnk⟩ : ∃ x, pk.length = x := ⟨_, rfl⟩
      rw [hnp] at UN h8
      rw [hnk] at HNK
      have NP := Lib.hid hnp
      have NK := Lib.hid hnk
      have k4 : (4 : Nat) ≤ nk := HNK.out
      have d4 : decide ((nk : Int) < 4) = false := decide_eq_false (by omega)
      have np8 : np ≤ 8192 := by omega
      clear hr hpl hpk hnp hnk h8 HNK
      go_enter Try.func7, Try.ntmps7
      go_wp2_with fail
      refine (alive19_any W).mono ?_
      rintro e w1 ⟨rfl, k1⟩
      have K1 := Lib.hid k1
      clear k1
      go_wp2_with fail
      refine (FEW.out _).mono ?_
      rintro e w' ⟨rfl, rfl⟩
      go_wp2_with fail
      refine (tkright_any A L cap _ _ (HT.out.later K1.out)).mono ?_
      rw [RB.out]
      rintro e w2 ⟨rfl, k2⟩
      have K2 := Lib.hid (K1.out.trans k2 (T := None) (fun _ h => h) (fun _ _ h => h))
      clear k2
      -- the packed row
      go_wp2_with fail
      refine (tkpack_any A L cap _ _ (HT.out.later K2.out)).mono ?_
      rw [PK.out]
      rintro e w3 ⟨v3, rfl, o3, k3⟩
      obtain ⟨A3, c3, rfl, b3, -⟩ := o3.shape
      rw [NK.out] at b3 ⊢
      have B3 := Lib.hid b3
      have K3 := Lib.hid (K2.out.trans k3 (T := None) (fun _ h => h) (fun _ _ h => h))
      have l3 := b3.le
      have m3 := b3.max
      clear o3 k3 b3
      go_wp2_with fail
      refine (tkplain_any A L cap _ _ (HT.out.later K3.out)).mono ?_
      rw [PL.out]
      rintro e w4 ⟨v4, rfl, o4, k4⟩
      obtain ⟨A4, c4, rfl, b4, -⟩ := o4.shape
      rw [NP.out] at b4 ⊢
      have l4 := b4.le
      have m4 := b4.max
      have K4 := Lib.hid (K3.out.trans k4 (T := None) (fun _ h => h) (fun _ _ h => h))
      have B34 := Lib.hid (B3.out.keeps k4 (fun _ _ _ _ _ h => h))
      clear o4 k4 b4
      go_wp2_with fail
      refine (tkunpack_any A3 nk c3 _ _ _ B34.out).mono ?_
      rw [UN.out]
      rintro e w5 ⟨v5, rfl, o5, wf5, k5⟩
      obtain ⟨A5, c5, rfl, t5, -⟩ := o5.shape wf5
      rw [show (ts, (0 : Int)).1.length = L from HL.out] at t5 ⊢
      have T5 := Lib.hid t5
      have l5 := t5.le
      have m5 := t5.max
      have K5 := Lib.hid (K4.out.trans k5 (T := None) (fun _ h => h) (fun _ _ h => h))
      have B35 := Lib.hid (B34.out.keeps k5 (fun _ _ _ _ _ h => h))
      clear o5 wf5 k5 t5
      go_wp2_with fail
      refine (num19_any _ _).mono ?_
      rintro e w' ⟨rfl, rfl⟩
      go_wp2_with fail
      refine (rqsame_any A A5 L cap c5 ts _ (HT.out.later K5.out) T5.out).mono ?_
      rintro e w6 ⟨rfl, k6⟩
      have K6 := Lib.hid (K5.out.trans k6 (T := None) (fun _ h => h) (fun _ _ h => h))
      have B36 := Lib.hid (B35.out.keeps k6 (fun _ _ _ _ _ h => h))
      clear k6 T5 UN
      by_cases g1 : other = np
      · subst g1
        go_wp2
        go_ret
        exact ⟨by first | rfl | simp, K6.out.below (fun _ _ h => h)⟩
      have e1 : (other == (np : Int)) = false := by simpa using g1
      by_cases g2 : other < 0
      · have e2 : decide (other < 0) = true := decide_eq_true g2
        go_wp2
        go_ret
        exact ⟨by first | rfl | simp, K6.out.below (fun _ _ h => h)⟩
      have e2 : decide (other < 0) = false := decide_eq_false g2
      by_cases g3 : 8192 < other
      · have e3 : decide (8192 < other) = true := decide_eq_true g3
        go_wp2
        go_ret
        exact ⟨by first | rfl | simp, K6.out.below (fun _ _ h => h)⟩
      have e3 : decide (8192 < other) = false := decide_eq_false g3
      have UO := Lib.hid (tkunpack_any A3 nk c3 other _ _ B36.out)
      rcases unpF_cases pk other with ⟨-, hh⟩ | ⟨hu, -, -⟩ | ⟨l, hu, -, -⟩
      · exact absurd hh (by omega)
      · rw [hu] at UO
        clear hu
        go_wp2_with fail
        refine UO.out.mono ?_
        rintro e w7 ⟨v7, rfl, o7, wf7, k7⟩
        obtain ⟨A7, c7, rfl, -, -⟩ := o7.shape wf7
        have K7 := Lib.hid (K6.out.trans k7 (T := None) (fun _ h => h) (fun _ _ h => h))
        clear o7 wf7 k7 UO
        dsimp only [List.length_nil]
        go_wp2
        have NUM := Lib.hid (fun w => num19_any 11 w)
        go_quiet ((exact (NUM.out _).mono fun _ _ h => ⟨h.1, _, h.2.symm⟩))
        go_wp2
        go_ret
        exact ⟨by first | rfl | simp, (K7.out.drewN _).below (fun _ _ h => h)⟩
      · rw [hu] at UO
        obtain ⟨-, -, -, q2, q3⟩ := unpF_ok hu
        obtain ⟨p, rfl⟩ : ∃ p : Nat, other = p := ⟨other.toNat, by omega⟩
        have PK2 := Lib.hid q2
        have PL2 : Hid ((plainL l).length = p) := by show _ = _; omega
        clear hu q2 q3
        go_wp2_with fail
        refine UO.out.mono ?_
        rintro e w7 ⟨v7, rfl, o7, wf7, k7⟩
        obtain ⟨A7, c7, rfl, t7, -⟩ := o7.shape wf7
        have K7 := Lib.hid (K6.out.trans k7 (T := None) (fun _ h => h) (fun _ _ h => h))
        have BZ := Lib.hid (B36.out.keeps k7 (fun _ _ _ _ _ h => h))
        have T7 := Lib.hid t7
        have l7 := t7.le
        have m7 := t7.max
        clear o7 wf7 k7 UO t7
        dsimp only at T7 l7 m7 ⊢
        obtain ⟨ll, hll⟩ : ∃ x, l.length = x := ⟨_, rfl⟩
        rw [hll] at T7 l7 ⊢
        clear hll
        obtain ⟨sz, hsz⟩ : ∃ sz, strOf pk = sz := ⟨_, rfl⟩
        have HSZ := Lib.hid hsz
        have qz : (sz.toList == sz.toList) = true := by simp
        clear hsz
        go_wp2
        obtain ⟨mS, mh⟩ : ∃ S : World → Prop, ∀ w', S w' ↔ (((convert 32 9 (.slice A3 nk c3)).run Try.prog w' = .ok (.string sz) w')) := ⟨_, fun _ => Iff.rfl⟩
        have mk0 : ∀ x : Memb mS, (convert 32 9 (.slice A3 nk c3)).run Try.prog x.at_ = .ok (.string sz) x.at_ := fun x => ((mh _).1 x.is)
        have mn : Nonempty (Memb mS) := ⟨⟨(w7).drew, (mh _).2 ((HSZ.out ▸ run_str BZ.out.drew))⟩⟩
        have mH := Lib.hid mh
        clear mh
        refine wp_region_mix [1, 10, 11, 17] (InS mS) (by kernel_rfl) (by kernel_rfl) (InS.mk ((mH.out _).2 ((HSZ.out ▸ run_str BZ.out.drew)))) ?_
        refine wpMix_seg 1 (by kernel_rfl) (by decide) ?_
        simp only [List.take_succ_cons, List.take_zero, List.drop_succ_cons, List.drop_zero]
        repeat (first | go_big_quiet_step (fail) | (go_big_quiet_want; first | refine quiet_conv mk0 rfl rfl rfl (by simp only [Act.put, List.setIfInBounds_toArray, List.set_cons_succ, List.set_cons_zero]; rfl) ?_; go_big_quiet_on))
        refine wpQuiet_nil ?_
        refine wpMix_eff (by kernel_rfl) ?_
        go_wp2_with fail
        refine (num19_any _ _).mono ?_
        rintro e w' ⟨rfl, rfl⟩
        go_wp2
        refine MixK.on (InS.mk ((mH.out _).2 ((HSZ.out ▸ run_str BZ.out.drew)))) ?_
        refine wpMix_seg 8 (by kernel_rfl) (by decide) ?_
        simp only [List.take_succ_cons, List.take_zero, List.drop_succ_cons, List.drop_zero]
        repeat (first | go_big_quiet_step (fail) | (go_big_quiet_want; first | refine quiet_conv mk0 rfl rfl rfl (by simp only [Act.put, List.setIfInBounds_toArray, List.set_cons_succ, List.set_cons_zero]; rfl) ?_; go_big_quiet_on))
        refine wpQuiet_nil ?_
        refine wpMix_eff (by kernel_rfl) ?_
        go_wp2_with fail
        refine (tkpack_any A7 _ c7 _ _ T7.out.drew).mono ?_
        rintro e w8 ⟨v8, rfl, o8, k8⟩
        rw [PK2.out] at o8
        obtain ⟨A8, c8, rfl, b8, -⟩ := o8.shape
        rw [NK.out] at b8
        try rw [NK.out]
        have T8 := Lib.hid (T7.out.drew.later k8)
        have BZ8 := Lib.hid (BZ.out.drew.keeps k8 (fun _ _ _ _ _ h => h))
        have K8 := Lib.hid (K7.out.drew.trans k8 (T := None) (fun _ h => h) (fun _ _ h => h))
        have sd := run_str b8
        rw [HSZ.out] at sd
        clear o8 k8 b8
        go_wp2
        refine MixK.on (InS.mk ((mH.out _).2 ((HSZ.out ▸ run_str BZ8.out)))) ?_
        refine wpMix_eff (by kernel_rfl) ?_
        go_wp2
        refine MixK.on (InS.mk ((mH.out _).2 ((HSZ.out ▸ run_str BZ8.out)))) ?_
        refine wpMix_seg 5 (by kernel_rfl) (by decide) ?_
        simp only [List.take_succ_cons, List.take_zero, List.drop_succ_cons, List.drop_zero]
        repeat (first | go_big_quiet_step (fail) | (go_big_quiet_want; first | refine quiet_conv mk0 rfl rfl rfl (by simp only [Act.put, List.setIfInBounds_toArray, List.set_cons_succ, List.set_cons_zero]; rfl) ?_; go_big_quiet_on))
        refine wpQuiet_nil ?_
        refine wpMix_eff (by kernel_rfl) ?_
        go_wp2_with fail
        refine (tkplain_any A7 _ c7 _ _ T8.out).mono ?_
        rintro e w9 ⟨v9, rfl, o9, k9⟩
        obtain ⟨A9, c9, rfl, b9, -⟩ := o9.shape
        have l9 := b9.le
        have m9 := b9.max
        rw [PL2.out] at l9 ⊢
        have K9 := Lib.hid (K8.out.trans k9 (T := None) (fun _ h => h) (fun _ _ h => h))
        have BZ9 := Lib.hid (BZ8.out.keeps k9 (fun _ _ _ _ _ h => h))
        clear o9 k9 b9
        go_wp2
        refine MixK.on (InS.mk ((mH.out _).2 ((HSZ.out ▸ run_str BZ9.out)))) ?_
        refine wpMix_seg 6 (by kernel_rfl) (by decide) ?_
        simp only [List.take_succ_cons, List.take_zero, List.drop_succ_cons, List.drop_zero]
        repeat (first | go_big_quiet_step (fail) | (go_big_quiet_want; first | refine quiet_conv mk0 rfl rfl rfl (by simp only [Act.put, List.setIfInBounds_toArray, List.set_cons_succ, List.set_cons_zero]; rfl) ?_; go_big_quiet_on))
        refine wpQuiet_nil ?_
        refine wpMix_nil ?_
        clear mk0 mn mH
        go_wp2
        go_ret
        exact ⟨by first | rfl | simp, K9.out.below (fun _ _ h => h)⟩
  · rw [decide_eq_false hf] at FEW
    go_enter Try.func7, Try.ntmps7
    go_wp2_with fail
    refine (alive19_any W).mono ?_
    rintro e w1 ⟨rfl, k1⟩
    have K1 := Lib.hid k1
    clear k1
    go_wp2_with fail
    refine (FEW.out _).mono ?_
    rintro e w' ⟨rfl, rfl⟩
    go_wp2
    go_ret
    exact ⟨by first | rfl | simp, K1.out.below (fun _ _ h => h)⟩
set_option maxRecDepth 100000 in
theorem TokenBack_lifted (os : Os) (started : os.Started) (H : Type) (enc : TypeId × Value → H) :
    ReturnsInHanded {} Try.checked os 7 .any (Rows.tokenBackSpec.pre6 enc Try.prog Try.f7 Rows.tokenBackRow.domain false) (Rows.tokenBackSpec.post enc Try.prog Try.f7 false true false false) := by
  refine returnsInHanded_of_change (C := Try.checked) Try.own started (by kernel_rfl) Try.func7
    (ChangeSpec.witness6 (enc := enc) (C := Try.checked) false ⟨#[], #[.slice none 0 0, .int .i64 0], []⟩ 8 (by kernel_rfl) (by kernel_rfl) (by kernel_rfl) (by kernel_rfl)) ?_
  intro W base args ds gs before hval0 hW hcnd _
  have hval : ∀ (j : Nat) t v, Try.f7.params[j]? = some t → args[j]? = some v → Value.okWide Try.prog W .any base t v := hval0
  have hW' := hW
  obtain ⟨p, q, hA0, hV, rfl, hfz, hnd⟩ := hW
  have hA : DataW.TrodAll enc Try.prog W 0 (fun _ => true) true Try.f7.params.toList args.toList ds p := hA0
  rw [Try.params7] at hA hval
  obtain ⟨v0, vs0, d0, ds0, p0, q0, hargs, rfl, rfl, h0, r0⟩ := trodAll_cons hA
  obtain ⟨v1, vs1, d1, ds1, p1, q1, rfl, rfl, rfl, h1, r1⟩ := trodAll_cons r0
  obtain ⟨rfl, rfl, rfl⟩ := trodAll_nil r1
  obtain rfl : args = #[v0, v1] := by cases args; simp_all
  obtain ⟨rfl, rfl⟩ := trodVars_none hV
  have k0 := h0
  have lt0 : ∀ x ∈ p0, x.block < W.heap.size := by obtain ⟨m, hm⟩ := k0; exact DataW.trod_lt m _ _ _ hm
  obtain ⟨a0, len0, cap0, rfl⟩ := okWide_slice Try.underlying49 (hval 0 49 v0 rfl rfl)
  obtain ⟨z0, s0⟩ := open_toks h0
  have k1 := h1
  have lt1 : ∀ x ∈ p1, x.block < W.heap.size := by obtain ⟨m, hm⟩ := k1; exact DataW.trod_lt m _ _ _ hm
  obtain ⟨a1, rfl, rfl, rfl, w1⟩ := open_int Try.underlying3 (hval 1 3 v1 rfl rfl) h1
  clear hA0 hval0
  refine (back19_any a0 len0 cap0 z0 a1 W s0 (wf_i64_bd w1)).mono fun e W' ⟨he, bel⟩ => ?_
  subst he
  exact ⟨_, rfl, _, _, _, [], _, [], hW', trodAll_mk1 (shut_bool Try.underlying4 _), (trodAll_cons_mk (Below.trod Try.laidOut (by kernel_rfl) (of_decide_eq_true (by kernel_rfl)) k0 bel lt0) (trodAll_cons_mk (Below.trod Try.laidOut (by kernel_rfl) (of_decide_eq_true (by kernel_rfl)) k1 bel lt1) trodAll_mk0)), rfl, bel.frame _, fun h => by cases h⟩

set_option maxRecDepth 100000 in
theorem TokenBack_closed : joinedFacts Try.checked.prog 7 Try.f7 Rows.tokenBackSpec Rows.tokenBackRow = true := by
  unfold joinedFacts
  rw [closed_laid, closed_maps, closed_heard, closed_plain, closed_mayEnter, closed_lifts, closed_make]
  kernel_rfl

theorem TokenBack_holds : Rows.TokenBackSaid :=
  OpenClaim.holds_of_wide 7 Try.f7 rfl rfl rfl rfl rfl rfl rfl ⟨rfl, rfl, rfl, rfl, rfl⟩ rfl rfl rfl rfl rfl (by kernel_rfl) Try.func7 TokenBack_closed
    (of_decide_eq_true (by kernel_rfl)) (by unfold Func.isWrapper; first | (rw [if_pos (by decide +kernel)]; kernel_rfl) | (rw [if_neg (by decide +kernel)]; exact ⟨rfl, rfl⟩))
    (fun os started H enc _ => TokenBack_lifted os started H enc)
#print axioms TokenBack_holds
end Go.Proofs.Ytggjdkkobhefeaa
