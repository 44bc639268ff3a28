/-
  For every row of tokens, every cut and all bytes behind, the law TokenCuts returns true: no front of packed tokens is packed from any that make as many bytes, and with bytes behind them they are none. No condition.
-/
import Derived.Test.YtggjdkkobhefeaaTkArg
import Derived.Test.YtggjdkkobhefeaaTkOnly
import Derived.Test.YtggjdkkobhefeaaTkBack
import Derived.Test.YtggjdkkobhefeaaTkFew
namespace Go.Proofs.Ytggjdkkobhefeaa
open Go.RowKit Go.ChangeShapes Go.WideShapes Go.ChangeAt

theorem pack_lenC {ts : List Tok} (h : rightB ts 0 = true) (hw : ∀ t ∈ ts, TokWf t) : 4 ≤ (packL ts).length := by
  have e : packL ts = (eRow ts (cst0, ms0)).1.l := if_pos h
  rw [e]
  exact (row_ok ts cst0 ms0 ⟨0, 0, 0⟩ (right_tv ts 0 h hw) ROk.start PP.start COk.start).1.len
set_option maxRecDepth 100000 in
set_option maxHeartbeats 3200000 in
theorem cuts19_any (A : Option Addr) (L cap : Nat) (ts : List Tok) (cut : Int) (Am : Option Addr) (n cm : Nat) (ms : List Int) (W : World) (h : Ts W A L cap ts) (ho : -9223372036854775808 ≤ cut ∧ cut ≤ 9223372036854775807) (hm : Bs W Am n cm ms) :
    Calls Try.prog 8 #[.slice A L cap, .int .i64 cut, .slice Am n cm] W fun e w' => e = .returned (.bool true) ∧ Below W.heap.size W w' := by
  have hle := h.le
  have hmx := h.max
  have hle2 := hm.le
  have hmx2 := hm.max
  have HL := Lib.hid h.len
  have HT := Lib.hid h
  have HM := Lib.hid hm
  have HML := Lib.hid hm.len
  clear h hm
  obtain ⟨ho1, ho2⟩ := ho
  have FEW := Lib.hid (fun w => few19_any A L cap w (by omega))
  by_cases hf : L ≤ 300
  · rw [decide_eq_true hf] at FEW
    cases hr : rightB ts 0 with
    | false =>
      have RB := Lib.hid hr
      clear hr
      go_enter Try.func8, Try.ntmps8
      go_wp2_with fail
      refine (alive19_any W).mono ?_
      rintro e w1 ⟨rfl, k1⟩
      have K1 := Lib.hid k1
      clear k1
      go_wp2_with fail
      refine (FEW.out _).mono ?_
      rintro e w' ⟨rfl, rfl⟩
      go_wp2_with fail
      refine (tkright_any A L cap _ _ (HT.out.later K1.out)).mono ?_
      rw [RB.out]
      rintro e w2 ⟨rfl, k2⟩
      have K2 := Lib.hid (K1.out.trans k2 (T := None) (fun _ h => h) (fun _ _ h => h))
      clear k2
      go_wp2
      go_ret
      exact ⟨by first | rfl | simp, K2.out.below (fun _ _ h => h)⟩
    | true =>
      have RB := Lib.hid hr
      by_cases g1 : cut < 0
      · have e1 : decide (cut < 0) = true := decide_eq_true g1
        clear hr
        go_enter Try.func8, Try.ntmps8
        go_wp2_with fail
        refine (alive19_any W).mono ?_
        rintro e w1 ⟨rfl, k1⟩
        have K1 := Lib.hid k1
        clear k1
        go_wp2_with fail
        refine (FEW.out _).mono ?_
        rintro e w' ⟨rfl, rfl⟩
        go_wp2_with fail
        refine (tkright_any A L cap _ _ (HT.out.later K1.out)).mono ?_
        rw [RB.out]
        rintro e w2 ⟨rfl, k2⟩
        have K2 := Lib.hid (K1.out.trans k2 (T := None) (fun _ h => h) (fun _ _ h => h))
        clear k2
        go_wp2
        go_ret
        exact ⟨by first | rfl | simp, K2.out.below (fun _ _ h => h)⟩
      have e1 : decide (cut < 0) = false := decide_eq_false g1
      by_cases g2 : n < 1
      · have e2 : decide ((n : Int) < 1) = true := decide_eq_true (by omega)
        have e3 : decide (n < 1) = true := decide_eq_true (by omega)
        clear hr
        go_enter Try.func8, Try.ntmps8
        go_wp2_with fail
        refine (alive19_any W).mono ?_
        rintro e w1 ⟨rfl, k1⟩
        have K1 := Lib.hid k1
        clear k1
        go_wp2_with fail
        refine (FEW.out _).mono ?_
        rintro e w' ⟨rfl, rfl⟩
        go_wp2_with fail
        refine (tkright_any A L cap _ _ (HT.out.later K1.out)).mono ?_
        rw [RB.out]
        rintro e w2 ⟨rfl, k2⟩
        have K2 := Lib.hid (K1.out.trans k2 (T := None) (fun _ h => h) (fun _ _ h => h))
        clear k2
        go_wp2
        go_ret
        exact ⟨by first | rfl | simp, K2.out.below (fun _ _ h => h)⟩
      have e2 : decide ((n : Int) < 1) = false := decide_eq_false (by omega)
      have e2n : decide (n < 1) = false := decide_eq_false (by omega)
      by_cases g3 : 20 < n
      · have e3 : decide (20 < (n : Int)) = true := decide_eq_true (by omega)
        have e3n : decide (20 < n) = true := decide_eq_true (by omega)
        clear hr
        go_enter Try.func8, Try.ntmps8
        go_wp2_with fail
        refine (alive19_any W).mono ?_
        rintro e w1 ⟨rfl, k1⟩
        have K1 := Lib.hid k1
        clear k1
        go_wp2_with fail
        refine (FEW.out _).mono ?_
        rintro e w' ⟨rfl, rfl⟩
        go_wp2_with fail
        refine (tkright_any A L cap _ _ (HT.out.later K1.out)).mono ?_
        rw [RB.out]
        rintro e w2 ⟨rfl, k2⟩
        have K2 := Lib.hid (K1.out.trans k2 (T := None) (fun _ h => h) (fun _ _ h => h))
        clear k2
        go_wp2
        go_ret
        exact ⟨by first | rfl | simp, K2.out.below (fun _ _ h => h)⟩
      have e3 : decide (20 < (n : Int)) = false := decide_eq_false (by omega)
      have e3n : decide (20 < n) = false := decide_eq_false (by omega)
      obtain ⟨cu, rfl⟩ : ∃ cu : Nat, cut = cu := ⟨cut.toNat, by omega⟩
      have HNK := Lib.hid (pack_lenC hr HT.out.wf)
      have h8 := (madeT_le ts 0 hr (by decide)).2
      rw [← plainL_len hr] at h8
      have UF := Lib.hid (fun k hk => unp_front hr HT.out.wf k hk)
      have UB := Lib.hid (unp_behind hr HT.out.wf ms (by rw [HML.out]; omega))
      obtain ⟨pl, hpl⟩ : ∃ x, plainL ts = x := ⟨_, rfl⟩
      obtain ⟨pk, hpk⟩ : ∃ x, packL ts = x := ⟨_, rfl⟩
      rw [hpl] at UF UB h8
      have HNL := Lib.hid (pack_long hr)
      rw [hpk] at UF UB HNK HNL
      have PL := Lib.hid hpl
      have PK := Lib.hid hpk
      obtain ⟨np, hnp⟩ : ∃ x, pl.length = x := ⟨_, rfl⟩
      obtain ⟨nk, hnk⟩ : ∃ x, pk.length = x := ⟨_, rfl⟩
      rw [hnp] at UF UB h8
      rw [hnk] at UF HNK HNL
      have NP := Lib.hid hnp
      have NK := Lib.hid hnk
      have k4 : (4 : Nat) ≤ nk := HNK.out
      have k172 : nk ≤ 172036 := HNL.out
      have d4 : decide ((nk : Int) < 4) = false := decide_eq_false (by omega)
      have d4n : decide (nk < 4) = false := decide_eq_false (by omega)
      have np8 : np ≤ 8192 := by omega
      have kl : cu % nk < nk := Nat.mod_lt _ (by omega)
      have UK := Lib.hid (UF.out _ kl)
      clear hr hpl hpk hnp hnk h8 HNK HNL UF
      go_enter Try.func8, Try.ntmps8
      go_wp2_with fail
      refine (alive19_any W).mono ?_
      rintro e w1 ⟨rfl, k1⟩
      have K1 := Lib.hid k1
      clear k1
      go_wp2_with fail
      refine (FEW.out _).mono ?_
      rintro e w' ⟨rfl, rfl⟩
      go_wp2_with fail
      refine (tkright_any A L cap _ _ (HT.out.later K1.out)).mono ?_
      rw [RB.out]
      rintro e w2 ⟨rfl, k2⟩
      have K2 := Lib.hid (K1.out.trans k2 (T := None) (fun _ h => h) (fun _ _ h => h))
      clear k2
      go_wp2_with fail
      refine (tkpack_any A L cap _ _ (HT.out.later K2.out)).mono ?_
      rw [PK.out]
      rintro e w3 ⟨v3, rfl, o3, k3⟩
      obtain ⟨A3, c3, rfl, b3, -⟩ := o3.shape
      rw [NK.out] at b3 ⊢
      have B3 := Lib.hid b3
      have K3 := Lib.hid (K2.out.trans k3 (T := None) (fun _ h => h) (fun _ _ h => h))
      have l3 := b3.le
      have m3 := b3.max
      clear o3 k3 b3
      go_wp2_with fail
      refine (tkplain_any A L cap _ _ (HT.out.later K3.out)).mono ?_
      rw [PL.out]
      rintro e w4 ⟨v4, rfl, o4, k4'⟩
      obtain ⟨A4, c4, rfl, b4, -⟩ := o4.shape
      rw [NP.out] at b4 ⊢
      have l4 := b4.le
      have m4 := b4.max
      have K4 := Lib.hid (K3.out.trans k4' (T := None) (fun _ h => h) (fun _ _ h => h))
      have B34 := Lib.hid (B3.out.keeps k4' (fun _ _ _ _ _ h => h))
      obtain ⟨b5, of5, rfl, -, -⟩ := B34.out.at_ (by omega)
      have BT := Lib.hid (B34.out.take (k := cu % nk) (by omega))
      have q1 : 0 ≤ (cu : Int) % (nk : Int) ∧ (cu : Int) % (nk : Int) ≤ (c3 : Int) := by
        have : (cu : Int) % (nk : Int) = ((cu % nk : Nat) : Int) := by simp
        rw [this]; omega
      clear o4 k4' b4
      go_wp2_with fail
      refine (tkunpack_any _ (cu % nk) c3 _ _ _ BT.out).mono ?_
      rw [UK.out]
      rintro e w5 ⟨v5, rfl, o5, wf5, k5⟩
      obtain ⟨A5, c5, rfl, -, -⟩ := o5.shape wf5
      have K5 := Lib.hid (K4.out.trans k5 (T := None) (fun _ h => h) (fun _ _ h => h))
      have B35 := Lib.hid (B34.out.keeps k5 (fun _ _ _ _ _ h => h))
      have HM5 := Lib.hid (HM.out.keeps K5.out (fun _ _ _ _ _ h => h))
      clear o5 wf5 k5 BT q1
      go_wp2_with (at_builtin; refine Hid.out ?_)
      refine Lib.hid ?_
      refine wpList_append_bs (Own.nil _ w5.heap.size) B35.out (by rw [List.length_nil]; omega) (Nat.le_refl _) rfl rfl rfl rfl rfl ?_
      rw [List.nil_append]
      intro v6 w6 o6 k6
      have K56 : Hid (Keeps None w5 w6) := k6.mono (fun _ _ e => by simp [Value.ownBlock] at e)
      have HM6 := Lib.hid (HM5.out.keeps K56.out (fun _ _ _ _ _ h => h))
      have O6 := Lib.hid o6
      clear o6 k6
      go_wp2_with (at_builtin; refine Hid.out ?_)
      refine Lib.hid ?_
      refine wpList_append_bs O6.out HM6.out (by rw [NK.out]; omega) K56.out.size rfl rfl rfl rfl rfl ?_
      intro v7 w7 o7 k7
      obtain ⟨A7, c7, rfl, b7, -⟩ := o7.shape
      have LN : Hid ((pk ++ ms).length = nk + n) := by show _ = _; rw [List.length_append, NK.out, HML.out]
      rw [LN.out] at b7 ⊢
      have l7 := b7.le
      have m7 := b7.max
      have B7 := Lib.hid b7
      have K7 := Lib.hid ((K5.out.trans K56.out (T := None) (fun _ h => h) (fun _ _ h => h)).trans k7 (T := None) (fun _ h => h) (fun i hi e => O6.out.notBelow (Nat.lt_of_lt_of_le hi K5.out.size) e))
      clear o7 k7 b7
      go_wp2_with fail
      refine (tkunpack_any A7 _ c7 _ _ _ B7.out).mono ?_
      rw [UB.out]
      rintro e w8 ⟨v8, rfl, o8, wf8, k8⟩
      obtain ⟨A8, c8, rfl, -, -⟩ := o8.shape wf8
      have K8 := Lib.hid (K7.out.trans k8 (T := None) (fun _ h => h) (fun _ _ h => h))
      clear o8 wf8 k8
      dsimp only
      go_wp2_with fail
      refine (num19_any _ _).mono ?_
      rintro e w' ⟨rfl, rfl⟩
      go_wp2_with fail
      refine (num19_any _ _).mono ?_
      rintro e w' ⟨rfl, rfl⟩
      go_wp2
      go_ret
      exact ⟨by first | rfl | simp, K8.out.below (fun _ _ h => h)⟩
  · rw [decide_eq_false hf] at FEW
    go_enter Try.func8, Try.ntmps8
    go_wp2_with fail
    refine (alive19_any W).mono ?_
    rintro e w1 ⟨rfl, k1⟩
    have K1 := Lib.hid k1
    clear k1
    go_wp2_with fail
    refine (FEW.out _).mono ?_
    rintro e w' ⟨rfl, rfl⟩
    go_wp2
    go_ret
    exact ⟨by first | rfl | simp, K1.out.below (fun _ _ h => h)⟩
set_option maxRecDepth 100000 in
theorem TokenCuts_lifted (os : Os) (started : os.Started) (H : Type) (enc : TypeId × Value → H) :
    ReturnsInHanded {} Try.checked os 8 .any (Rows.tokenCutsSpec.pre6 enc Try.prog Try.f8 Rows.tokenCutsRow.domain false) (Rows.tokenCutsSpec.post enc Try.prog Try.f8 false true false false) := by
  refine returnsInHanded_of_change (C := Try.checked) Try.own started (by kernel_rfl) Try.func8
    (ChangeSpec.witness6 (enc := enc) (C := Try.checked) false ⟨#[], #[.slice none 0 0, .int .i64 0, .slice none 0 0], []⟩ 8 (by kernel_rfl) (by kernel_rfl) (by kernel_rfl) (by kernel_rfl)) ?_
  intro W base args ds gs before hval0 hW hcnd _
  have hval : ∀ (j : Nat) t v, Try.f8.params[j]? = some t → args[j]? = some v → Value.okWide Try.prog W .any base t v := hval0
  have hW' := hW
  obtain ⟨p, q, hA0, hV, rfl, hfz, hnd⟩ := hW
  have hA : DataW.TrodAll enc Try.prog W 0 (fun _ => true) true Try.f8.params.toList args.toList ds p := hA0
  rw [Try.params8] at hA hval
  obtain ⟨v0, vs0, d0, ds0, p0, q0, hargs, rfl, rfl, h0, r0⟩ := trodAll_cons hA
  obtain ⟨v1, vs1, d1, ds1, p1, q1, rfl, rfl, rfl, h1, r1⟩ := trodAll_cons r0
  obtain ⟨v2, vs2, d2, ds2, p2, q2, rfl, rfl, rfl, h2, r2⟩ := trodAll_cons r1
  obtain ⟨rfl, rfl, rfl⟩ := trodAll_nil r2
  obtain rfl : args = #[v0, v1, v2] := by cases args; simp_all
  obtain ⟨rfl, rfl⟩ := trodVars_none hV
  have k0 := h0
  have lt0 : ∀ x ∈ p0, x.block < W.heap.size := by obtain ⟨m, hm⟩ := k0; exact DataW.trod_lt m _ _ _ hm
  obtain ⟨a0, len0, cap0, rfl⟩ := okWide_slice Try.underlying49 (hval 0 49 v0 rfl rfl)
  obtain ⟨z0, s0⟩ := open_toks h0
  have k1 := h1
  have lt1 : ∀ x ∈ p1, x.block < W.heap.size := by obtain ⟨m, hm⟩ := k1; exact DataW.trod_lt m _ _ _ hm
  obtain ⟨a1, rfl, rfl, rfl, w1⟩ := open_int Try.underlying3 (hval 1 3 v1 rfl rfl) h1
  have k2 := h2
  have lt2 : ∀ x ∈ p2, x.block < W.heap.size := by obtain ⟨m, hm⟩ := k2; exact DataW.trod_lt m _ _ _ hm
  obtain ⟨a2, len2, cap2, rfl⟩ := okWide_slice Try.underlying32 (hval 2 32 v2 rfl rfl)
  obtain ⟨z2, s2⟩ := open_bs h2
  clear hA0 hval0
  refine (cuts19_any a0 len0 cap0 z0 a1 a2 len2 cap2 z2 W s0 (wf_i64_bd w1) s2).mono fun e W' ⟨he, bel⟩ => ?_
  subst he
  exact ⟨_, rfl, _, _, _, [], _, [], hW', trodAll_mk1 (shut_bool Try.underlying4 _), (trodAll_cons_mk (Below.trod Try.laidOut (by kernel_rfl) (of_decide_eq_true (by kernel_rfl)) k0 bel lt0) (trodAll_cons_mk (Below.trod Try.laidOut (by kernel_rfl) (of_decide_eq_true (by kernel_rfl)) k1 bel lt1) (trodAll_cons_mk (Below.trod Try.laidOut (by kernel_rfl) (of_decide_eq_true (by kernel_rfl)) k2 bel lt2) trodAll_mk0))), rfl, bel.frame _, fun h => by cases h⟩

set_option maxRecDepth 100000 in
theorem TokenCuts_closed : joinedFacts Try.checked.prog 8 Try.f8 Rows.tokenCutsSpec Rows.tokenCutsRow = true := by
  unfold joinedFacts
  rw [closed_laid, closed_maps, closed_heard, closed_plain, closed_mayEnter, closed_lifts, closed_make]
  kernel_rfl

theorem TokenCuts_holds : Rows.TokenCutsSaid :=
  OpenClaim.holds_of_wide 8 Try.f8 rfl rfl rfl rfl rfl rfl rfl ⟨rfl, rfl, rfl, rfl, rfl⟩ rfl rfl rfl rfl rfl (by kernel_rfl) Try.func8 TokenCuts_closed
    (of_decide_eq_true (by kernel_rfl)) (by unfold Func.isWrapper; first | (rw [if_pos (by decide +kernel)]; kernel_rfl) | (rw [if_neg (by decide +kernel)]; exact ⟨rfl, rfl⟩))
    (fun os started H enc _ => TokenCuts_lifted os started H enc)
#print axioms TokenCuts_holds
end Go.Proofs.Ytggjdkkobhefeaa
