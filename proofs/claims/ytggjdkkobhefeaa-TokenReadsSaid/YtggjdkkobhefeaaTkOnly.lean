/-
  For every row of bytes and every number of plain bytes, the law TokenOnly returns true: what Unpack tells is right, makes as many bytes as were asked, and is packed into just these bytes; else it is refused. No condition.
-/
import Derived.Test.YtggjdkkobhefeaaTkUnp2
import Derived.Test.YtggjdkkobhefeaaInit
namespace Go.Proofs.Ytggjdkkobhefeaa
open Go.RowKit Go.ChangeShapes Go.WideShapes Go.ChangeAt

theorem num19_any (x : Int) (w : World) : Calls Try.prog 27 #[.int .i64 x] w fun e w' => e = .returned (.int .i64 x) ∧ w = w' := by
  go_enter Try.func27, Try.ntmps27
  go_wp2
  go_ret
  exact ⟨rfl, rfl⟩
theorem Ts.nilT (w : World) : Ts w none 0 0 [] := ⟨rfl, Nat.le_refl _, by decide, fun _ => ⟨rfl, rfl⟩, by simp, fun h => absurd h (by decide)⟩
theorem Ts.one (w : World) (b : Nat) (hb : b = w.heap.size) (t : Tok) (ht : TokWf t) : Ts (w.alloc (.cells #[.int .i64 t.n, .int .i64 t.d, .int .u8 t.b] 43)) (some ⟨b, 0, none⟩) 1 1 [t] := by
  subst hb
  have B := Blk.new w [.int .i64 t.n, .int .i64 t.d, .int .u8 t.b] 43
  refine ⟨rfl, Nat.le_refl _, by decide, (fun e => by cases e), by simpa using ht, fun _ => ⟨w.heap.size, 0, rfl, by simp, fun i u hu => ?_⟩⟩
  obtain rfl : i = 0 := by
    rcases Nat.eq_zero_or_pos i with h | h
    · exact h
    · rw [List.getElem?_eq_none (by simp; omega)] at hu; cases hu
  obtain rfl : t = u := by simpa using hu
  exact ⟨B.cellD 0 _ rfl, B.cellD 1 _ rfl, B.cellD 2 _ rfl⟩
theorem pack_nil : packL [] = [0, 0, 0, 0] := rfl
theorem str4 : strOf [0, 0, 0, 0] = ⟨#[0, 0, 0, 0]⟩ := by rfl
theorem plain5 : plainL [⟨0, 0, 5⟩] = [5] := by rfl
theorem unp_zero : unpF [0, 0, 0, 0] 0 = ([], 0) := by
  have h : readP [0, 0, 0, 0] 0 = some [] := by
    show readN 0 (999 + 1) rd0 dst0 [0, 0, 0, 0] 0 [] = some []
    unfold readN
    rw [if_neg (by decide), if_pos rfl]
  unfold unpF
  rw [if_neg (by decide)]
  show (match readP [0, 0, 0, 0] 0 with | none => ([], (11 : Int)) | some l => if packL l = [0, 0, 0, 0] then (l, 0) else ([], 11)) = ([], 0)
  rw [h]
  exact if_pos pack_nil
set_option maxRecDepth 100000 in
set_option maxHeartbeats 1600000 in
theorem alive19_any (w : World) : Calls Try.prog 23 #[] w fun e w' => e = .returned (.bool true) ∧ Keeps None w w' := by
  have WF5 : TokWf ⟨0, 0, 5⟩ := ⟨show (-9223372036854775808 : Int) ≤ 0 by decide, show (0 : Int) ≤ 9223372036854775807 by decide, show (-9223372036854775808 : Int) ≤ 0 by decide, show (0 : Int) ≤ 9223372036854775807 by decide, show (0 : Int) ≤ 5 by decide, show (5 : Int) ≤ 255 by decide⟩
  go_enter Try.func23, Try.ntmps23
  go_wp2_with fail
  refine (tkpack_any none 0 0 [] w (Ts.nilT w)).mono ?_
  rw [pack_nil]
  rintro e w1 ⟨v1, rfl, o1, k1⟩
  obtain ⟨A1, c1, rfl, b1, -⟩ := o1.shape
  have K1 := Lib.hid k1
  have B1 := Lib.hid b1
  have l1 : 4 ≤ c1 := b1.le
  clear o1 k1 b1
  dsimp only [List.length_cons, List.length_nil]
  go_wp2_with fail
  refine (tkunpack_any A1 _ c1 0 _ w1 B1.out).mono ?_
  rw [unp_zero]
  rintro e w2 ⟨v2, rfl, o2, wf2, k2⟩
  obtain ⟨A2, c2, rfl, -, -⟩ := o2.shape wf2
  have K2 := Lib.hid (K1.out.trans k2 (T := None) (fun _ h => h) (fun _ _ h => h))
  have s1 : (convert 32 9 (.slice A1 4 c1)).run Try.prog w2 = .ok (.string ⟨#[0, 0, 0, 0]⟩) w2 := str4 ▸ run_str (B1.out.keeps k2 (fun _ _ _ _ _ h => h))
  clear o2 wf2 k2 B1 K1
  dsimp only [List.length_nil]
  go_wp2_with fail
  refine (num19_any _ _).mono ?_
  rintro e w' ⟨rfl, rfl⟩
  go_wp2_with fail
  refine (tkplain_any _ 1 1 [⟨0, 0, 5⟩] _ (Ts.one w2 _ rfl ⟨0, 0, 5⟩ WF5)).mono ?_
  rintro e w3 ⟨v3, rfl, o3, k3⟩
  obtain ⟨A3, c3, rfl, b3, -⟩ := o3.shape
  have e1 : (plainL [⟨0, 0, 5⟩]).length = 1 := by rw [plain5]; rfl
  rw [e1] at b3 ⊢
  have K3 := Lib.hid ((K2.out.alloc _).trans k3 (T := None) (fun _ h => h) (fun _ _ h => h))
  have l3 : 1 ≤ c3 := b3.le
  clear o3 k3 b3 s1
  have qz : ((⟨#[0, 0, 0, 0]⟩ : ByteArray).toList == (⟨#[0, 0, 0, 0]⟩ : ByteArray).toList) = true := beq_self_eq_true _
  go_wp2
  go_ret
  exact ⟨by simp, K3.out⟩

set_option maxRecDepth 100000 in
set_option maxHeartbeats 3200000 in
theorem only19_any (A : Option Addr) (L cap : Nat) (zs : List Int) (plain : Int) (W : World) (h : Bs W A L cap zs) :
    Calls Try.prog 14 #[.slice A L cap, .int .i64 plain] W fun e w' => e = .returned (.bool true) ∧ Below W.heap.size W w' := by
  have hle := h.le
  have hmx := h.max
  have HL := Lib.hid h.len
  have HB := Lib.hid h
  clear h
  by_cases g0 : 400 < L
  · have d0 : decide (400 < (L : Int)) = true := decide_eq_true (by omega)
    go_enter Try.func14, Try.ntmps14
    go_wp2_with fail
    refine (alive19_any W).mono ?_
    rintro e w1 ⟨rfl, k1⟩
    have K1 := Lib.hid k1
    clear k1
    go_wp2
    go_ret
    exact ⟨rfl, K1.out.below (fun _ _ h => h)⟩
  have d0 : decide (400 < (L : Int)) = false := decide_eq_false (by omega)
  rcases unpF_cases zs plain with ⟨hu, hr⟩ | ⟨hu, r0, r1⟩ | ⟨l, hu, r0, r1⟩
  · by_cases hn : plain < 0
    · have d1 : decide (plain < 0) = true := decide_eq_true hn
      clear hr
      go_enter Try.func14, Try.ntmps14
      go_wp2_with fail
      refine (alive19_any W).mono ?_
      rintro e w1 ⟨rfl, k1⟩
      have K1 := Lib.hid k1
      clear k1
      go_wp2_with fail
      refine (tkunpack_any A L cap _ zs _ (HB.out.keeps K1.out (fun _ _ _ _ _ h => h))).mono ?_
      rw [hu]
      rintro e w2 ⟨v2, rfl, o2, wf2, k2⟩
      obtain ⟨A2, c2, rfl, t2, -⟩ := o2.shape wf2
      have T2 := Lib.hid t2
      have K2 := Lib.hid (K1.out.trans k2 (T := None) (fun _ h => h) (fun _ _ h => h))
      have l2 := t2.le
      have m2 := t2.max
      clear o2 wf2 k2 t2
      go_wp2_with fail
      refine (num19_any _ _).mono ?_
      rintro e w' ⟨rfl, rfl⟩
      go_wp2
      go_ret
      exact ⟨by first | rfl | simp, K2.out.below (fun _ _ h => h)⟩
    · have d1 : decide (plain < 0) = false := decide_eq_false hn
      have d2 : decide (8192 < plain) = true := decide_eq_true (by omega)
      clear hr
      go_enter Try.func14, Try.ntmps14
      go_wp2_with fail
      refine (alive19_any W).mono ?_
      rintro e w1 ⟨rfl, k1⟩
      have K1 := Lib.hid k1
      clear k1
      go_wp2_with fail
      refine (tkunpack_any A L cap _ zs _ (HB.out.keeps K1.out (fun _ _ _ _ _ h => h))).mono ?_
      rw [hu]
      rintro e w2 ⟨v2, rfl, o2, wf2, k2⟩
      obtain ⟨A2, c2, rfl, t2, -⟩ := o2.shape wf2
      have T2 := Lib.hid t2
      have K2 := Lib.hid (K1.out.trans k2 (T := None) (fun _ h => h) (fun _ _ h => h))
      have l2 := t2.le
      have m2 := t2.max
      clear o2 wf2 k2 t2
      go_wp2_with fail
      refine (num19_any _ _).mono ?_
      rintro e w' ⟨rfl, rfl⟩
      go_wp2
      go_ret
      exact ⟨by first | rfl | simp, K2.out.below (fun _ _ h => h)⟩
  · have d1 : decide (plain < 0) = false := decide_eq_false (by omega)
    have d2 : decide (8192 < plain) = false := decide_eq_false (by omega)
    go_enter Try.func14, Try.ntmps14
    go_wp2_with fail
    refine (alive19_any W).mono ?_
    rintro e w1 ⟨rfl, k1⟩
    have K1 := Lib.hid k1
    clear k1
    go_wp2_with fail
    refine (tkunpack_any A L cap _ zs _ (HB.out.keeps K1.out (fun _ _ _ _ _ h => h))).mono ?_
    rw [hu]
    rintro e w2 ⟨v2, rfl, o2, wf2, k2⟩
    obtain ⟨A2, c2, rfl, t2, -⟩ := o2.shape wf2
    have T2 := Lib.hid t2
    have K2 := Lib.hid (K1.out.trans k2 (T := None) (fun _ h => h) (fun _ _ h => h))
    have l2 := t2.le
    have m2 := t2.max
    clear o2 wf2 k2 t2
    go_wp2_with fail
    refine (num19_any _ _).mono ?_
    rintro e w' ⟨rfl, rfl⟩
    go_wp2_with fail
    refine (num19_any _ _).mono ?_
    rintro e w' ⟨rfl, rfl⟩
    go_wp2
    go_ret
    exact ⟨by first | rfl | simp, K2.out.below (fun _ _ h => h)⟩
  · have d1 : decide (plain < 0) = false := decide_eq_false (by omega)
    have d2 : decide (8192 < plain) = false := decide_eq_false (by omega)
    obtain ⟨-, -, q1, q2, q3⟩ := unpF_ok hu
    have RB := Lib.hid q1
    have PK := Lib.hid q2
    have PL := Lib.hid q3
    obtain ⟨p, rfl⟩ : ∃ p : Nat, plain = p := ⟨plain.toNat, by omega⟩
    have PL2 : Hid ((plainL l).length = p) := by show _ = _; have := PL.out; omega
    clear q1 q2 q3 PL
    go_enter Try.func14, Try.ntmps14
    go_wp2_with fail
    refine (alive19_any W).mono ?_
    rintro e w1 ⟨rfl, k1⟩
    have K1 := Lib.hid k1
    clear k1
    go_wp2_with fail
    refine (tkunpack_any A L cap _ zs _ (HB.out.keeps K1.out (fun _ _ _ _ _ h => h))).mono ?_
    rw [hu]
    rintro e w2 ⟨v2, rfl, o2, wf2, k2⟩
    obtain ⟨A2, c2, rfl, t2, -⟩ := o2.shape wf2
    have T2 := Lib.hid t2
    have K2 := Lib.hid (K1.out.trans k2 (T := None) (fun _ h => h) (fun _ _ h => h))
    have l2 := t2.le
    have m2 := t2.max
    clear o2 wf2 k2 t2
    obtain ⟨sz, hsz⟩ : ∃ sz, strOf zs = sz := ⟨_, rfl⟩
    have HSZ := Lib.hid hsz
    have qz : (sz.toList == sz.toList) = true := by simp
    have BZ := Lib.hid (HB.out.keeps K2.out (fun _ _ _ _ _ h => h))
    clear hsz
    dsimp only at T2 l2 ⊢
    obtain ⟨ll, hll⟩ : ∃ x, l.length = x := ⟨_, rfl⟩
    rw [hll] at T2 l2 ⊢
    clear hll hu
    go_wp2_with fail
    refine (num19_any _ _).mono ?_
    rintro e w' ⟨rfl, rfl⟩
    go_wp2
    obtain ⟨mS, mh⟩ : ∃ S : World → Prop, ∀ w', S w' ↔ (((convert 32 9 (.slice A L cap)).run Try.prog w' = .ok (.string sz) w')) := ⟨_, fun _ => Iff.rfl⟩
    have mk0 : ∀ x : Memb mS, (convert 32 9 (.slice A L cap)).run Try.prog x.at_ = .ok (.string sz) x.at_ := fun x => ((mh _).1 x.is)
    have mn : Nonempty (Memb mS) := ⟨⟨(w2).drew, (mh _).2 ((HSZ.out ▸ run_str BZ.out.drew))⟩⟩
    have mH := Lib.hid mh
    clear mh
    refine wp_region_mix [1, 4, 5, 12] (InS mS) (by kernel_rfl) (by kernel_rfl) (InS.mk ((mH.out _).2 ((HSZ.out ▸ run_str BZ.out.drew)))) ?_
    refine wpMix_seg 1 (by kernel_rfl) (by decide) ?_
    simp only [List.take_succ_cons, List.take_zero, List.drop_succ_cons, List.drop_zero]
    repeat (first | go_big_quiet_step (fail) | (go_big_quiet_want; first | refine quiet_conv mk0 rfl rfl rfl (by simp only [Act.put, List.setIfInBounds_toArray, List.set_cons_succ, List.set_cons_zero]; rfl) ?_; go_big_quiet_on))
    refine wpQuiet_nil ?_
    refine wpMix_eff (by kernel_rfl) ?_
    go_wp2_with fail
    refine (tkright_any A2 _ c2 _ _ T2.out.drew).mono ?_
    rw [RB.out]
    rintro e w3 ⟨rfl, k3⟩
    have T3 := Lib.hid (T2.out.drew.later k3)
    have BZ3 := Lib.hid (BZ.out.drew.keeps k3 (fun _ _ _ _ _ h => h))
    have K3 := Lib.hid (K2.out.drew.trans k3 (T := None) (fun _ h => h) (fun _ _ h => h))
    clear k3
    go_wp2
    refine MixK.on (InS.mk ((mH.out _).2 ((HSZ.out ▸ run_str BZ3.out)))) ?_
    refine wpMix_seg 2 (by kernel_rfl) (by decide) ?_
    simp only [List.take_succ_cons, List.take_zero, List.drop_succ_cons, List.drop_zero]
    repeat (first | go_big_quiet_step (fail) | (go_big_quiet_want; first | refine quiet_conv mk0 rfl rfl rfl (by simp only [Act.put, List.setIfInBounds_toArray, List.set_cons_succ, List.set_cons_zero]; rfl) ?_; go_big_quiet_on))
    refine wpQuiet_nil ?_
    refine wpMix_eff (by kernel_rfl) ?_
    go_wp2_with fail
    refine (tkpack_any A2 _ c2 _ _ T3.out).mono ?_
    rw [PK.out]
    rintro e w4 ⟨v4, rfl, o4, k4⟩
    obtain ⟨A4, c4, rfl, b4, -⟩ := o4.shape
    rw [HL.out] at b4 ⊢
    have T4 := Lib.hid (T3.out.later k4)
    have BZ4 := Lib.hid (BZ3.out.keeps k4 (fun _ _ _ _ _ h => h))
    have K4 := Lib.hid (K3.out.trans k4 (T := None) (fun _ h => h) (fun _ _ h => h))
    have sd := run_str b4
    rw [HSZ.out] at sd
    clear o4 k4 b4
    go_wp2
    refine MixK.on (InS.mk ((mH.out _).2 ((HSZ.out ▸ run_str BZ4.out)))) ?_
    refine wpMix_eff (by kernel_rfl) ?_
    go_wp2
    refine MixK.on (InS.mk ((mH.out _).2 ((HSZ.out ▸ run_str BZ4.out)))) ?_
    refine wpMix_seg 6 (by kernel_rfl) (by decide) ?_
    simp only [List.take_succ_cons, List.take_zero, List.drop_succ_cons, List.drop_zero]
    repeat (first | go_big_quiet_step (fail) | (go_big_quiet_want; first | refine quiet_conv mk0 rfl rfl rfl (by simp only [Act.put, List.setIfInBounds_toArray, List.set_cons_succ, List.set_cons_zero]; rfl) ?_; go_big_quiet_on))
    refine wpQuiet_nil ?_
    refine wpMix_eff (by kernel_rfl) ?_
    go_wp2_with fail
    refine (tkplain_any A2 _ c2 _ _ T4.out).mono ?_
    rintro e w5 ⟨v5, rfl, o5, k5⟩
    obtain ⟨A5, c5, rfl, b5, -⟩ := o5.shape
    have l5 := b5.le
    rw [PL2.out] at l5 ⊢
    have K5 := Lib.hid (K4.out.trans k5 (T := None) (fun _ h => h) (fun _ _ h => h))
    have BZ5 := Lib.hid (BZ4.out.keeps k5 (fun _ _ _ _ _ h => h))
    clear o5 k5 b5
    go_wp2
    refine MixK.on (InS.mk ((mH.out _).2 ((HSZ.out ▸ run_str BZ5.out)))) ?_
    refine wpMix_seg 5 (by kernel_rfl) (by decide) ?_
    simp only [List.take_succ_cons, List.take_zero, List.drop_succ_cons, List.drop_zero]
    repeat (first | go_big_quiet_step (fail) | (go_big_quiet_want; first | refine quiet_conv mk0 rfl rfl rfl (by simp only [Act.put, List.setIfInBounds_toArray, List.set_cons_succ, List.set_cons_zero]; rfl) ?_; go_big_quiet_on))
    refine wpQuiet_nil ?_
    refine wpMix_nil ?_
    clear mk0 mn mH
    go_wp2
    go_ret
    exact ⟨by first | rfl | simp, K5.out.below (fun _ _ h => h)⟩
set_option maxRecDepth 100000 in
theorem TokenOnly_lifted (os : Os) (started : os.Started) (H : Type) (enc : TypeId × Value → H) :
    ReturnsInHanded {} Try.checked os 14 .any (Rows.tokenOnlySpec.pre6 enc Try.prog Try.f14 Rows.tokenOnlyRow.domain false) (Rows.tokenOnlySpec.post enc Try.prog Try.f14 false true false false) := by
  refine returnsInHanded_of_change (C := Try.checked) Try.own started (by kernel_rfl) Try.func14
    (ChangeSpec.witness6 (enc := enc) (C := Try.checked) false ⟨#[], #[.slice none 0 0, .int .i64 0], []⟩ 8 (by kernel_rfl) (by kernel_rfl) (by kernel_rfl) (by kernel_rfl)) ?_
  intro W base args ds gs before hval0 hW hcnd _
  have hval : ∀ (j : Nat) t v, Try.f14.params[j]? = some t → args[j]? = some v → Value.okWide Try.prog W .any base t v := hval0
  have hW' := hW
  obtain ⟨p, q, hA0, hV, rfl, hfz, hnd⟩ := hW
  have hA : DataW.TrodAll enc Try.prog W 0 (fun _ => true) true Try.f14.params.toList args.toList ds p := hA0
  rw [Try.params14] at hA hval
  obtain ⟨v0, vs0, d0, ds0, p0, q0, hargs, rfl, rfl, h0, r0⟩ := trodAll_cons hA
  obtain ⟨v1, vs1, d1, ds1, p1, q1, rfl, rfl, rfl, h1, r1⟩ := trodAll_cons r0
  obtain ⟨rfl, rfl, rfl⟩ := trodAll_nil r1
  obtain rfl : args = #[v0, v1] := by cases args; simp_all
  obtain ⟨rfl, rfl⟩ := trodVars_none hV
  have k0 := h0
  have lt0 : ∀ x ∈ p0, x.block < W.heap.size := by obtain ⟨m, hm⟩ := k0; exact DataW.trod_lt m _ _ _ hm
  obtain ⟨a0, len0, cap0, rfl⟩ := okWide_slice Try.underlying32 (hval 0 32 v0 rfl rfl)
  obtain ⟨z0, s0⟩ := open_bs h0
  have k1 := h1
  have lt1 : ∀ x ∈ p1, x.block < W.heap.size := by obtain ⟨m, hm⟩ := k1; exact DataW.trod_lt m _ _ _ hm
  obtain ⟨a1, rfl, rfl, rfl, w1⟩ := open_int Try.underlying3 (hval 1 3 v1 rfl rfl) h1
  clear hA0 hval0
  refine (only19_any a0 len0 cap0 z0 a1 W s0).mono fun e W' ⟨he, bel⟩ => ?_
  subst he
  exact ⟨_, rfl, _, _, _, [], _, [], hW', trodAll_mk1 (shut_bool Try.underlying4 _), (trodAll_cons_mk (Below.trod Try.laidOut (by kernel_rfl) (of_decide_eq_true (by kernel_rfl)) k0 bel lt0) (trodAll_cons_mk (Below.trod Try.laidOut (by kernel_rfl) (of_decide_eq_true (by kernel_rfl)) k1 bel lt1) trodAll_mk0)), rfl, bel.frame _, fun h => by cases h⟩

set_option maxRecDepth 100000 in
theorem TokenOnly_closed : joinedFacts Try.checked.prog 14 Try.f14 Rows.tokenOnlySpec Rows.tokenOnlyRow = true := by
  unfold joinedFacts
  rw [closed_laid, closed_maps, closed_heard, closed_plain, closed_mayEnter, closed_lifts, closed_make]
  kernel_rfl

theorem TokenOnly_holds : Rows.TokenOnlySaid :=
  OpenClaim.holds_of_wide 14 Try.f14 rfl rfl rfl rfl rfl rfl rfl ⟨rfl, rfl, rfl, rfl, rfl⟩ rfl rfl rfl rfl rfl (by kernel_rfl) Try.func14 TokenOnly_closed
    (of_decide_eq_true (by kernel_rfl)) (by unfold Func.isWrapper; first | (rw [if_pos (by decide +kernel)]; kernel_rfl) | (rw [if_neg (by decide +kernel)]; exact ⟨rfl, rfl⟩))
    (fun os started H enc _ => TokenOnly_lifted os started H enc)
#print axioms TokenOnly_holds
end Go.Proofs.Ytggjdkkobhefeaa
