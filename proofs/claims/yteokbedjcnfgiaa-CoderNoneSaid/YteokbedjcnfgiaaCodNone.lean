/-
  For all numbers p, bit and v, the law CoderNone returns true: a nil Coder, a nil tree and a number out of range have the documented results. No condition.
-/
import Derived.Test.YteokbedjcnfgiaaCodTree
import Derived.Test.YteokbedjcnfgiaaCodLength
namespace Go.Proofs.Yteokbedjcnfgiaa
open Go.RowKit Go.ChangeShapes Go.WideShapes Go.ChangeAt

set_option maxRecDepth 100000 in
theorem chalf_none (bit : Int) (w : World) : Calls Try.prog 45 #[.pointer none, .int .i64 bit] w fun e w' => e = .returned (.tuple #[]) ∧ w = w' := by
  go_enter Try.func45, Try.ntmps45
  go_wp2
  refine bodyPost_ret (results_none rfl _ _ _) rfl ?_
  exact ⟨rfl, rfl⟩
set_option maxRecDepth 100000 in
theorem cbit_none (p bit : Int) (w : World) : Calls Try.prog 43 #[.pointer none, .int .i64 p, .int .i64 bit] w fun e w' => e = .returned (.int .i64 0) ∧ w = w' := by
  go_enter Try.func43, Try.ntmps43
  go_wp2
  go_ret
  exact ⟨rfl, rfl⟩
set_option maxRecDepth 100000 in
theorem cdone_none (w : World) : Calls Try.prog 49 #[.pointer none] w fun e w' => e = .returned (.slice none 0 0) ∧ w = w' := by
  go_enter Try.func49, Try.ntmps49
  go_wp2
  go_ret
  exact ⟨rfl, rfl⟩


set_option maxRecDepth 100000 in
set_option maxHeartbeats 1600000 in
theorem none16_any (p bit v : Int) (W : World) :
    Calls Try.prog 10 #[.int .i64 p, .int .i64 bit, .int .i64 v] W fun e w' => e = .returned (.bool true) ∧ Below W.heap.size W w' := by
  have ok := TOk.new 3
  have e3 : szN 3 = 3 := by decide
  have eat : atN (List.replicate (2 ^ 3) 1024) 1 = 1024 := by decide
  rw [e3] at ok
  have OK8 := Lib.hid ok
  have AV := Lib.hid eat
  have NEW := Lib.hid (fun w => new_any 3 w)
  rw [e3] at NEW
  clear ok eat e3
  go_enter Try.func10, Try.ntmps10
  go_wp2_with fail
  refine (alive16_any _).mono ?_
  rintro e w1 ⟨rfl, hk⟩
  have K1 : Hid (Keeps (fun k => W.heap.size ≤ k) W w1) := ⟨hk.os, hk.tape, hk.output, hk.size, fun i hi _ => hk.block i hi⟩
  clear hk
  go_wp2_with fail
  refine (chalf_none _ _).mono ?_
  rintro e w' ⟨rfl, rfl⟩
  go_wp2_with fail
  refine (NEW.out _).mono ?_
  rintro e w2 ⟨rfl, t2, k2⟩
  have TN := Lib.hid (ctree_nocoder _ _ _ 3 v w2 t2 OK8.out)
  have K2 := Lib.hid (K1.out.trans k2 (fun _ h => h) (fun _ _ h => h.elim))
  clear t2 k2 K1
  go_wp2_with fail
  refine TN.out.mono ?_
  rintro e w' ⟨rfl, rfl⟩
  go_wp2_with fail
  refine (cnew_any _).mono ?_
  rintro e w3 ⟨rfl, c3, k3⟩
  have C3 := Lib.hid c3
  have K3 := Lib.hid (K2.out.trans k3 (fun _ h => h) (fun _ _ h => h.elim))
  clear c3 k3 K2 TN
  go_wp2_with fail
  refine (NEW.out _).mono ?_
  rintro e w4 ⟨rfl, t4, k4⟩
  have HT := Lib.hid t4
  have HC := Lib.hid (C3.out.keeps k4 (fun h => h) (fun h => h))
  have K := Lib.hid (K3.out.trans k4 (fun _ h => h) (fun _ _ h => h.elim))
  clear t4 k4 C3 K3
  by_cases hv : v < 0
  · have q0 : decide (v < 0) = true := decide_eq_true hv
    have TO := Lib.hid (ctree_out (w2.heap.size + 1) _ _ _ 3 v w4 HT.out OK8.out (.inl hv))
    go_wp2_with (first | (go_at_call 43; refine (cbit_none _ _ _).mono ?_; rintro e w' ⟨rfl, rfl⟩) | (go_at_call 49; ((with_reducible refine (cdone_none _).mono ?_); rintro e w' ⟨rfl, rfl⟩)) | (go_at_call 47; (with_reducible refine (ctree_notree _ _ _).mono ?_); rintro e w' ⟨rfl, rfl⟩) | (go_at_call 47; (with_reducible refine TO.out.mono ?_); rintro e w' ⟨rfl, rfl⟩))
    refine (cdone_any _ _ _ _ w4 HC.out (by decide)).mono ?_
    rintro e w6 ⟨v6, rfl, o6, k6⟩
    obtain ⟨A6, cap6, hv6, bs6, -⟩ := o6.shape
    have hv6' : v6 = .slice A6 4 cap6 := hv6
    subst hv6'
    have S6 : (convert 27 9 (.slice A6 4 cap6)).run Try.prog w6 = .ok (.string ⟨#[0, 0, 0, 0]⟩) w6 := run_str bs6
    have AT := Lib.hid (at_any _ _ _ 1 w6 (HT.out.keeps k6 (fun h => h) (fun h => h)) OK8.out.le OK8.out.2.2.2.2)
    rw [AV.out] at AT
    have KF := Lib.hid (K.out.trans k6 (fun _ h => h) (fun _ _ h => h.elim))
    clear o6 bs6 hv6 k6
    go_wp2_with (go_at_call 50; refine AT.out.mono ?_; rintro e w' ⟨rfl, rfl⟩)
    go_ret
    exact ⟨rfl, KF.out.below (fun i hi h => by omega)⟩
  · have q0 : decide (v < 0) = false := decide_eq_false hv
    by_cases hv7 : 7 < v
    · have q1 : decide (7 < v) = true := decide_eq_true hv7
      have TO := Lib.hid (ctree_out (w2.heap.size + 1) _ _ _ 3 v w4 HT.out OK8.out (.inr (by simp; omega)))
      go_wp2_with (first | (go_at_call 43; refine (cbit_none _ _ _).mono ?_; rintro e w' ⟨rfl, rfl⟩) | (go_at_call 49; ((with_reducible refine (cdone_none _).mono ?_); rintro e w' ⟨rfl, rfl⟩)) | (go_at_call 47; (with_reducible refine (ctree_notree _ _ _).mono ?_); rintro e w' ⟨rfl, rfl⟩) | (go_at_call 47; (with_reducible refine TO.out.mono ?_); rintro e w' ⟨rfl, rfl⟩))
      refine (cdone_any _ _ _ _ w4 HC.out (by decide)).mono ?_
      rintro e w6 ⟨v6, rfl, o6, k6⟩
      obtain ⟨A6, cap6, hv6, bs6, -⟩ := o6.shape
      have hv6' : v6 = .slice A6 4 cap6 := hv6
      subst hv6'
      have S6 : (convert 27 9 (.slice A6 4 cap6)).run Try.prog w6 = .ok (.string ⟨#[0, 0, 0, 0]⟩) w6 := run_str bs6
      have AT := Lib.hid (at_any _ _ _ 1 w6 (HT.out.keeps k6 (fun h => h) (fun h => h)) OK8.out.le OK8.out.2.2.2.2)
      rw [AV.out] at AT
      have KF := Lib.hid (K.out.trans k6 (fun _ h => h) (fun _ _ h => h.elim))
      clear o6 bs6 hv6 k6
      go_wp2_with (go_at_call 50; refine AT.out.mono ?_; rintro e w' ⟨rfl, rfl⟩)
      go_ret
      exact ⟨rfl, KF.out.below (fun i hi h => by omega)⟩
    · have q1 : decide (7 < v) = false := decide_eq_false hv7
      go_wp2_with (first | (go_at_call 43; refine (cbit_none _ _ _).mono ?_; rintro e w' ⟨rfl, rfl⟩) | (go_at_call 49; ((with_reducible refine (cdone_none _).mono ?_); rintro e w' ⟨rfl, rfl⟩)) | (go_at_call 47; (with_reducible refine (ctree_notree _ _ _).mono ?_); rintro e w' ⟨rfl, rfl⟩))
      refine (cdone_any _ _ _ _ w4 HC.out (by decide)).mono ?_
      rintro e w6 ⟨v6, rfl, o6, k6⟩
      obtain ⟨A6, cap6, hv6, bs6, -⟩ := o6.shape
      have hv6' : v6 = .slice A6 4 cap6 := hv6
      subst hv6'
      have S6 : (convert 27 9 (.slice A6 4 cap6)).run Try.prog w6 = .ok (.string ⟨#[0, 0, 0, 0]⟩) w6 := run_str bs6
      have AT := Lib.hid (at_any _ _ _ 1 w6 (HT.out.keeps k6 (fun h => h) (fun h => h)) OK8.out.le OK8.out.2.2.2.2)
      rw [AV.out] at AT
      have KF := Lib.hid (K.out.trans k6 (fun _ h => h) (fun _ _ h => h.elim))
      clear o6 bs6 hv6 k6
      go_wp2_with (go_at_call 50; refine AT.out.mono ?_; rintro e w' ⟨rfl, rfl⟩)
      go_ret
      exact ⟨rfl, KF.out.below (fun i hi h => by omega)⟩

set_option maxRecDepth 100000 in
theorem CoderNone_lifted (os : Os) (started : os.Started) (H : Type) (enc : TypeId × Value → H) :
    ReturnsInHanded {} Try.checked os 10 .any (Rows.coderNoneSpec.pre6 enc Try.prog Try.f10 Rows.coderNoneRow.domain false) (Rows.coderNoneSpec.post enc Try.prog Try.f10 false true false false) := by
  refine returnsInHanded_of_change (C := Try.checked) Try.own started (by kernel_rfl) Try.func10
    (ChangeSpec.witness6 (enc := enc) (C := Try.checked) false ⟨#[], #[.int .i64 0, .int .i64 0, .int .i64 0], []⟩ 8 (by kernel_rfl) (by kernel_rfl) (by kernel_rfl) (by kernel_rfl)) ?_
  intro W base args ds gs before hval0 hW hcnd _
  have hval : ∀ (j : Nat) t v, Try.f10.params[j]? = some t → args[j]? = some v → Value.okWide Try.prog W .any base t v := hval0
  have hW' := hW
  obtain ⟨p, q, hA0, hV, rfl, hfz, hnd⟩ := hW
  have hA : DataW.TrodAll enc Try.prog W 0 (fun _ => true) true Try.f10.params.toList args.toList ds p := hA0
  rw [Try.params10] at hA hval
  obtain ⟨v0, vs0, d0, ds0, p0, q0, hargs, rfl, rfl, h0, r0⟩ := trodAll_cons hA
  obtain ⟨v1, vs1, d1, ds1, p1, q1, rfl, rfl, rfl, h1, r1⟩ := trodAll_cons r0
  obtain ⟨v2, vs2, d2, ds2, p2, q2, rfl, rfl, rfl, h2, r2⟩ := trodAll_cons r1
  obtain ⟨rfl, rfl, rfl⟩ := trodAll_nil r2
  obtain rfl : args = #[v0, v1, v2] := by cases args; simp_all
  obtain ⟨rfl, rfl⟩ := trodVars_none hV
  have k0 := h0
  have lt0 : ∀ x ∈ p0, x.block < W.heap.size := by obtain ⟨m, hm⟩ := k0; exact DataW.trod_lt m _ _ _ hm
  obtain ⟨a0, rfl, rfl, rfl, w0⟩ := open_int Try.underlying3 (hval 0 3 v0 rfl rfl) h0
  have k1 := h1
  have lt1 : ∀ x ∈ p1, x.block < W.heap.size := by obtain ⟨m, hm⟩ := k1; exact DataW.trod_lt m _ _ _ hm
  obtain ⟨a1, rfl, rfl, rfl, w1⟩ := open_int Try.underlying3 (hval 1 3 v1 rfl rfl) h1
  have k2 := h2
  have lt2 : ∀ x ∈ p2, x.block < W.heap.size := by obtain ⟨m, hm⟩ := k2; exact DataW.trod_lt m _ _ _ hm
  obtain ⟨a2, rfl, rfl, rfl, w2⟩ := open_int Try.underlying3 (hval 2 3 v2 rfl rfl) h2
  clear hA0 hval0
  refine (none16_any a0 a1 a2 W).mono fun e W' ⟨he, bel⟩ => ?_
  subst he
  exact ⟨_, rfl, _, _, _, [], _, [], hW', trodAll_mk1 (shut_bool Try.underlying4 _), (trodAll_cons_mk (Below.trod Try.laidOut (by kernel_rfl) (of_decide_eq_true (by kernel_rfl)) k0 bel lt0) (trodAll_cons_mk (Below.trod Try.laidOut (by kernel_rfl) (of_decide_eq_true (by kernel_rfl)) k1 bel lt1) (trodAll_cons_mk (Below.trod Try.laidOut (by kernel_rfl) (of_decide_eq_true (by kernel_rfl)) k2 bel lt2) trodAll_mk0))), rfl, bel.frame _, fun h => by cases h⟩

set_option maxRecDepth 100000 in
theorem CoderNone_closed : joinedFacts Try.checked.prog 10 Try.f10 Rows.coderNoneSpec Rows.coderNoneRow = true := by
  unfold joinedFacts
  rw [closed_laid, closed_maps, closed_heard, closed_plain, closed_mayEnter, closed_lifts, closed_make]
  kernel_rfl

theorem CoderNone_holds : Rows.CoderNoneSaid :=
  OpenClaim.holds_of_wide 10 Try.f10 rfl rfl rfl rfl rfl rfl rfl ⟨rfl, rfl, rfl, rfl, rfl⟩ rfl rfl rfl rfl rfl (by kernel_rfl) Try.func10 CoderNone_closed
    (of_decide_eq_true (by kernel_rfl)) (by unfold Func.isWrapper; first | (rw [if_pos (by decide +kernel)]; kernel_rfl) | (rw [if_neg (by decide +kernel)]; exact ⟨rfl, rfl⟩))
    (fun os started H enc _ => CoderNone_lifted os started H enc)
#print axioms CoderNone_holds
end Go.Proofs.Yteokbedjcnfgiaa
