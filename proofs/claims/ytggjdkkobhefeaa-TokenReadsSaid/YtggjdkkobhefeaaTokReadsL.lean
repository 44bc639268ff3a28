/-
  For every row of bytes and every number of plain bytes, the law TokenReads returns true: token.Unpack and the reference's Unpack tell the same tokens and the same kind. No condition.
-/
import Derived.Test.YtggjdkkobhefeaaRR5
import Derived.Test.YtggjdkkobhefeaaTkOnly
import Derived.Test.YtggjdkkobhefeaaTkSame
import Derived.Test.YtggjdkkobhefeaaTkFew
namespace Go.Proofs.Ytggjdkkobhefeaa
open Go.RowKit Go.ChangeShapes Go.WideShapes Go.ChangeAt

set_option maxRecDepth 100000 in
set_option maxHeartbeats 3200000 in
theorem reads19_any (A : Option Addr) (L cap : Nat) (plain : Int) (zs : List Int) (W : World) (h : Bs W A L cap zs) :
    Calls Try.prog 6 #[.slice A L cap, .int .i64 plain] W fun e w' => e = .returned (.bool true) ∧ Below W.heap.size W w' := by
  have hle := h.le
  have hmx := h.max
  have hln := h.len
  have HT := Lib.hid h
  clear h
  by_cases hf : 400 < L
  · have d1 : decide (400 < (L : Int)) = true := decide_eq_true (by omega)
    go_enter Try.func6, Try.ntmps6
    go_wp2_with fail
    refine (alive19_any W).mono ?_
    rintro e w1 ⟨rfl, k1⟩
    have K1 := Lib.hid k1
    clear k1
    go_wp2
    go_ret
    exact ⟨by first | rfl | simp, K1.out.below (fun _ _ h => h)⟩
  have d1 : decide (400 < (L : Int)) = false := decide_eq_false (by omega)
  have EQ := Lib.hid (unpRF_eq zs plain)
  go_enter Try.func6, Try.ntmps6
  go_wp2_with fail
  refine (alive19_any W).mono ?_
  rintro e w1 ⟨rfl, k1⟩
  have K1 := Lib.hid k1
  have B1 := Lib.hid (HT.out.keeps k1 (fun _ _ _ _ _ h => h))
  clear k1
  go_wp2_with (at_builtin; refine Hid.out ?_)
  refine Lib.hid ?_
  refine wpList_append_bs (Own.nil _ w1.heap.size) B1.out (by simp; omega) (Nat.le_refl _) rfl rfl rfl rfl rfl ?_
  intro v2 w2 o2 k2
  rw [List.nil_append] at o2
  obtain ⟨A2, c2, rfl, b2, -⟩ := o2.shape
  have KK2 : Keeps None w1 w2 := k2.mono (fun _ _ h => by cases h)
  have K2 := Lib.hid (K1.out.trans KK2 (T := None) (fun _ h => h) (fun _ _ h => h))
  have BB2 := Lib.hid b2
  have B2 := Lib.hid (B1.out.keeps KK2 (fun _ _ _ _ _ h => h))
  have l2 := b2.le
  have m2 := b2.max
  rw [hln] at l2 BB2
  try rw [hln]
  clear o2 k2 KK2 b2 B1
  go_wp2_with fail
  refine (tkunpack_any A2 L c2 plain zs w2 BB2.out).mono ?_
  rintro e w3 ⟨v3, rfl, o3, wf3, k3⟩
  have O3 := Lib.hid o3
  have WF3 := Lib.hid wf3
  have K3 := Lib.hid (K2.out.trans k3 (T := None) (fun _ h => h) (fun _ _ h => h))
  have B3 := Lib.hid (B2.out.keeps k3 (fun _ _ _ _ _ h => h))
  clear o3 wf3 k3
  go_wp2_with fail
  refine (rtunpack_any A L cap plain zs w3 B3.out).mono ?_
  rw [EQ.out]
  rintro e w4 ⟨v4, rfl, o4, wf4, k4⟩
  have O34 := Lib.hid (O3.out.keeps k4 (fun _ _ h => h))
  have K4 := Lib.hid (K3.out.trans k4 (T := None) (fun _ h => h) (fun _ _ h => h))
  obtain ⟨A4, c4, rfl, t4, -⟩ := o4.shape wf4
  obtain ⟨A3, c3, rfl, t3, -⟩ := O34.out.shape WF3.out
  have T3 := Lib.hid t3
  have T4 := Lib.hid t4
  have l3 := t3.le
  have m3 := t3.max
  have l4 := t4.le
  have m4 := t4.max
  obtain ⟨⟨ts, kk⟩, hu⟩ : ∃ x, unpF zs plain = x := ⟨_, rfl⟩
  rw [hu] at T3 T4 l3 l4 ⊢
  dsimp only at T3 T4 l3 l4 ⊢
  clear o4 wf4 k4 t3 t4 O3 O34 WF3 hu EQ
  generalize ts.length = tl at *
  go_wp2_with fail
  refine (rqsame_any A3 A4 tl c3 c4 ts w4 T3.out T4.out).mono ?_
  rintro e w5 ⟨rfl, k5⟩
  have K5 := Lib.hid (K4.out.trans k5 (T := None) (fun _ h => h) (fun _ _ h => h))
  clear k5
  go_wp2_with fail
  refine (num19_any _ _).mono ?_
  rintro e w' ⟨rfl, rfl⟩
  go_wp2
  go_ret
  exact ⟨by first | rfl | simp, K5.out.below (fun _ _ h => h)⟩
set_option maxRecDepth 100000 in
theorem TokenReads_lifted (os : Os) (started : os.Started) (H : Type) (enc : TypeId × Value → H) :
    ReturnsInHanded {} Try.checked os 6 .any (Rows.tokenReadsSpec.pre6 enc Try.prog Try.f6 Rows.tokenReadsRow.domain false) (Rows.tokenReadsSpec.post enc Try.prog Try.f6 false true false false) := by
  refine returnsInHanded_of_change (C := Try.checked) Try.own started (by kernel_rfl) Try.func6
    (ChangeSpec.witness6 (enc := enc) (C := Try.checked) false ⟨#[], #[.slice none 0 0, .int .i64 0], []⟩ 8 (by kernel_rfl) (by kernel_rfl) (by kernel_rfl) (by kernel_rfl)) ?_
  intro W base args ds gs before hval0 hW hcnd _
  have hval : ∀ (j : Nat) t v, Try.f6.params[j]? = some t → args[j]? = some v → Value.okWide Try.prog W .any base t v := hval0
  have hW' := hW
  obtain ⟨p, q, hA0, hV, rfl, hfz, hnd⟩ := hW
  have hA : DataW.TrodAll enc Try.prog W 0 (fun _ => true) true Try.f6.params.toList args.toList ds p := hA0
  rw [Try.params6] at hA hval
  obtain ⟨v0, vs0, d0, ds0, p0, q0, hargs, rfl, rfl, h0, r0⟩ := trodAll_cons hA
  obtain ⟨v1, vs1, d1, ds1, p1, q1, rfl, rfl, rfl, h1, r1⟩ := trodAll_cons r0
  obtain ⟨rfl, rfl, rfl⟩ := trodAll_nil r1
  obtain rfl : args = #[v0, v1] := by cases args; simp_all
  obtain ⟨rfl, rfl⟩ := trodVars_none hV
  have k0 := h0
  have lt0 : ∀ x ∈ p0, x.block < W.heap.size := by obtain ⟨m, hm⟩ := k0; exact DataW.trod_lt m _ _ _ hm
  obtain ⟨a0, len0, cap0, rfl⟩ := okWide_slice Try.underlying32 (hval 0 32 v0 rfl rfl)
  obtain ⟨z0, s0⟩ := open_bs h0
  have k1 := h1
  have lt1 : ∀ x ∈ p1, x.block < W.heap.size := by obtain ⟨m, hm⟩ := k1; exact DataW.trod_lt m _ _ _ hm
  obtain ⟨a1, rfl, rfl, rfl, w1⟩ := open_int Try.underlying3 (hval 1 3 v1 rfl rfl) h1
  clear hA0 hval0
  refine (reads19_any a0 len0 cap0 a1 z0 W s0).mono fun e W' ⟨he, bel⟩ => ?_
  subst he
  exact ⟨_, rfl, _, _, _, [], _, [], hW', trodAll_mk1 (shut_bool Try.underlying4 _), (trodAll_cons_mk (Below.trod Try.laidOut (by kernel_rfl) (of_decide_eq_true (by kernel_rfl)) k0 bel lt0) (trodAll_cons_mk (Below.trod Try.laidOut (by kernel_rfl) (of_decide_eq_true (by kernel_rfl)) k1 bel lt1) trodAll_mk0)), rfl, bel.frame _, fun h => by cases h⟩

set_option maxRecDepth 100000 in
theorem TokenReads_closed : joinedFacts Try.checked.prog 6 Try.f6 Rows.tokenReadsSpec Rows.tokenReadsRow = true := by
  unfold joinedFacts
  rw [closed_laid, closed_maps, closed_heard, closed_plain, closed_mayEnter, closed_lifts, closed_make]
  kernel_rfl

theorem TokenReads_holds : Rows.TokenReadsSaid :=
  OpenClaim.holds_of_wide 6 Try.f6 rfl rfl rfl rfl rfl rfl rfl ⟨rfl, rfl, rfl, rfl, rfl⟩ rfl rfl rfl rfl rfl (by kernel_rfl) Try.func6 TokenReads_closed
    (of_decide_eq_true (by kernel_rfl)) (by unfold Func.isWrapper; first | (rw [if_pos (by decide +kernel)]; kernel_rfl) | (rw [if_neg (by decide +kernel)]; exact ⟨rfl, rfl⟩))
    (fun os started H enc _ => TokenReads_lifted os started H enc)
#print axioms TokenReads_holds
end Go.Proofs.Ytggjdkkobhefeaa
