/-
  For any row of bytes and any n, the law WindowLast returns true: Last tells the last n bytes that were put since the window was cleared, the byte that Back tells at each place. No condition.
-/
import Derived.Test.YtfagljhjakcfnaaWindowLast2
import Derived.Test.YtfagljhjakcfnaaFrame
import Derived.Test.YtfagljhjakcfnaaInit
namespace Go.Proofs.Ytfagljhjakcfnaa
open Go.RowKit Go.ChangeShapes Go.WideShapes Go.ChangeAt

theorem wl_any (A : Option Addr) (n1 c1 : Nat) (zs : List Int) (n : Int) (w : World) (h1 : Bs w A n1 c1 zs) : Calls Try.prog 8 #[.slice A n1 c1, .int .i64 n] w fun e w' => e = .returned (.bool true) ∧ Below w.heap.size w w' := by
  by_cases g1 : 300 < n1
  · exact wl_early1 A n1 c1 n w (by simp; omega)
  · have e1 : decide (300 < (n1 : Int)) = false := by simp; omega
    by_cases g2 : n < 0
    · exact wl_early2 A n1 c1 n w e1 (by simpa using g2)
    · have e2 : decide (n < 0) = false := by simpa using g2
      by_cases g3 : 300 < n
      · exact wl_early3 A n1 c1 n w e1 e2 (by simpa using g3)
      · obtain ⟨k, rfl⟩ := Int.eq_ofNat_of_zero_le (show 0 ≤ n by omega)
        exact wl_main A n1 c1 zs k w h1 (by omega) (by omega)

set_option maxRecDepth 100000 in
theorem WindowLast_lifted (os : Os) (started : os.Started) (H : Type) (enc : TypeId × Value → H) :
    ReturnsInHanded {} Try.checked os 8 .any (Rows.windowLastSpec.pre6 enc Try.prog Try.f8 Rows.windowLastRow.domain false) (Rows.windowLastSpec.post enc Try.prog Try.f8 false true false false) := by
  refine returnsInHanded_of_change (C := Try.checked) Try.own started (by kernel_rfl) Try.func8
    (ChangeSpec.witness6 (enc := enc) (C := Try.checked) false ⟨#[], #[.slice none 0 0, .int .i64 0], []⟩ 8 (by kernel_rfl) (by kernel_rfl) (by kernel_rfl) (by kernel_rfl)) ?_
  intro W base args ds gs before hval0 hW hcnd _
  have hval : ∀ (j : Nat) t v, Try.f8.params[j]? = some t → args[j]? = some v → Value.okWide Try.prog W .any base t v := hval0
  have hW' := hW
  obtain ⟨p, q, hA0, hV, rfl, hfz, hnd⟩ := hW
  have hA : DataW.TrodAll enc Try.prog W 0 (fun _ => true) true Try.f8.params.toList args.toList ds p := hA0
  rw [Try.params8] at hA hval
  obtain ⟨v0, vs0, d0, ds0, p0, q0, hargs, rfl, rfl, h0, r0⟩ := trodAll_cons hA
  obtain ⟨v1, vs1, d1, ds1, p1, q1, rfl, rfl, rfl, h1, r1⟩ := trodAll_cons r0
  obtain ⟨rfl, rfl, rfl⟩ := trodAll_nil r1
  obtain rfl : args = #[v0, v1] := by cases args; simp_all
  obtain ⟨rfl, rfl⟩ := trodVars_none hV
  have k0 := h0
  have lt0 : ∀ x ∈ p0, x.block < W.heap.size := by obtain ⟨m, hm⟩ := k0; exact DataW.trod_lt m _ _ _ hm
  obtain ⟨a0, len0, cap0, rfl⟩ := okWide_slice Try.underlying49 (hval 0 49 v0 rfl rfl)
  obtain ⟨z0, s0⟩ := open_bs h0
  have k1 := h1
  have lt1 : ∀ x ∈ p1, x.block < W.heap.size := by obtain ⟨m, hm⟩ := k1; exact DataW.trod_lt m _ _ _ hm
  obtain ⟨a1, rfl, rfl, rfl, w1⟩ := open_int Try.underlying3 (hval 1 3 v1 rfl rfl) h1
  clear hA0 hval0
  refine (wl_any a0 len0 cap0 z0 a1 W s0).mono fun e W' ⟨he, bel⟩ => ?_
  subst he
  exact ⟨_, rfl, _, _, _, [], _, [], hW', trodAll_mk1 (shut_bool Try.underlying4 _), (trodAll_cons_mk (Below.trod Try.laidOut (by kernel_rfl) (of_decide_eq_true (by kernel_rfl)) k0 bel lt0) (trodAll_cons_mk (Below.trod Try.laidOut (by kernel_rfl) (of_decide_eq_true (by kernel_rfl)) k1 bel lt1) trodAll_mk0)), rfl, bel.frame _, fun h => by cases h⟩

set_option maxRecDepth 100000 in
theorem WindowLast_closed : joinedFacts Try.checked.prog 8 Try.f8 Rows.windowLastSpec Rows.windowLastRow = true := by
  unfold joinedFacts
  rw [closed_laid, closed_maps, closed_heard, closed_plain, closed_mayEnter, closed_lifts, closed_make]
  kernel_rfl

theorem WindowLast_holds : Rows.WindowLastSaid :=
  OpenClaim.holds_of_wide 8 Try.f8 rfl rfl rfl rfl rfl rfl rfl ⟨rfl, rfl, rfl, rfl, rfl⟩ rfl rfl rfl rfl rfl (by kernel_rfl) Try.func8 WindowLast_closed
    (of_decide_eq_true (by kernel_rfl)) (by unfold Func.isWrapper; first | (rw [if_pos (by decide +kernel)]; kernel_rfl) | (rw [if_neg (by decide +kernel)]; exact ⟨rfl, rfl⟩))
    (fun os started H enc _ => WindowLast_lifted os started H enc)
#print axioms WindowLast_holds
end Go.Proofs.Ytfagljhjakcfnaa
