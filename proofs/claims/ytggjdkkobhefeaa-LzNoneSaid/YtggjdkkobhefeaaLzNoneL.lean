/-
  For every row of bytes and every number, the law LzNone returns true: what an Lz that is none tells, and which numbers of plain bytes there may be. No condition.
-/
import Derived.Test.YtggjdkkobhefeaaLzAl
import Derived.Test.YtggjdkkobhefeaaInit
namespace Go.Proofs.Ytggjdkkobhefeaa
open Go.RowKit Go.ChangeShapes Go.WideShapes Go.ChangeAt

theorem nfeed_any (A : Option Addr) (n c : Nat) (x : Int) (w : World) : Calls Try.prog 19 #[.pointer none, .slice A n c, .int .i64 x] w fun e w' => e = .returned (.tuple #[.int .i64 0, .slice none 0 0, .int .i64 4]) ∧ w = w' := by
  go_enter Try.func19, Try.ntmps19
  go_wp2
  all_goals try go_step3
  all_goals try go_wp2
  all_goals try rw [Exit.noGoto_ret]
  go_ret3
  exact ⟨rfl, rfl⟩
theorem nstate_any (w : World) : Calls Try.prog 21 #[.pointer none] w fun e w' => e = .returned (.int .i64 4) ∧ w = w' := by
  go_enter Try.func21, Try.ntmps21
  go_wp2
  go_ret
  exact ⟨rfl, rfl⟩
theorem nmade_any (w : World) : Calls Try.prog 22 #[.pointer none] w fun e w' => e = .returned (.int .i64 0) ∧ w = w' := by
  go_enter Try.func22, Try.ntmps22
  go_wp2
  go_ret
  exact ⟨rfl, rfl⟩
set_option maxRecDepth 100000 in
set_option maxHeartbeats 3200000 in
theorem none20_any (A : Option Addr) (L cap : Nat) (zs : List Int) (n : Int) (W : World) (h : Bs W A L cap zs) :
    Calls Try.prog 5 #[.slice A L cap, .int .i64 n] W fun e w' => e = .returned (.bool true) ∧ Below W.heap.size W w' := by
  have hle := h.le
  have hmx := h.max
  clear h
  by_cases g0 : 100 < L
  · have d0 : decide (100 < (L : Int)) = true := decide_eq_true (by omega)
    go_enter Try.func5, Try.ntmps5
    go_wp2_with fail
    refine (alive20_any W).mono ?_
    rintro e w1 ⟨rfl, k1⟩
    have K1 := Lib.hid k1
    clear k1
    go_wp2
    go_ret
    exact ⟨rfl, K1.out.below (fun _ _ h => h)⟩
  have d0 : decide (100 < (L : Int)) = false := decide_eq_false (by omega)
  by_cases g1 : 0 ≤ n ∧ n ≤ 8192
  · obtain ⟨p, rfl⟩ : ∃ p : Nat, n = p := ⟨n.toNat, by omega⟩
    have d1 : decide (0 ≤ (p : Int)) = true := decide_eq_true g1.1
    have d2 : decide ((p : Int) ≤ 8192) = true := decide_eq_true g1.2
    have p8 : p ≤ 8192 := by omega
    clear g1
    go_enter Try.func5, Try.ntmps5
    go_wp2_with fail
    refine (alive20_any W).mono ?_
    rintro e w1 ⟨rfl, k1⟩
    have K1 := Lib.hid k1
    clear k1
    go_wp2_with fail
    refine (nfeed_any A L cap _ _).mono ?_
    rintro e w' ⟨rfl, rfl⟩
    go_wp2_with fail
    refine (lznew_yes p _ p8).mono ?_
    rintro e w2 ⟨Lz, rfl, -, -, k2⟩
    have K2 := Lib.hid (K1.out.trans k2 (T := None) (fun _ h => h) (fun _ _ h => h))
    clear k2
    go_wp2_with fail
    refine (nstate_any _).mono ?_
    rintro e w' ⟨rfl, rfl⟩
    go_wp2_with fail
    refine (nmade_any _).mono ?_
    rintro e w' ⟨rfl, rfl⟩
    go_wp2_with fail
    refine (num20_any _ _).mono ?_
    rintro e w' ⟨rfl, rfl⟩
    go_wp2
    go_ret
    exact ⟨by first | rfl | simp, K2.out.below (fun _ _ h => h)⟩
  · have hn : n < 0 ∨ 8192 < n := by omega
    by_cases g2 : n < 0
    · have d1 : decide (0 ≤ n) = false := decide_eq_false (by omega)
      go_enter Try.func5, Try.ntmps5
      go_wp2_with fail
      refine (alive20_any W).mono ?_
      rintro e w1 ⟨rfl, k1⟩
      have K1 := Lib.hid k1
      clear k1
      go_wp2_with fail
      refine (nfeed_any A L cap _ _).mono ?_
      rintro e w' ⟨rfl, rfl⟩
      go_wp2_with fail
      refine (lznew_no n _ hn).mono ?_
      rintro e w' ⟨rfl, rfl⟩
      go_wp2_with fail
      refine (nstate_any _).mono ?_
      rintro e w' ⟨rfl, rfl⟩
      go_wp2_with fail
      refine (nmade_any _).mono ?_
      rintro e w' ⟨rfl, rfl⟩
      go_wp2_with fail
      refine (num20_any _ _).mono ?_
      rintro e w' ⟨rfl, rfl⟩
      go_wp2_with fail
      refine (num20_any _ _).mono ?_
      rintro e w' ⟨rfl, rfl⟩
      go_wp2
      go_ret
      exact ⟨by first | rfl | simp, K1.out.below (fun _ _ h => h)⟩
    · have d1 : decide (0 ≤ n) = true := decide_eq_true (by omega)
      have d2 : decide (n ≤ 8192) = false := decide_eq_false (by omega)
      go_enter Try.func5, Try.ntmps5
      go_wp2_with fail
      refine (alive20_any W).mono ?_
      rintro e w1 ⟨rfl, k1⟩
      have K1 := Lib.hid k1
      clear k1
      go_wp2_with fail
      refine (nfeed_any A L cap _ _).mono ?_
      rintro e w' ⟨rfl, rfl⟩
      go_wp2_with fail
      refine (lznew_no n _ hn).mono ?_
      rintro e w' ⟨rfl, rfl⟩
      go_wp2_with fail
      refine (nstate_any _).mono ?_
      rintro e w' ⟨rfl, rfl⟩
      go_wp2_with fail
      refine (nmade_any _).mono ?_
      rintro e w' ⟨rfl, rfl⟩
      go_wp2_with fail
      refine (num20_any _ _).mono ?_
      rintro e w' ⟨rfl, rfl⟩
      go_wp2_with fail
      refine (num20_any _ _).mono ?_
      rintro e w' ⟨rfl, rfl⟩
      go_wp2
      go_ret
      exact ⟨by first | rfl | simp, K1.out.below (fun _ _ h => h)⟩
set_option maxRecDepth 100000 in
theorem LzNone_lifted (os : Os) (started : os.Started) (H : Type) (enc : TypeId × Value → H) :
    ReturnsInHanded {} Try.checked os 5 .any (Rows.lzNoneSpec.pre6 enc Try.prog Try.f5 Rows.lzNoneRow.domain false) (Rows.lzNoneSpec.post enc Try.prog Try.f5 false true false false) := by
  refine returnsInHanded_of_change (C := Try.checked) Try.own started (by kernel_rfl) Try.func5
    (ChangeSpec.witness6 (enc := enc) (C := Try.checked) false ⟨#[], #[.slice none 0 0, .int .i64 0], []⟩ 8 (by kernel_rfl) (by kernel_rfl) (by kernel_rfl) (by kernel_rfl)) ?_
  intro W base args ds gs before hval0 hW hcnd _
  have hval : ∀ (j : Nat) t v, Try.f5.params[j]? = some t → args[j]? = some v → Value.okWide Try.prog W .any base t v := hval0
  have hW' := hW
  obtain ⟨p, q, hA0, hV, rfl, hfz, hnd⟩ := hW
  have hA : DataW.TrodAll enc Try.prog W 0 (fun _ => true) true Try.f5.params.toList args.toList ds p := hA0
  rw [Try.params5] at hA hval
  obtain ⟨v0, vs0, d0, ds0, p0, q0, hargs, rfl, rfl, h0, r0⟩ := trodAll_cons hA
  obtain ⟨v1, vs1, d1, ds1, p1, q1, rfl, rfl, rfl, h1, r1⟩ := trodAll_cons r0
  obtain ⟨rfl, rfl, rfl⟩ := trodAll_nil r1
  obtain rfl : args = #[v0, v1] := by cases args; simp_all
  obtain ⟨rfl, rfl⟩ := trodVars_none hV
  have k0 := h0
  have lt0 : ∀ x ∈ p0, x.block < W.heap.size := by obtain ⟨m, hm⟩ := k0; exact DataW.trod_lt m _ _ _ hm
  obtain ⟨a0, len0, cap0, rfl⟩ := okWide_slice Try.underlying32 (hval 0 32 v0 rfl rfl)
  obtain ⟨z0, s0⟩ := open_bs h0
  have k1 := h1
  have lt1 : ∀ x ∈ p1, x.block < W.heap.size := by obtain ⟨m, hm⟩ := k1; exact DataW.trod_lt m _ _ _ hm
  obtain ⟨a1, rfl, rfl, rfl, w1⟩ := open_int Try.underlying3 (hval 1 3 v1 rfl rfl) h1
  clear hA0 hval0
  refine (none20_any a0 len0 cap0 z0 a1 W s0).mono fun e W' ⟨he, bel⟩ => ?_
  subst he
  exact ⟨_, rfl, _, _, _, [], _, [], hW', trodAll_mk1 (shut_bool Try.underlying4 _), (trodAll_cons_mk (Below.trod Try.laidOut (by kernel_rfl) (of_decide_eq_true (by kernel_rfl)) k0 bel lt0) (trodAll_cons_mk (Below.trod Try.laidOut (by kernel_rfl) (of_decide_eq_true (by kernel_rfl)) k1 bel lt1) trodAll_mk0)), rfl, bel.frame _, fun h => by cases h⟩

set_option maxRecDepth 100000 in
theorem LzNone_closed : joinedFacts Try.checked.prog 5 Try.f5 Rows.lzNoneSpec Rows.lzNoneRow = true := by
  unfold joinedFacts
  rw [closed_laid, closed_maps, closed_heard, closed_plain, closed_mayEnter, closed_lifts, closed_make]
  kernel_rfl

theorem LzNone_holds : Rows.LzNoneSaid :=
  OpenClaim.holds_of_wide 5 Try.f5 rfl rfl rfl rfl rfl rfl rfl ⟨rfl, rfl, rfl, rfl, rfl⟩ rfl rfl rfl rfl rfl (by kernel_rfl) Try.func5 LzNone_closed
    (of_decide_eq_true (by kernel_rfl)) (by unfold Func.isWrapper; first | (rw [if_pos (by decide +kernel)]; kernel_rfl) | (rw [if_neg (by decide +kernel)]; exact ⟨rfl, rfl⟩))
    (fun os started H enc _ => LzNone_lifted os started H enc)
#print axioms LzNone_holds
end Go.Proofs.Ytggjdkkobhefeaa
