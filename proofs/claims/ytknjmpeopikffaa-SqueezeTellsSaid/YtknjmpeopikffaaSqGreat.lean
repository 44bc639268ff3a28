/-
  For every row of bytes, the law SqueezeGreat returns true: Pack refuses rows that are too long, and those that come to too many packed bytes, and no others. No condition.
-/
import Derived.Test.YtknjmpeopikffaaSqPack
import Derived.Test.YtknjmpeopikffaaInit
namespace Go.Proofs.Ytknjmpeopikffaa
open Go.RowKit Go.ChangeShapes Go.WideShapes Go.ChangeAt

theorem num21_any (x : Int) (w : World) : Calls Try.prog 47 #[.int .i64 x] w fun e w' => e = .returned (.int .i64 x) ∧ w = w' := by
  go_enter Try.func47, Try.ntmps47
  go_wp2
  go_ret
  exact ⟨rfl, rfl⟩
set_option maxRecDepth 100000 in
set_option maxHeartbeats 1600000 in
theorem great21_any (A : Option Addr) (L cap : Nat) (zs : List Int) (W : World) (h : Bs W A L cap zs) :
    Calls Try.prog 16 #[.slice A L cap] W fun e w' => e = .returned (.bool true) ∧ Below W.heap.size W w' := by
  have hle := h.le
  have hmx := h.max
  have HL := Lib.hid h.len
  have HB := Lib.hid h
  clear h
  by_cases g0 : 8300 < L
  · have d0 : decide (8300 < (L : Int)) = true := decide_eq_true (by omega)
    go_enter Try.func16, Try.ntmps16
    go_wp2_with fail
    refine (alive21_any W).mono ?_
    rintro e w1 ⟨rfl, K1⟩
    go_wp2
    go_ret
    exact ⟨rfl, K1.below (fun _ _ h => h)⟩
  have d0 : decide (8300 < (L : Int)) = false := decide_eq_false (by omega)
  by_cases g1 : 8192 < L
  · have d1 : decide (8192 < (L : Int)) = true := decide_eq_true (by omega)
    have SP : Hid (sqP zs = ([], 10)) := if_pos (by rw [HL.out]; exact g1)
    have ST : Hid (sqT zs = []) := if_pos (by rw [HL.out]; exact g1)
    go_enter Try.func16, Try.ntmps16
    go_wp2_with fail
    refine (alive21_any W).mono ?_
    rintro e w1 ⟨rfl, K1⟩
    -- Pack and Tokens
    have HK1 := Lib.hid K1
    clear K1
    go_wp2_with fail
    refine (qpack_any A L cap zs _ (HB.out.keeps HK1.out (fun _ _ _ _ _ h => h))).mono ?_
    rw [SP.out]
    rintro e w2 ⟨v2, rfl, o2, k2⟩
    obtain ⟨A2, c2, rfl, b2, -⟩ := o2.shape
    have K2 := Lib.hid (HK1.out.trans k2 (T := None) (fun _ h => h) (fun _ _ h => h))
    have B2 := Lib.hid b2
    have bl2 := b2.le
    have bm2 := b2.max
    clear o2 k2 b2
    go_wp2_with fail
    refine (qtok_any A L cap zs _ (HB.out.keeps K2.out (fun _ _ _ _ _ h => h))).mono ?_
    rintro e w3 ⟨v3, rfl, o3, wf3, to3, k3⟩
    obtain ⟨A3, c3, rfl, t3, -⟩ := o3.shape wf3
    have K3 := Lib.hid (K2.out.trans k3 (T := None) (fun _ h => h) (fun _ _ h => h))
    have T3 := Lib.hid t3
    have TO := Lib.hid to3
    have B3 := Lib.hid (B2.out.keeps k3 (fun _ _ _ _ _ h => h))
    have tl3 := t3.le
    have tm3 := t3.max
    clear o3 wf3 to3 k3 t3 B2
    rw [ST.out] at tl3 ⊢
    go_wp2_with fail
    refine (num21_any _ _).mono ?_
    rintro e w' ⟨rfl, rfl⟩
    go_wp2
    go_ret
    exact ⟨by first | rfl | simp, K3.out.below (fun _ _ h => h)⟩
  have d1 : decide (8192 < (L : Int)) = false := decide_eq_false (by omega)
  have ST : Hid (sqT zs = tokF zs) := if_neg (by rw [HL.out]; exact g1)
  by_cases g2 : 4096 < (packL (tokF zs)).length
  · have SP : Hid (sqP zs = ([], 10)) := by show _ = _; unfold sqP; rw [if_neg (by rw [HL.out]; exact g1), if_pos g2]
    go_enter Try.func16, Try.ntmps16
    go_wp2_with fail
    refine (alive21_any W).mono ?_
    rintro e w1 ⟨rfl, K1⟩
    -- Pack and Tokens
    have HK1 := Lib.hid K1
    clear K1
    go_wp2_with fail
    refine (qpack_any A L cap zs _ (HB.out.keeps HK1.out (fun _ _ _ _ _ h => h))).mono ?_
    rw [SP.out]
    rintro e w2 ⟨v2, rfl, o2, k2⟩
    obtain ⟨A2, c2, rfl, b2, -⟩ := o2.shape
    have K2 := Lib.hid (HK1.out.trans k2 (T := None) (fun _ h => h) (fun _ _ h => h))
    have B2 := Lib.hid b2
    have bl2 := b2.le
    have bm2 := b2.max
    clear o2 k2 b2
    go_wp2_with fail
    refine (qtok_any A L cap zs _ (HB.out.keeps K2.out (fun _ _ _ _ _ h => h))).mono ?_
    rintro e w3 ⟨v3, rfl, o3, wf3, to3, k3⟩
    obtain ⟨A3, c3, rfl, t3, -⟩ := o3.shape wf3
    have K3 := Lib.hid (K2.out.trans k3 (T := None) (fun _ h => h) (fun _ _ h => h))
    have T3 := Lib.hid t3
    have TO := Lib.hid to3
    have B3 := Lib.hid (B2.out.keeps k3 (fun _ _ _ _ _ h => h))
    have tl3 := t3.le
    have tm3 := t3.max
    clear o3 wf3 to3 k3 t3 B2
    go_wp2_with fail
    refine (tkpack_any A3 _ c3 _ _ T3.out).mono ?_
    rw [ST.out]
    rintro e w4 ⟨v4, rfl, o4, k4⟩
    obtain ⟨A4, c4, rfl, b4, -⟩ := o4.shape
    have K4 := Lib.hid (K3.out.trans k4 (T := None) (fun _ h => h) (fun _ _ h => h))
    have l4 := b4.le
    have m4 := b4.max
    clear o4 k4 b4
    generalize (packL (tokF zs)).length = lp at *
    have d2 : decide (4096 < (lp : Int)) = true := decide_eq_true (by omega)
    go_wp2_with fail
    refine (num21_any _ _).mono ?_
    rintro e w' ⟨rfl, rfl⟩
    go_wp2
    go_ret
    exact ⟨by first | rfl | simp, K4.out.below (fun _ _ h => h)⟩
  · have SP : Hid (sqP zs = (packL (tokF zs), 0)) := by show _ = _; unfold sqP; rw [if_neg (by rw [HL.out]; exact g1), if_neg g2]
    go_enter Try.func16, Try.ntmps16
    go_wp2_with fail
    refine (alive21_any W).mono ?_
    rintro e w1 ⟨rfl, K1⟩
    -- Pack and Tokens
    have HK1 := Lib.hid K1
    clear K1
    go_wp2_with fail
    refine (qpack_any A L cap zs _ (HB.out.keeps HK1.out (fun _ _ _ _ _ h => h))).mono ?_
    rw [SP.out]
    rintro e w2 ⟨v2, rfl, o2, k2⟩
    obtain ⟨A2, c2, rfl, b2, -⟩ := o2.shape
    have K2 := Lib.hid (HK1.out.trans k2 (T := None) (fun _ h => h) (fun _ _ h => h))
    have B2 := Lib.hid b2
    have bl2 := b2.le
    have bm2 := b2.max
    clear o2 k2 b2
    go_wp2_with fail
    refine (qtok_any A L cap zs _ (HB.out.keeps K2.out (fun _ _ _ _ _ h => h))).mono ?_
    rintro e w3 ⟨v3, rfl, o3, wf3, to3, k3⟩
    obtain ⟨A3, c3, rfl, t3, -⟩ := o3.shape wf3
    have K3 := Lib.hid (K2.out.trans k3 (T := None) (fun _ h => h) (fun _ _ h => h))
    have T3 := Lib.hid t3
    have TO := Lib.hid to3
    have B3 := Lib.hid (B2.out.keeps k3 (fun _ _ _ _ _ h => h))
    have tl3 := t3.le
    have tm3 := t3.max
    clear o3 wf3 to3 k3 t3 B2
    go_wp2_with fail
    refine (tkpack_any A3 _ c3 _ _ T3.out).mono ?_
    rw [ST.out]
    rintro e w4 ⟨v4, rfl, o4, k4⟩
    obtain ⟨A4, c4, rfl, b4, -⟩ := o4.shape
    have K4 := Lib.hid (K3.out.trans k4 (T := None) (fun _ h => h) (fun _ _ h => h))
    have l4 := b4.le
    have m4 := b4.max
    have s2 := run_str (B3.out.keeps k4 (fun _ _ _ _ _ h => h))
    have s4 := run_str b4
    have NT : Hid (0 < (sqT zs).length ↔ 0 < L) := by show _ ↔ _; have := (TO.out (by rw [HL.out]; omega)).none_iff; rw [HL.out] at this; exact this
    clear o4 k4 b4 B3
    generalize packL (tokF zs) = pk at *
    obtain ⟨lp, hlp⟩ : ∃ x, pk.length = x := ⟨_, rfl⟩
    obtain ⟨sz, hsz⟩ : ∃ x, strOf pk = x := ⟨_, rfl⟩
    obtain ⟨lt, hlt⟩ : ∃ x, (tokF zs).length = x := ⟨_, rfl⟩
    rw [ST.out, hlt] at NT tl3
    rw [hlp, hsz] at s2 s4
    rw [hlp] at l4 g2 bl2
    have d2 : decide (4096 < (lp : Int)) = false := decide_eq_false (by omega)
    have qz : (sz.toList == sz.toList) = true := by simp
    have HLP := Lib.hid hlp
    have HLT := Lib.hid hlt
    rw [hlp, hlt]
    clear hlp hsz hlt
    by_cases g3 : 0 < L
    · have e3 : decide (0 < (L : Int)) = true := decide_eq_true (by omega)
      have e4 : decide (0 < (lt : Int)) = true := decide_eq_true (by have := NT.out.2 g3; omega)
      go_wp2_with fail
      refine (num21_any _ _).mono ?_
      rintro e w' ⟨rfl, rfl⟩
      go_wp2
      go_ret
      exact ⟨by first | rfl | (have := NT.out.2 g3; simp; try omega), K4.out.below (fun _ _ h => h)⟩
    · have e3 : decide (0 < (L : Int)) = false := decide_eq_false (by omega)
      have e4 : decide (0 < (lt : Int)) = false := decide_eq_false (by intro hh; exact g3 (NT.out.1 (by omega)))
      go_wp2_with fail
      refine (num21_any _ _).mono ?_
      rintro e w' ⟨rfl, rfl⟩
      go_wp2
      go_ret
      exact ⟨by first | rfl | (have h0 : ¬ 0 < lt := fun hh => g3 (NT.out.1 hh); simp; try omega), K4.out.below (fun _ _ h => h)⟩
set_option maxRecDepth 100000 in
theorem SqueezeGreat_lifted (os : Os) (started : os.Started) (H : Type) (enc : TypeId × Value → H) :
    ReturnsInHanded {} Try.checked os 16 .any (Rows.squeezeGreatSpec.pre6 enc Try.prog Try.f16 Rows.squeezeGreatRow.domain false) (Rows.squeezeGreatSpec.post enc Try.prog Try.f16 false true false false) := by
  refine returnsInHanded_of_change (C := Try.checked) Try.own started (by kernel_rfl) Try.func16
    (ChangeSpec.witness6 (enc := enc) (C := Try.checked) false ⟨#[], #[.slice none 0 0], []⟩ 8 (by kernel_rfl) (by kernel_rfl) (by kernel_rfl) (by kernel_rfl)) ?_
  intro W base args ds gs before hval0 hW hcnd _
  have hval : ∀ (j : Nat) t v, Try.f16.params[j]? = some t → args[j]? = some v → Value.okWide Try.prog W .any base t v := hval0
  have hW' := hW
  obtain ⟨p, q, hA0, hV, rfl, hfz, hnd⟩ := hW
  have hA : DataW.TrodAll enc Try.prog W 0 (fun _ => true) true Try.f16.params.toList args.toList ds p := hA0
  rw [Try.params16] at hA hval
  obtain ⟨v0, vs0, d0, ds0, p0, q0, hargs, rfl, rfl, h0, r0⟩ := trodAll_cons hA
  obtain ⟨rfl, rfl, rfl⟩ := trodAll_nil r0
  obtain rfl : args = #[v0] := by cases args; simp_all
  obtain ⟨rfl, rfl⟩ := trodVars_none hV
  have k0 := h0
  have lt0 : ∀ x ∈ p0, x.block < W.heap.size := by obtain ⟨m, hm⟩ := k0; exact DataW.trod_lt m _ _ _ hm
  obtain ⟨a0, len0, cap0, rfl⟩ := okWide_slice Try.underlying32 (hval 0 32 v0 rfl rfl)
  obtain ⟨z0, s0⟩ := open_bs h0
  clear hA0 hval0
  refine (great21_any a0 len0 cap0 z0 W s0).mono fun e W' ⟨he, bel⟩ => ?_
  subst he
  exact ⟨_, rfl, _, _, _, [], _, [], hW', trodAll_mk1 (shut_bool Try.underlying4 _), (trodAll_cons_mk (Below.trod Try.laidOut (by kernel_rfl) (of_decide_eq_true (by kernel_rfl)) k0 bel lt0) trodAll_mk0), rfl, bel.frame _, fun h => by cases h⟩

set_option maxRecDepth 100000 in
theorem SqueezeGreat_closed : joinedFacts Try.checked.prog 16 Try.f16 Rows.squeezeGreatSpec Rows.squeezeGreatRow = true := by
  unfold joinedFacts
  rw [closed_laid, closed_maps, closed_heard, closed_plain, closed_mayEnter, closed_lifts, closed_make]
  kernel_rfl

theorem SqueezeGreat_holds : Rows.SqueezeGreatSaid :=
  OpenClaim.holds_of_wide 16 Try.f16 rfl rfl rfl rfl rfl rfl rfl ⟨rfl, rfl, rfl, rfl, rfl⟩ rfl rfl rfl rfl rfl (by kernel_rfl) Try.func16 SqueezeGreat_closed
    (of_decide_eq_true (by kernel_rfl)) (by unfold Func.isWrapper; first | (rw [if_pos (by decide +kernel)]; kernel_rfl) | (rw [if_neg (by decide +kernel)]; exact ⟨rfl, rfl⟩))
    (fun os started H enc _ => SqueezeGreat_lifted os started H enc)
#print axioms SqueezeGreat_holds
end Go.Proofs.Ytknjmpeopikffaa
