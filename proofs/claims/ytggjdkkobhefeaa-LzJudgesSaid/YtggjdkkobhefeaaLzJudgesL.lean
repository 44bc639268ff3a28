/-
  For all bytes, every number of plain bytes, all parts and rooms, the law LzJudges returns true: lzlite is Done just where a front of the bytes is packed from tokens that make so many, and has made these. No condition.
-/
import Derived.Test.YtggjdkkobhefeaaLzRun
import Derived.Test.YtggjdkkobhefeaaInit
namespace Go.Proofs.Ytggjdkkobhefeaa
open Go.RowKit Go.ChangeShapes Go.WideShapes Go.ChangeAt

set_option maxRecDepth 100000 in
set_option maxHeartbeats 6400000 in
theorem judges20_any (A Ap Ar : Option Addr) (n cap np cp nr cr : Nat) (bs ps rs : List Int) (plain : Int) (W : World) (hb : Bs W A n cap bs) (hp : IsSl W Ap np cp 1 (ps.map (.int .i64))) (hr : IsSl W Ar nr cr 1 (rs.map (.int .i64)))
    (hpw : ∀ z ∈ ps, -9223372036854775808 ≤ z ∧ z ≤ 9223372036854775807) (hrw : ∀ z ∈ rs, -9223372036854775808 ≤ z ∧ z ≤ 9223372036854775807) :
    Calls Try.prog 11 #[.slice A n cap, .int .i64 plain, .slice Ap np cp, .slice Ar nr cr] W fun e w' => e = .returned (.bool true) ∧ Below W.heap.size W w' := by
  have hle := hb.le
  have hmx := hb.max
  have hlep := hp.2.1
  have hmxp := hp.2.2.1
  have hler := hr.2.1
  have hmxr := hr.2.2.1
  have HB := Lib.hid hb
  have HP := Lib.hid hp
  have HR := Lib.hid hr
  have HPW := Lib.hid hpw
  have HRW := Lib.hid hrw
  have LN := Lib.hid hb.len
  clear hb hp hr hpw hrw
  by_cases g0 : 400 < n
  · have d0 : decide (400 < (n : Int)) = true := decide_eq_true (by omega)
    go_enter Try.func11, Try.ntmps11
    go_wp2_with fail
    refine (alive20_any W).mono ?_
    rintro e w1 ⟨rfl, k1⟩
    have K1 := Lib.hid k1
    clear k1
    go_wp2
    go_ret
    exact ⟨rfl, K1.out.below (fun _ _ h => h)⟩
  have d0 : decide (400 < (n : Int)) = false := decide_eq_false (by omega)
  by_cases g1 : plain < 0
  · have d1 : decide (plain < 0) = true := decide_eq_true g1
    go_enter Try.func11, Try.ntmps11
    go_wp2_with fail
    refine (alive20_any W).mono ?_
    rintro e w1 ⟨rfl, k1⟩
    have K1 := Lib.hid k1
    clear k1
    go_wp2
    go_ret
    exact ⟨rfl, K1.out.below (fun _ _ h => h)⟩
  have d1 : decide (plain < 0) = false := decide_eq_false g1
  by_cases g2 : 8192 < plain
  · have d2 : decide (8192 < plain) = true := decide_eq_true g2
    go_enter Try.func11, Try.ntmps11
    go_wp2_with fail
    refine (alive20_any W).mono ?_
    rintro e w1 ⟨rfl, k1⟩
    have K1 := Lib.hid k1
    clear k1
    go_wp2
    go_ret
    exact ⟨rfl, K1.out.below (fun _ _ h => h)⟩
  have d2 : decide (8192 < plain) = false := decide_eq_false g2
  by_cases g3 : 100 < np
  · have d3 : decide (100 < (np : Int)) = true := decide_eq_true (by omega)
    go_enter Try.func11, Try.ntmps11
    go_wp2_with fail
    refine (alive20_any W).mono ?_
    rintro e w1 ⟨rfl, k1⟩
    have K1 := Lib.hid k1
    clear k1
    go_wp2
    go_ret
    exact ⟨rfl, K1.out.below (fun _ _ h => h)⟩
  have d3 : decide (100 < (np : Int)) = false := decide_eq_false (by omega)
  by_cases g4 : 100 < nr
  · have d4 : decide (100 < (nr : Int)) = true := decide_eq_true (by omega)
    go_enter Try.func11, Try.ntmps11
    go_wp2_with fail
    refine (alive20_any W).mono ?_
    rintro e w1 ⟨rfl, k1⟩
    have K1 := Lib.hid k1
    clear k1
    go_wp2
    go_ret
    exact ⟨rfl, K1.out.below (fun _ _ h => h)⟩
  have d4 : decide (100 < (nr : Int)) = false := decide_eq_false (by omega)
  obtain ⟨p, rfl⟩ : ∃ p : Nat, plain = p := ⟨plain.toNat, by omega⟩
  have p8 : p ≤ 8192 := by omega
  have n400 : n ≤ 400 := by omega
  have HNP : Hid (np ≤ 100) := Nat.le_of_not_lt g3
  have HNR : Hid (nr ≤ 100) := Nat.le_of_not_lt g4
  clear g0 g1 g2 g3 g4
  go_enter Try.func11, Try.ntmps11
  go_wp2_with fail
  refine (alive20_any W).mono ?_
  rintro e w1 ⟨rfl, k1⟩
  have K1 := Lib.hid k1
  clear k1
  go_wp2_with fail
  refine (lznew_yes p _ p8).mono ?_
  rintro e w2 ⟨L, rfl, z2, l2, k2⟩
  have Z2 := Lib.hid z2
  have L2 : Hid (W.heap.size ≤ L.db) := Nat.le_trans K1.out.size l2
  have K2 : Hid (Keeps (fun k => W.heap.size ≤ k) W w2) := K1.out.trans k2 (T := fun k => W.heap.size ≤ k) (fun _ h => h.elim) (fun _ _ h => h.elim)
  clear z2 l2 k2
  go_wp2_with fail
  refine (num20_any _ _).mono ?_
  rintro e w' ⟨rfl, rfl⟩
  go_wp2_with fail
  refine (lzrun_any W w2 L A Ap Ar n cap np cp nr cr p bs ps rs HB.out HP.out HR.out HPW.out HRW.out (by omega) HNP.out HNR.out p8 K2.out L2.out Z2.out).mono ?_
  rintro e w3 ⟨v, taken, zf, rfl, htk, o3, g3, ok3, pl3, hst, k3⟩
  obtain ⟨A3, c3, rfl, b3, -⟩ := o3.shape
  have l3 := b3.le
  have m3 := b3.max
  have hl3 : zf.h.length ≤ p := by have := ok3.hp; omega
  have B3 := Lib.hid b3
  have K3 := Lib.hid k3
  have GG := Lib.hid g3
  have HB3 := Lib.hid (HB.out.keeps k3 (fun b off _ hb _ h => absurd h (by show ¬ W.heap.size ≤ b; omega)))
  obtain ⟨fl, hfl⟩ : ∃ x, zf.h.length = x := ⟨_, rfl⟩
  have FL := Lib.hid hfl
  rw [hfl] at B3 l3 hl3 ⊢
  have HTK := Lib.hid htk
  clear o3 g3 ok3 pl3 k3 b3 hfl
  by_cases s3 : zf.st = 3
  · have q3 : (zf.st == 3) = true := by simp [s3]
    obtain ⟨ts, hu, hpl⟩ := judge_done HB.out.byte p8 (by rw [LN.out]; exact htk) GG.out s3
    have UN := Lib.hid hu
    have PL := Lib.hid hpl
    have BT := Lib.hid (HB3.out.take htk)
    obtain ⟨sz, hsz⟩ : ∃ sz, strOf zf.h = sz := ⟨_, rfl⟩
    have HSZ := Lib.hid hsz
    have qz : (sz.toList == sz.toList) = true := by simp
    clear hu hpl hsz hst s3 Z2
    go_wp2_with fail
    refine (tkunpack_any A taken cap _ _ _ BT.out).mono ?_
    rw [UN.out]
    rintro e w5 ⟨v5, rfl, o5, wf5, k5⟩
    obtain ⟨A5, c5, rfl, t5, -⟩ := o5.shape wf5
    have T5 := Lib.hid t5
    have K5 : Hid (Keeps (fun k => W.heap.size ≤ k) W w5) := K3.out.trans k5 (T := fun k => W.heap.size ≤ k) (fun _ h => h) (fun _ _ h => h.elim)
    have B5 := Lib.hid (B3.out.keeps k5 (fun _ _ _ _ _ h => h))
    clear o5 wf5 k5 t5
    dsimp only at T5 ⊢
    obtain ⟨tl, htl⟩ : ∃ x, ts.length = x := ⟨_, rfl⟩
    rw [htl] at T5 ⊢
    clear htl
    go_wp2
    obtain ⟨mS, mh⟩ : ∃ S : World → Prop, ∀ w', S w' ↔ (((convert 32 9 (.slice A3 fl c3)).run Try.prog w' = .ok (.string sz) w')) := ⟨_, fun _ => Iff.rfl⟩
    have mk0 : ∀ x : Memb mS, (convert 32 9 (.slice A3 fl c3)).run Try.prog x.at_ = .ok (.string sz) x.at_ := fun x => ((mh _).1 x.is)
    have mn : Nonempty (Memb mS) := ⟨⟨(w5).drew, (mh _).2 ((HSZ.out ▸ run_str B5.out.drew))⟩⟩
    have mH := Lib.hid mh
    clear mh
    refine wp_region_mix [1, 5, 6] (InS mS) (by kernel_rfl) (by kernel_rfl) (InS.mk ((mH.out _).2 ((HSZ.out ▸ run_str B5.out.drew)))) ?_
    refine wpMix_seg 1 (by kernel_rfl) (by decide) ?_
    simp only [List.take_succ_cons, List.take_zero, List.drop_succ_cons, List.drop_zero]
    repeat (first | go_big_quiet_step (fail) | (go_big_quiet_want; first | refine quiet_conv mk0 rfl rfl rfl (by simp only [Act.put, List.setIfInBounds_toArray, List.set_cons_succ, List.set_cons_zero]; rfl) ?_; go_big_quiet_on))
    refine wpQuiet_nil ?_
    refine wpMix_eff (by kernel_rfl) ?_
    go_wp2_with fail
    refine (num20_any _ _).mono ?_
    rintro e w' ⟨rfl, rfl⟩
    go_wp2
    refine MixK.on (InS.mk ((mH.out _).2 ((HSZ.out ▸ run_str B5.out.drew)))) ?_
    refine wpMix_seg 3 (by kernel_rfl) (by decide) ?_
    simp only [List.take_succ_cons, List.take_zero, List.drop_succ_cons, List.drop_zero]
    repeat (first | go_big_quiet_step (fail) | (go_big_quiet_want; first | refine quiet_conv mk0 rfl rfl rfl (by simp only [Act.put, List.setIfInBounds_toArray, List.set_cons_succ, List.set_cons_zero]; rfl) ?_; go_big_quiet_on))
    refine wpQuiet_nil ?_
    refine wpMix_eff (by kernel_rfl) ?_
    go_wp2_with fail
    refine (tkplain_any A5 _ c5 _ _ T5.out.drew).mono ?_
    rw [PL.out]
    rintro e w6 ⟨v6, rfl, o6, k6⟩
    obtain ⟨A6, c6, rfl, b6, -⟩ := o6.shape
    rw [FL.out] at b6 ⊢
    have B6 := Lib.hid (B5.out.drew.keeps k6 (fun _ _ _ _ _ h => h))
    have K6 : Hid (Keeps (fun k => W.heap.size ≤ k) W w6) := K5.out.drew.trans k6 (T := fun k => W.heap.size ≤ k) (fun _ h => h) (fun _ _ h => h.elim)
    have sd := run_str b6
    rw [HSZ.out] at sd
    clear o6 k6 b6
    go_wp2
    refine MixK.on (InS.mk ((mH.out _).2 ((HSZ.out ▸ run_str B6.out)))) ?_
    refine wpMix_eff (by kernel_rfl) ?_
    go_wp2
    refine MixK.on (InS.mk ((mH.out _).2 ((HSZ.out ▸ run_str B6.out)))) ?_
    refine wpMix_seg 5 (by kernel_rfl) (by decide) ?_
    simp only [List.take_succ_cons, List.take_zero, List.drop_succ_cons, List.drop_zero]
    repeat (first | go_big_quiet_step (fail) | (go_big_quiet_want; first | refine quiet_conv mk0 rfl rfl rfl (by simp only [Act.put, List.setIfInBounds_toArray, List.set_cons_succ, List.set_cons_zero]; rfl) ?_; go_big_quiet_on))
    refine wpQuiet_nil ?_
    refine wpMix_nil ?_
    clear mk0 mn mH
    go_wp2
    go_ret
    exact ⟨by first | rfl | simp, K6.out.below (fun k hk h => absurd h (by show ¬ W.heap.size ≤ k; omega))⟩
  · have q3 : (zf.st == 3) = false := by simp [s3]
    have UN := Lib.hid (judge_no p8 GG.out s3)
    have e1 : decide ((fl : Int) ≤ (p : Int)) = true := decide_eq_true (by omega)
    have e2 : decide (fl ≤ p) = true := decide_eq_true hl3
    have hs2 : zf.st = 4 ∨ (zf.st = 1 ∧ taken = n) := by omega
    clear hst Z2
    go_wp2_with fail
    refine (tkunpack_any A n cap _ _ _ HB3.out).mono ?_
    rw [UN.out]
    rintro e w5 ⟨v5, rfl, o5, wf5, k5⟩
    obtain ⟨A5, c5, rfl, -, -⟩ := o5.shape wf5
    have K5 : Hid (Keeps (fun k => W.heap.size ≤ k) W w5) := K3.out.trans k5 (T := fun k => W.heap.size ≤ k) (fun _ h => h) (fun _ _ h => h.elim)
    clear o5 wf5 k5
    dsimp only
    go_wp2_with fail
    refine (num20_any _ _).mono ?_
    rintro e w' ⟨rfl, rfl⟩
    rcases hs2 with s4 | ⟨s4, htn⟩
    · have q4 : (zf.st == 4) = true := by simp [s4]
      clear s3 s4
      go_wp2
      go_ret
      exact ⟨by first | rfl | simp, K5.out.below (fun k hk h => absurd h (by show ¬ W.heap.size ≤ k; omega))⟩
    · have q4 : (zf.st == 4) = false := by simp [s4]
      have q5 : (zf.st == 1) = true := by simp [s4]
      have q6 : ((taken : Int) == (n : Int)) = true := by simp [htn]
      have q7 : (taken == n) = true := by simp [htn]
      clear s3 s4 htn
      go_wp2
      go_ret
      exact ⟨by first | rfl | simp, K5.out.below (fun k hk h => absurd h (by show ¬ W.heap.size ≤ k; omega))⟩
set_option maxRecDepth 100000 in
theorem LzJudges_lifted (os : Os) (started : os.Started) (H : Type) (enc : TypeId × Value → H) :
    ReturnsInHanded {} Try.checked os 11 .any (Rows.lzJudgesSpec.pre6 enc Try.prog Try.f11 Rows.lzJudgesRow.domain false) (Rows.lzJudgesSpec.post enc Try.prog Try.f11 false true false false) := by
  refine returnsInHanded_of_change (C := Try.checked) Try.own started (by kernel_rfl) Try.func11
    (ChangeSpec.witness6 (enc := enc) (C := Try.checked) false ⟨#[], #[.slice none 0 0, .int .i64 0, .slice none 0 0, .slice none 0 0], []⟩ 8 (by kernel_rfl) (by kernel_rfl) (by kernel_rfl) (by kernel_rfl)) ?_
  intro W base args ds gs before hval0 hW hcnd _
  have hval : ∀ (j : Nat) t v, Try.f11.params[j]? = some t → args[j]? = some v → Value.okWide Try.prog W .any base t v := hval0
  have hW' := hW
  obtain ⟨p, q, hA0, hV, rfl, hfz, hnd⟩ := hW
  have hA : DataW.TrodAll enc Try.prog W 0 (fun _ => true) true Try.f11.params.toList args.toList ds p := hA0
  rw [Try.params11] at hA hval
  obtain ⟨v0, vs0, d0, ds0, p0, q0, hargs, rfl, rfl, h0, r0⟩ := trodAll_cons hA
  obtain ⟨v1, vs1, d1, ds1, p1, q1, rfl, rfl, rfl, h1, r1⟩ := trodAll_cons r0
  obtain ⟨v2, vs2, d2, ds2, p2, q2, rfl, rfl, rfl, h2, r2⟩ := trodAll_cons r1
  obtain ⟨v3, vs3, d3, ds3, p3, q3, rfl, rfl, rfl, h3, r3⟩ := trodAll_cons r2
  obtain ⟨rfl, rfl, rfl⟩ := trodAll_nil r3
  obtain rfl : args = #[v0, v1, v2, v3] := by cases args; simp_all
  obtain ⟨rfl, rfl⟩ := trodVars_none hV
  have k0 := h0
  have lt0 : ∀ x ∈ p0, x.block < W.heap.size := by obtain ⟨m, hm⟩ := k0; exact DataW.trod_lt m _ _ _ hm
  obtain ⟨a0, len0, cap0, rfl⟩ := okWide_slice Try.underlying32 (hval 0 32 v0 rfl rfl)
  obtain ⟨z0, s0⟩ := open_bs h0
  have k1 := h1
  have lt1 : ∀ x ∈ p1, x.block < W.heap.size := by obtain ⟨m, hm⟩ := k1; exact DataW.trod_lt m _ _ _ hm
  obtain ⟨a1, rfl, rfl, rfl, w1⟩ := open_int Try.underlying3 (hval 1 3 v1 rfl rfl) h1
  have k2 := h2
  have lt2 : ∀ x ∈ p2, x.block < W.heap.size := by obtain ⟨m, hm⟩ := k2; exact DataW.trod_lt m _ _ _ hm
  obtain ⟨a2, len2, cap2, rfl⟩ := okWide_slice Try.underlying60 (hval 2 60 v2 rfl rfl)
  obtain ⟨z2, l2, s2, w2⟩ := open_ints' Try.underlying60 Try.underlying3 (by kernel_rfl) h2
  have k3 := h3
  have lt3 : ∀ x ∈ p3, x.block < W.heap.size := by obtain ⟨m, hm⟩ := k3; exact DataW.trod_lt m _ _ _ hm
  obtain ⟨a3, len3, cap3, rfl⟩ := okWide_slice Try.underlying60 (hval 3 60 v3 rfl rfl)
  obtain ⟨z3, l3, s3, w3⟩ := open_ints' Try.underlying60 Try.underlying3 (by kernel_rfl) h3
  clear hA0 hval0
  refine (judges20_any a0 a2 a3 len0 cap0 len2 cap2 len3 cap3 z0 z2 z3 a1 W s0 s2 s3 (fun z hz => wf_i64_bd (w2 z hz)) (fun z hz => wf_i64_bd (w3 z hz))).mono fun e W' ⟨he, bel⟩ => ?_
  subst he
  exact ⟨_, rfl, _, _, _, [], _, [], hW', trodAll_mk1 (shut_bool Try.underlying4 _), (trodAll_cons_mk (Below.trod Try.laidOut (by kernel_rfl) (of_decide_eq_true (by kernel_rfl)) k0 bel lt0) (trodAll_cons_mk (Below.trod Try.laidOut (by kernel_rfl) (of_decide_eq_true (by kernel_rfl)) k1 bel lt1) (trodAll_cons_mk (Below.trod Try.laidOut (by kernel_rfl) (of_decide_eq_true (by kernel_rfl)) k2 bel lt2) (trodAll_cons_mk (Below.trod Try.laidOut (by kernel_rfl) (of_decide_eq_true (by kernel_rfl)) k3 bel lt3) trodAll_mk0)))), rfl, bel.frame _, fun h => by cases h⟩

set_option maxRecDepth 100000 in
theorem LzJudges_closed : joinedFacts Try.checked.prog 11 Try.f11 Rows.lzJudgesSpec Rows.lzJudgesRow = true := by
  unfold joinedFacts
  rw [closed_laid, closed_maps, closed_heard, closed_plain, closed_mayEnter, closed_lifts, closed_make]
  kernel_rfl

theorem LzJudges_holds : Rows.LzJudgesSaid :=
  OpenClaim.holds_of_wide 11 Try.f11 rfl rfl rfl rfl rfl rfl rfl ⟨rfl, rfl, rfl, rfl, rfl⟩ rfl rfl rfl rfl rfl (by kernel_rfl) Try.func11 LzJudges_closed
    (of_decide_eq_true (by kernel_rfl)) (by unfold Func.isWrapper; first | (rw [if_pos (by decide +kernel)]; kernel_rfl) | (rw [if_neg (by decide +kernel)]; exact ⟨rfl, rfl⟩))
    (fun os started H enc _ => LzJudges_lifted os started H enc)
#print axioms LzJudges_holds
end Go.Proofs.Ytggjdkkobhefeaa
