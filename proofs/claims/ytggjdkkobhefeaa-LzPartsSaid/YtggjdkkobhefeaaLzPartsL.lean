/-
  For every row of tokens, all parts and rooms, the law LzParts returns true: packed tokens in whatever parts, with whatever room, make what they make, and are Done at their last byte, not ahead of it. No condition.
-/
import Derived.Test.YtggjdkkobhefeaaLzRun
import Derived.Test.YtggjdkkobhefeaaTkArg
import Derived.Test.YtggjdkkobhefeaaInit
namespace Go.Proofs.Ytggjdkkobhefeaa
open Go.RowKit Go.ChangeShapes Go.WideShapes Go.ChangeAt

theorem pack_len4 {ts : List Tok} (h : rightB ts 0 = true) (hw : ∀ t ∈ ts, TokWf t) : 4 ≤ (packL ts).length ∧ (packL ts).length ≤ 4 + 21 * ts.length := by
  have e : packL ts = (eRow ts (cst0, ms0)).1.l := if_pos h
  rw [e]
  exact ⟨(row_ok ts cst0 ms0 ⟨0, 0, 0⟩ (right_tv ts 0 h hw) ROk.start PP.start COk.start).1.len, row_len ts cst0 ms0 CGood.start⟩
theorem IsSl.later2 {V w : World} {A : Option Addr} {n cap : Nat} {xs : List Value} (h : IsSl V A n cap 1 xs) (hk : Keeps (fun k => V.heap.size ≤ k) V w) : IsSl w A n cap 1 xs := h.keeps hk (fun b hb h => absurd h (by show ¬ V.heap.size ≤ b; omega))
set_option maxRecDepth 100000 in
set_option maxHeartbeats 6400000 in
theorem parts20_any (A Ap Ar : Option Addr) (n cap np cp nr cr : Nat) (ts : List Tok) (ps rs : List Int) (W : World) (ht : Ts W A n cap ts) (hp : IsSl W Ap np cp 1 (ps.map (.int .i64))) (hr : IsSl W Ar nr cr 1 (rs.map (.int .i64)))
    (hpw : ∀ z ∈ ps, -9223372036854775808 ≤ z ∧ z ≤ 9223372036854775807) (hrw : ∀ z ∈ rs, -9223372036854775808 ≤ z ∧ z ≤ 9223372036854775807) :
    Calls Try.prog 10 #[.slice A n cap, .slice Ap np cp, .slice Ar nr cr] W fun e w' => e = .returned (.bool true) ∧ Below W.heap.size W w' := by
  have hle := ht.le
  have hmx := ht.max
  have hlep := hp.2.1
  have hmxp := hp.2.2.1
  have hler := hr.2.1
  have hmxr := hr.2.2.1
  have HT := Lib.hid ht
  have HP := Lib.hid hp
  have HR := Lib.hid hr
  have HPW := Lib.hid hpw
  have HRW := Lib.hid hrw
  have LN := Lib.hid ht.len
  clear ht hp hr hpw hrw
  by_cases g0 : 200 < n
  · have d0 : decide (200 < (n : Int)) = true := decide_eq_true (by omega)
    go_enter Try.func10, Try.ntmps10
    go_wp2_with fail
    refine (alive20_any W).mono ?_
    rintro e w1 ⟨rfl, k1⟩
    have K1 := Lib.hid k1
    clear k1
    go_wp2
    go_ret
    exact ⟨rfl, K1.out.below (fun _ _ h => h)⟩
  have d0 : decide (200 < (n : Int)) = false := decide_eq_false (by omega)
  by_cases g3 : 100 < np
  · have d3 : decide (100 < (np : Int)) = true := decide_eq_true (by omega)
    go_enter Try.func10, Try.ntmps10
    go_wp2_with fail
    refine (alive20_any W).mono ?_
    rintro e w1 ⟨rfl, k1⟩
    have K1 := Lib.hid k1
    clear k1
    go_wp2
    go_ret
    exact ⟨rfl, K1.out.below (fun _ _ h => h)⟩
  have d3 : decide (100 < (np : Int)) = false := decide_eq_false (by omega)
  by_cases g4 : 100 < nr
  · have d4 : decide (100 < (nr : Int)) = true := decide_eq_true (by omega)
    go_enter Try.func10, Try.ntmps10
    go_wp2_with fail
    refine (alive20_any W).mono ?_
    rintro e w1 ⟨rfl, k1⟩
    have K1 := Lib.hid k1
    clear k1
    go_wp2
    go_ret
    exact ⟨rfl, K1.out.below (fun _ _ h => h)⟩
  have d4 : decide (100 < (nr : Int)) = false := decide_eq_false (by omega)
  have HNP : Hid (np ≤ 100) := Nat.le_of_not_lt g3
  have HNR : Hid (nr ≤ 100) := Nat.le_of_not_lt g4
  cases hri : rightB ts 0 with
  | false =>
    have RB := Lib.hid hri
    clear hri
    go_enter Try.func10, Try.ntmps10
    go_wp2_with fail
    refine (alive20_any W).mono ?_
    rintro e w1 ⟨rfl, k1⟩
    have K1 := Lib.hid k1
    clear k1
    go_wp2_with fail
    refine (tkright_any A n cap _ _ (HT.out.later K1.out)).mono ?_
    rw [RB.out]
    rintro e w2 ⟨rfl, k2⟩
    have K2 := Lib.hid (K1.out.trans k2 (T := None) (fun _ h => h) (fun _ _ h => h))
    clear k2
    go_wp2
    go_ret
    exact ⟨rfl, K2.out.below (fun _ _ h => h)⟩
  | true =>
    have RB := Lib.hid hri
    obtain ⟨pk1, pk2⟩ := pack_len4 hri HT.out.wf
    have h8 := (madeT_le ts 0 hri (by decide)).2
    rw [← plainL_len hri] at h8
    have PF := Lib.hid (fun zf r o g => parts_full (zf := zf) (r := r) (o := o) hri HT.out.wf g)
    have PSH := Lib.hid (fun k hk zf r o g => parts_short (k := k) (zf := zf) (r := r) (o := o) hri HT.out.wf hk g)
    obtain ⟨pl, hpl⟩ : ∃ x, plainL ts = x := ⟨_, rfl⟩
    obtain ⟨pk, hpk⟩ : ∃ x, packL ts = x := ⟨_, rfl⟩
    rw [hpl] at PF PSH h8
    rw [hpk] at PF PSH pk1 pk2
    have PL := Lib.hid hpl
    have PK := Lib.hid hpk
    obtain ⟨pn, hpn⟩ : ∃ x, pl.length = x := ⟨_, rfl⟩
    obtain ⟨nk, hnk⟩ : ∃ x, pk.length = x := ⟨_, rfl⟩
    rw [hpn] at PF PSH h8
    rw [hnk] at PSH pk1 pk2
    have PN := Lib.hid hpn
    have NK := Lib.hid hnk
    have p8 : pn ≤ 8192 := by omega
    have nk4 : (4 : Nat) ≤ nk := pk1
    have nk10 : nk ≤ 4204 := by have := LN.out; omega
    have d5 : decide ((nk : Int) < 4) = false := decide_eq_false (by omega)
    have d5n : decide (nk < 4) = false := decide_eq_false (by omega)
    obtain ⟨sz, hsz⟩ : ∃ sz, strOf pl = sz := ⟨_, rfl⟩
    have HSZ := Lib.hid hsz
    have qz : (sz.toList == sz.toList) = true := by simp
    clear hri hpl hpk hpn hnk h8 pk1 pk2 g0 g3 g4 hsz
    go_enter Try.func10, Try.ntmps10
    go_wp2_with fail
    refine (alive20_any W).mono ?_
    rintro e w1 ⟨rfl, k1⟩
    have K1 := Lib.hid k1
    clear k1
    go_wp2_with fail
    refine (tkright_any A n cap _ _ (HT.out.later K1.out)).mono ?_
    rw [RB.out]
    rintro e w2 ⟨rfl, k2⟩
    have K2 := Lib.hid (K1.out.trans k2 (T := None) (fun _ h => h) (fun _ _ h => h))
    clear k2
    go_wp2_with fail
    refine (tkpack_any A n cap _ _ (HT.out.later K2.out)).mono ?_
    rw [PK.out]
    rintro e w3 ⟨v3, rfl, o3, k3⟩
    obtain ⟨A3, c3, rfl, b3, -⟩ := o3.shape
    rw [NK.out] at b3 ⊢
    have B3 := Lib.hid b3
    have K3 := Lib.hid (K2.out.trans k3 (T := None) (fun _ h => h) (fun _ _ h => h))
    have l3 := b3.le
    have m3 := b3.max
    clear o3 k3 b3
    go_wp2_with fail
    refine (tkplain_any A n cap _ _ (HT.out.later K3.out)).mono ?_
    rw [PL.out]
    rintro e w4 ⟨v4, rfl, o4, k4⟩
    obtain ⟨A4, c4, rfl, b4, -⟩ := o4.shape
    rw [PN.out] at b4 ⊢
    have l4 := b4.le
    have m4 := b4.max
    have B4 := Lib.hid b4
    have K4 := Lib.hid (K3.out.trans k4 (T := None) (fun _ h => h) (fun _ _ h => h))
    have B34 := Lib.hid (B3.out.keeps k4 (fun _ _ _ _ _ h => h))
    have P4 := Lib.hid (HP.out.keeps K4.out (fun _ _ h => h))
    have R4 := Lib.hid (HR.out.keeps K4.out (fun _ _ h => h))
    clear o4 k4 b4
    go_wp2_with fail
    refine (lznew_yes pn _ p8).mono ?_
    rintro e w5 ⟨L, rfl, z5, l5, k5⟩
    have Z5 := Lib.hid z5
    have L5 := Lib.hid l5
    have K5 : Hid (Keeps (fun k => w4.heap.size ≤ k) w4 w5) := k5.mono (fun _ _ h => h.elim)
    clear z5 l5 k5
    go_wp2_with fail
    refine (num20_any _ _).mono ?_
    rintro e w' ⟨rfl, rfl⟩
    go_wp2_with fail
    refine (lzrun_any w4 w5 L A3 Ap Ar nk c3 np cp nr cr pn pk ps rs B34.out P4.out R4.out HPW.out HRW.out (by omega) HNP.out HNR.out p8 K5.out L5.out Z5.out).mono ?_
    rintro e w6 ⟨v6, taken, zf, rfl, htk, o6, g6, ok6, -, hst, k6⟩
    obtain ⟨e1, e2, e3⟩ := PF.out zf _ _ g6
    have etk : taken = nk := by
      have := congrArg List.length e2
      rw [List.length_drop, NK.out, List.length_nil] at this
      omega
    obtain ⟨A6, c6, rfl, b6, -⟩ := o6.shape
    rw [e3, PN.out] at b6
    have e4 : zf.h.length = pn := by rw [e3, PN.out]
    rw [e4, e1, etk]
    have l6 := b6.le
    have m6 := b6.max
    have B6 := Lib.hid b6
    have K6 := Lib.hid k6
    clear o6 g6 ok6 hst k6 b6 htk e1 e2 e3 e4 etk Z5
    have B36 := Lib.hid (B34.out.keeps K6.out (fun b off _ hb _ h => absurd h (by show ¬ w4.heap.size ≤ b; omega)))
    have B46 := Lib.hid (B4.out.keeps K6.out (fun b off _ hb _ h => absurd h (by show ¬ w4.heap.size ≤ b; omega)))
    have P6 := Lib.hid (P4.out.later2 K6.out)
    have R6 := Lib.hid (R4.out.later2 K6.out)
    go_wp2_with fail
    refine (lznew_yes pn _ p8).mono ?_
    rintro e w7 ⟨L', rfl, z7, l7, k7⟩
    have Z7 := Lib.hid z7
    have L7 := Lib.hid l7
    have K7 : Hid (Keeps (fun k => w6.heap.size ≤ k) w6 w7) := k7.mono (fun _ _ h => h.elim)
    clear z7 l7 k7
    have BT := Lib.hid (B36.out.take (show nk - 1 ≤ nk by omega))
    go_wp2_with fail
    refine (lzrun_any w6 w7 L' A3 Ar Ap (nk - 1) c3 nr cr np cp pn _ rs ps BT.out R6.out P6.out HRW.out HPW.out (by omega) HNR.out HNP.out p8 K7.out L7.out Z7.out).mono ?_
    rintro e w8 ⟨v8, tk2, zf2, rfl, htk, o8, g8, ok8, -, hst, k8⟩
    have e5 := PSH.out (nk - 1) (by omega) zf2 _ _ g8
    have e6 : zf2.st = 1 := by omega
    rw [e6]
    have K8 := Lib.hid k8
    have V6 := Lib.hid (run_str (B6.out.keeps k8 (fun b off _ hb _ h => absurd h (by show ¬ w6.heap.size ≤ b; omega))))
    have V4 := Lib.hid (run_str (B46.out.keeps k8 (fun b off _ hb _ h => absurd h (by show ¬ w6.heap.size ≤ b; omega))))
    rw [HSZ.out] at V6 V4
    have vv6 := V6.out
    have vv4 := V4.out
    have KW : Hid (Below W.heap.size W w8) := below_keeps (below_keeps (K4.out.below (fun _ _ h => h)) K6.out (fun i h => Nat.le_trans K4.out.size h)) K8.out (fun i h => Nat.le_trans (Nat.le_trans K4.out.size K6.out.size) h)
    clear o8 g8 ok8 hst k8 htk e5 e6 V6 V4
    go_wp2
    go_ret
    exact ⟨by first | rfl | simp, KW.out⟩
set_option maxRecDepth 100000 in
theorem LzParts_lifted (os : Os) (started : os.Started) (H : Type) (enc : TypeId × Value → H) :
    ReturnsInHanded {} Try.checked os 10 .any (Rows.lzPartsSpec.pre6 enc Try.prog Try.f10 Rows.lzPartsRow.domain false) (Rows.lzPartsSpec.post enc Try.prog Try.f10 false true false false) := by
  refine returnsInHanded_of_change (C := Try.checked) Try.own started (by kernel_rfl) Try.func10
    (ChangeSpec.witness6 (enc := enc) (C := Try.checked) false ⟨#[], #[.slice none 0 0, .slice none 0 0, .slice none 0 0], []⟩ 8 (by kernel_rfl) (by kernel_rfl) (by kernel_rfl) (by kernel_rfl)) ?_
  intro W base args ds gs before hval0 hW hcnd _
  have hval : ∀ (j : Nat) t v, Try.f10.params[j]? = some t → args[j]? = some v → Value.okWide Try.prog W .any base t v := hval0
  have hW' := hW
  obtain ⟨p, q, hA0, hV, rfl, hfz, hnd⟩ := hW
  have hA : DataW.TrodAll enc Try.prog W 0 (fun _ => true) true Try.f10.params.toList args.toList ds p := hA0
  rw [Try.params10] at hA hval
  obtain ⟨v0, vs0, d0, ds0, p0, q0, hargs, rfl, rfl, h0, r0⟩ := trodAll_cons hA
  obtain ⟨v1, vs1, d1, ds1, p1, q1, rfl, rfl, rfl, h1, r1⟩ := trodAll_cons r0
  obtain ⟨v2, vs2, d2, ds2, p2, q2, rfl, rfl, rfl, h2, r2⟩ := trodAll_cons r1
  obtain ⟨rfl, rfl, rfl⟩ := trodAll_nil r2
  obtain rfl : args = #[v0, v1, v2] := by cases args; simp_all
  obtain ⟨rfl, rfl⟩ := trodVars_none hV
  have k0 := h0
  have lt0 : ∀ x ∈ p0, x.block < W.heap.size := by obtain ⟨m, hm⟩ := k0; exact DataW.trod_lt m _ _ _ hm
  obtain ⟨a0, len0, cap0, rfl⟩ := okWide_slice Try.underlying49 (hval 0 49 v0 rfl rfl)
  obtain ⟨z0, s0⟩ := open_toks h0
  have k1 := h1
  have lt1 : ∀ x ∈ p1, x.block < W.heap.size := by obtain ⟨m, hm⟩ := k1; exact DataW.trod_lt m _ _ _ hm
  obtain ⟨a1, len1, cap1, rfl⟩ := okWide_slice Try.underlying60 (hval 1 60 v1 rfl rfl)
  obtain ⟨z1, l1, s1, w1⟩ := open_ints' Try.underlying60 Try.underlying3 (by kernel_rfl) h1
  have k2 := h2
  have lt2 : ∀ x ∈ p2, x.block < W.heap.size := by obtain ⟨m, hm⟩ := k2; exact DataW.trod_lt m _ _ _ hm
  obtain ⟨a2, len2, cap2, rfl⟩ := okWide_slice Try.underlying60 (hval 2 60 v2 rfl rfl)
  obtain ⟨z2, l2, s2, w2⟩ := open_ints' Try.underlying60 Try.underlying3 (by kernel_rfl) h2
  clear hA0 hval0
  refine (parts20_any a0 a1 a2 len0 cap0 len1 cap1 len2 cap2 z0 z1 z2 W s0 s1 s2 (fun z hz => wf_i64_bd (w1 z hz)) (fun z hz => wf_i64_bd (w2 z hz))).mono fun e W' ⟨he, bel⟩ => ?_
  subst he
  exact ⟨_, rfl, _, _, _, [], _, [], hW', trodAll_mk1 (shut_bool Try.underlying4 _), (trodAll_cons_mk (Below.trod Try.laidOut (by kernel_rfl) (of_decide_eq_true (by kernel_rfl)) k0 bel lt0) (trodAll_cons_mk (Below.trod Try.laidOut (by kernel_rfl) (of_decide_eq_true (by kernel_rfl)) k1 bel lt1) (trodAll_cons_mk (Below.trod Try.laidOut (by kernel_rfl) (of_decide_eq_true (by kernel_rfl)) k2 bel lt2) trodAll_mk0))), rfl, bel.frame _, fun h => by cases h⟩

set_option maxRecDepth 100000 in
theorem LzParts_closed : joinedFacts Try.checked.prog 10 Try.f10 Rows.lzPartsSpec Rows.lzPartsRow = true := by
  unfold joinedFacts
  rw [closed_laid, closed_maps, closed_heard, closed_plain, closed_mayEnter, closed_lifts, closed_make]
  kernel_rfl

theorem LzParts_holds : Rows.LzPartsSaid :=
  OpenClaim.holds_of_wide 10 Try.f10 rfl rfl rfl rfl rfl rfl rfl ⟨rfl, rfl, rfl, rfl, rfl⟩ rfl rfl rfl rfl rfl (by kernel_rfl) Try.func10 LzParts_closed
    (of_decide_eq_true (by kernel_rfl)) (by unfold Func.isWrapper; first | (rw [if_pos (by decide +kernel)]; kernel_rfl) | (rw [if_neg (by decide +kernel)]; exact ⟨rfl, rfl⟩))
    (fun os started H enc _ => LzParts_lifted os started H enc)
#print axioms LzParts_holds
end Go.Proofs.Ytggjdkkobhefeaa
