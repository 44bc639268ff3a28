/-
  For every filling, row of bytes, parts and Flushes, the law CursorParts returns true: bytes in whatever parts stand one behind the other. No condition.
-/
import Derived.Test.YtngofnlhbhfigaaKcFill
import Derived.Test.YtngofnlhbhfigaaKcWr
import Derived.Test.YtngofnlhbhfigaaInit
namespace Go.Proofs.Ytngofnlhbhfigaa
open Go.RowKit Go.ChangeShapes Go.WideShapes Go.ChangeAt

theorem Fresh.room {s : FS} (h : Fresh s) : Room s 100000000 := ⟨by rw [h.st]; decide, fun i => by rw [h.er]; decide⟩
theorem blankB_rep9 (n : Nat) : blankB (List.replicate n 255) = true := by
  simp only [blankB, decide_eq_true_eq]
  intro i hi
  rw [List.length_replicate] at hi
  simp [List.getD, hi]
theorem IsSl.none {W : World} : IsSl W Option.none 0 0 1 [] := ⟨rfl, Nat.le_refl _, by decide, fun h => absurd h (by decide)⟩

set_option maxRecDepth 100000 in
set_option maxHeartbeats 3200000 in
theorem parts4_any (A0 A PA FA : Option Addr) (m0 c0 m cap pm pc fm fc : Nat) (zs0 zs ps : List Int) (fb : List Bool) (W : World) (h0 : Bs W A0 m0 c0 zs0) (h1 : Bs W A m cap zs) (hpl : ps.length = pm) (hp : IsSl W PA pm pc 1 (ps.map (Value.int .i64))) (hfl : fb.length = fm) (hf : IsSl W FA fm fc 1 (fb.map Value.bool)) :
    Calls Try.prog 12 #[.slice A0 m0 c0, .slice A m cap, .slice PA pm pc, .slice FA fm fc] W fun e w' => e = .returned (.bool true) ∧ Below W.heap.size W w' := by
  have l0 := h0.le
  have m9 := h0.max
  have l1 := h1.le
  have m1 := h1.max
  have pl1 := hp.2.1
  have pl2 := hp.2.2.1
  have fl1 := hf.2.1
  have fl2 := hf.2.2.1
  by_cases g1 : 300 < m0
  · have d1 : decide (300 < (m0 : Int)) = true := decide_eq_true (by omega)
    clear h0 h1
    go_enter Try.func12, Try.ntmps12
    go_wp2_with fail
    refine (alive4_any W).mono ?_
    rintro e w1 ⟨rfl, K1⟩
    go_wp2
    go_ret
    exact ⟨rfl, K1.below (fun _ _ h => h)⟩
  have d1 : decide (300 < (m0 : Int)) = false := decide_eq_false (by omega)
  by_cases g2 : 4096 < m
  · have d2 : decide (4096 < (m : Int)) = true := decide_eq_true (by omega)
    clear h0 h1
    go_enter Try.func12, Try.ntmps12
    go_wp2_with fail
    refine (alive4_any W).mono ?_
    rintro e w1 ⟨rfl, K1⟩
    go_wp2
    go_ret
    exact ⟨rfl, K1.below (fun _ _ h => h)⟩
  have d2 : decide (4096 < (m : Int)) = false := decide_eq_false (by omega)
  by_cases g3 : 60 < pm
  · have d3 : decide (60 < (pm : Int)) = true := decide_eq_true (by omega)
    clear h0 h1
    go_enter Try.func12, Try.ntmps12
    go_wp2_with fail
    refine (alive4_any W).mono ?_
    rintro e w1 ⟨rfl, K1⟩
    go_wp2
    go_ret
    exact ⟨rfl, K1.below (fun _ _ h => h)⟩
  have d3 : decide (60 < (pm : Int)) = false := decide_eq_false (by omega)
  by_cases g4 : 60 < fm
  · have d4 : decide (60 < (fm : Int)) = true := decide_eq_true (by omega)
    clear h0 h1
    go_enter Try.func12, Try.ntmps12
    go_wp2_with fail
    refine (alive4_any W).mono ?_
    rintro e w1 ⟨rfl, K1⟩
    go_wp2
    go_ret
    exact ⟨rfl, K1.below (fun _ _ h => h)⟩
  have d4 : decide (60 < (fm : Int)) = false := decide_eq_false (by omega)
  have N2 := Lib.hid num4_any
  have FI := Lib.hid (fun w hk => filled4_any A0 m0 c0 zs0 W w hk h0 (by omega))
  have HB := Lib.hid h1
  have HP := Lib.hid hp
  have HF2 := Lib.hid hf
  have HPL := Lib.hid hpl
  have HFL := Lib.hid hfl
  obtain ⟨e8, he8⟩ : ∃ x, (m + 7) / 8 = x := ⟨_, rfl⟩
  obtain ⟨en, hen⟩ : ∃ x, e8 * 8 = x := ⟨_, rfl⟩
  obtain ⟨dn, hdn⟩ : ∃ x, en - m = x := ⟨_, rfl⟩
  have i1 : (((m : Int) + 7) / 8) = e8 := by omega
  have j1 : IntKind.i64.wrap ((e8 : Int) * 8) = en := by rw [show (e8 : Int) * 8 = (en : Int) by omega]; exact wrap_nat _ (by omega)
  have j2 : IntKind.i64.wrap ((en : Int) - m) = dn := by rw [show (en : Int) - m = (dn : Int) by omega]; exact wrap_nat _ (by omega)
  have hdn8 : m + dn ≤ 4096 := by omega
  have hdn9 : ∀ r, m ≤ 1024 * r → m + dn ≤ 1024 * r := fun r hr => by omega
  have HD9 := Lib.hid hdn9
  clear h0 h1 hp hf hpl hfl he8 hen hdn hdn9
  go_enter Try.func12, Try.ntmps12
  go_wp2_with fail
  refine (alive4_any W).mono ?_
  rintro e w1 ⟨rfl, K1⟩
  -- the flash is filled, a cursor is made: H4 : LK .. (k0 s 0)
  have HK1 := Lib.hid K1
  clear K1
  go_wp2_with fail
  refine (FI.out _ HK1.out).mono ?_
  rintro e w2 ⟨q, L, s, rfl, hF, hS⟩
  have HF := Lib.hid hF
  have hI := start_inv hS.nrm (a := 0) (by decide) okB (fun i => zs.getD i 0) (fun i hi => absurd hi (Nat.not_lt_zero i)) (fun i _ hi => absurd hi (by omega))
  have HI := Lib.hid hI
  have PS := Lib.hid (start_new hS.nrm 0 (by decide))
  have RM := Lib.hid hS.room
  have EL := Lib.hid hS.nrm.el
  have AT : Hid ((k0 s 0).at_ = 0) := rfl
  have ER := Lib.hid hS.er
  generalize k0 s 0 = kk at *
  clear hF FI hI hS
  go_wp2_with fail
  refine (lgof HF.out 0 4).mono ?_
  rw [EL.out]
  rintro e w3 ⟨rfl, k3⟩
  rw [ofF_yes (show someB 0 4 ((4 : Nat) : Int) = true from rfl), Int.zero_add]
  have H3 := Lib.hid ((HF.out.later k3).alloc (.cells #[.pointer (some ⟨q, 0, none⟩), .int .i64 0, .int .i64 4] 27))
  have K3 := Lib.hid (k3.alloc (.cells #[.pointer (some ⟨q, 0, none⟩), .int .i64 0, .int .i64 4] 27))
  clear k3
  go_wp2_with fail
  refine (lknew (f := 0) (c := 4) H3.out (by rw [EL.out]; decide) ((0 : Nat) : Int)).mono ?_
  rw [PS.out]
  rintro e w4 ⟨cb, rfl, h4, -, k4⟩
  have H4 := Lib.hid h4
  have K4 := Lib.hid (K3.out.trans k4 (T := None) (fun _ h => h) (fun _ _ h => h))
  clear h4 H3 K3 k4
  go_wp2_with fail
  refine (N2.out _ _).mono ?_
  rintro e w' ⟨rfl, rfl⟩
  go_wp2_with fail
  refine (write4_nrm (N := m) (fun i => byte_getD HB.out.byte i) okB_255 (okB_can (fun i => byte_getD HB.out.byte i)) H4.out HI.out (KB.arg HB.out H4.out) (fun i _ => by rw [AT.out, Nat.zero_add]) (by rw [AT.out, Nat.zero_add]) (by omega) (by decide) HP.out HPL.out (by omega) HF2.out HFL.out (by omega) (fun n i z _ h1 h2 => okB_fl i z h1 h2) 0 (RM.out.less (by omega))).mono ?_
  rintro e w5 ⟨rfl, L5, s5, k5, h5, -, i5, a5, -⟩
  have H5 := Lib.hid h5
  have hml := HB.out.len
  have hbl := i5.core.nrm.bl
  have PK : Hid (s5.peekF 0 m = zs) := (show s5.peekF ((0 : Nat) : Int) (m : Int) = zs from peek_eq (a := 0) (n := m) (by omega) hml fun i hi => by rw [Nat.zero_add]; exact i5.core.low i hi)
  have PB : Hid (s5.peekF m dn = List.replicate dn 255) := peek_eq (by omega) List.length_replicate (fun i hi => by
    have := HD9.out _ i5.core.ur
    rw [rep_getD _ _ hi]
    exact i5.core.mid (m + i) (Nat.le_add_right _ _) (by omega))
  have A5 := Lib.hid a5
  clear h5 H4 hml hbl i5 a5 HI
  go_wp2_with fail
  refine (lpeek H5.out.lf 0 m).mono ?_
  rw [PK.out]
  rintro e w6 ⟨v6, rfl, o6, k6⟩
  obtain ⟨A6, c6, rfl, b6⟩ := slice_of_own o6
  rw [HB.out.len] at b6 ⊢
  have H6 := Lib.hid (H5.out.later k6)
  have sa := run_str b6
  have sb := run_str (HB.out.keeps H6.out.keeps (fun _ _ _ _ _ h => h))
  obtain ⟨st, hst⟩ : ∃ st, strOf zs = st := ⟨_, rfl⟩
  rw [hst] at sa sb
  have qs : (st.toList == st.toList) = true := by simp
  clear o6 k6 b6 H5 hst PK
  go_wp2_with fail
  refine (lkat H6.out).mono ?_
  rintro e w' ⟨rfl, rfl⟩
  rw [A5.out]
  go_wp2_with fail
  refine (lpeek H6.out.lf m dn).mono ?_
  rw [PB.out]
  rintro e w7 ⟨v7, rfl, o7, k7⟩
  obtain ⟨A7, c7, rfl, b7⟩ := slice_of_own o7
  have H7 := Lib.hid (H6.out.later k7)
  have IB := Lib.hid (isBlank_any _ _ _ _ w7 b7)
  rw [blankB_rep9, List.length_replicate] at IB
  have hc7 := b7.le
  have hm7 := b7.max
  clear o7 k7 b7 H6 sa sb
  go_wp2_with fail
  refine IB.out.mono ?_
  rintro e w' ⟨rfl, rfl⟩
  go_wp2
  go_ret
  exact ⟨by first | rfl | simp, H7.out.keeps.below (fun _ _ h => h)⟩
set_option maxRecDepth 100000 in
theorem CursorParts_lifted (os : Os) (started : os.Started) (H : Type) (enc : TypeId × Value → H) :
    ReturnsInHanded {} Try.checked os 12 .any (Rows.cursorPartsSpec.pre6 enc Try.prog Try.f12 Rows.cursorPartsRow.domain false) (Rows.cursorPartsSpec.post enc Try.prog Try.f12 false true false false) := by
  refine returnsInHanded_of_change (C := Try.checked) Try.own started (by kernel_rfl) Try.func12
    (ChangeSpec.witness6 (enc := enc) (C := Try.checked) false ⟨#[], #[.slice none 0 0, .slice none 0 0, .slice none 0 0, .slice none 0 0], []⟩ 8 (by kernel_rfl) (by kernel_rfl) (by kernel_rfl) (by kernel_rfl)) ?_
  intro W base args ds gs before hval0 hW hcnd _
  have hval : ∀ (j : Nat) t v, Try.f12.params[j]? = some t → args[j]? = some v → Value.okWide Try.prog W .any base t v := hval0
  have hW' := hW
  obtain ⟨p, q, hA0, hV, rfl, hfz, hnd⟩ := hW
  have hA : DataW.TrodAll enc Try.prog W 0 (fun _ => true) true Try.f12.params.toList args.toList ds p := hA0
  rw [Try.params12] at hA hval
  obtain ⟨v0, vs0, d0, ds0, p0, q0, hargs, rfl, rfl, h0, r0⟩ := trodAll_cons hA
  obtain ⟨v1, vs1, d1, ds1, p1, q1, rfl, rfl, rfl, h1, r1⟩ := trodAll_cons r0
  obtain ⟨v2, vs2, d2, ds2, p2, q2, rfl, rfl, rfl, h2, r2⟩ := trodAll_cons r1
  obtain ⟨v3, vs3, d3, ds3, p3, q3, rfl, rfl, rfl, h3, r3⟩ := trodAll_cons r2
  obtain ⟨rfl, rfl, rfl⟩ := trodAll_nil r3
  obtain rfl : args = #[v0, v1, v2, v3] := by cases args; simp_all
  obtain ⟨rfl, rfl⟩ := trodVars_none hV
  have k0 := h0
  have lt0 : ∀ x ∈ p0, x.block < W.heap.size := by obtain ⟨m, hm⟩ := k0; exact DataW.trod_lt m _ _ _ hm
  obtain ⟨a0, len0, cap0, rfl⟩ := okWide_slice Try.underlying22 (hval 0 22 v0 rfl rfl)
  obtain ⟨z0, s0⟩ := open_bs h0
  have k1 := h1
  have lt1 : ∀ x ∈ p1, x.block < W.heap.size := by obtain ⟨m, hm⟩ := k1; exact DataW.trod_lt m _ _ _ hm
  obtain ⟨a1, len1, cap1, rfl⟩ := okWide_slice Try.underlying22 (hval 1 22 v1 rfl rfl)
  obtain ⟨z1, s1⟩ := open_bs h1
  have k2 := h2
  have lt2 : ∀ x ∈ p2, x.block < W.heap.size := by obtain ⟨m, hm⟩ := k2; exact DataW.trod_lt m _ _ _ hm
  obtain ⟨a2, len2, cap2, rfl⟩ := okWide_slice Try.underlying49 (hval 2 49 v2 rfl rfl)
  obtain ⟨z2, l2, s2, w2⟩ := open_ints' Try.underlying49 Try.underlying3 (by kernel_rfl) h2
  have k3 := h3
  have lt3 : ∀ x ∈ p3, x.block < W.heap.size := by obtain ⟨m, hm⟩ := k3; exact DataW.trod_lt m _ _ _ hm
  obtain ⟨a3, len3, cap3, rfl⟩ := okWide_slice Try.underlying77 (hval 3 77 v3 rfl rfl)
  obtain ⟨z3, l3, s3⟩ := open_bools' Try.underlying77 Try.underlying4 (by kernel_rfl) h3
  clear hA0 hval0
  refine (parts4_any a0 a1 a2 a3 len0 cap0 len1 cap1 len2 cap2 len3 cap3 z0 z1 z2 z3 W s0 s1 l2 s2 l3 s3).mono fun e W' ⟨he, bel⟩ => ?_
  subst he
  exact ⟨_, rfl, _, _, _, [], _, [], hW', trodAll_mk1 (shut_bool Try.underlying4 _), (trodAll_cons_mk (Below.trod Try.laidOut (by kernel_rfl) (of_decide_eq_true (by kernel_rfl)) k0 bel lt0) (trodAll_cons_mk (Below.trod Try.laidOut (by kernel_rfl) (of_decide_eq_true (by kernel_rfl)) k1 bel lt1) (trodAll_cons_mk (Below.trod Try.laidOut (by kernel_rfl) (of_decide_eq_true (by kernel_rfl)) k2 bel lt2) (trodAll_cons_mk (Below.trod Try.laidOut (by kernel_rfl) (of_decide_eq_true (by kernel_rfl)) k3 bel lt3) trodAll_mk0)))), rfl, bel.frame _, fun h => by cases h⟩

set_option maxRecDepth 100000 in
theorem CursorParts_closed : joinedFacts Try.checked.prog 12 Try.f12 Rows.cursorPartsSpec Rows.cursorPartsRow = true := by
  unfold joinedFacts
  rw [closed_laid, closed_maps, closed_heard, closed_plain, closed_mayEnter, closed_lifts, closed_make]
  kernel_rfl

theorem CursorParts_holds : Rows.CursorPartsSaid :=
  OpenClaim.holds_of_wide 12 Try.f12 rfl rfl rfl rfl rfl rfl rfl ⟨rfl, rfl, rfl, rfl, rfl⟩ rfl rfl rfl rfl rfl (by kernel_rfl) Try.func12 CursorParts_closed
    (of_decide_eq_true (by kernel_rfl)) (by unfold Func.isWrapper; first | (rw [if_pos (by decide +kernel)]; kernel_rfl) | (rw [if_neg (by decide +kernel)]; exact ⟨rfl, rfl⟩))
    (fun os started H enc _ => CursorParts_lifted os started H enc)
#print axioms CursorParts_holds
end Go.Proofs.Ytngofnlhbhfigaa
