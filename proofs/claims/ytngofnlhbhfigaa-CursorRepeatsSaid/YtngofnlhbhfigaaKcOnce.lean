/-
  For every filling, row of bytes, parts and Flushes, the law CursorOnce returns true: a cursor erases no sector twice, and none that was blank. No condition.
-/
import Derived.Test.YtngofnlhbhfigaaKcParts
namespace Go.Proofs.Ytngofnlhbhfigaa
open Go.RowKit Go.ChangeShapes Go.WideShapes Go.ChangeAt

theorem Lb.toKB {w w' : World} {L : FL} {cb : Nat} {A : Option Addr} {n cap : Nat} {zs : List Int} (h : Lb w L A n cap zs) (hk : Keeps None w w') (hc : w.heap.size ≤ cb) : KB w' L cb A n cap zs :=
  ⟨h.bs.keeps hk (fun _ _ _ _ _ h => h), fun b off h0 e => by
    obtain ⟨b', off', e', hb, _⟩ := h.bs.at_ h0
    have h1 := h.ap b off h0 e
    rw [e] at e'
    cases e'
    exact ⟨h1, by omega⟩⟩
theorem once_plain {s s5 : FS} {k5 : KS} {m : Nat} {D : Nat → Int} (hS : Fresh s) (h : KInv 4 okB D (fun i => s.b.getD i 0) (fun x => s.er.getD x 0) ((0 + 1023) / 1024) s5 k5 m) (i : Nat) (hi : i < 4) :
    s5.erasesF i = if nbF (fun i => s.b.getD i 0) i = true ∧ 0 < m ∧ i ≤ (m - 1) / 1024 + 1 then 1 else 0 := by
  have hr := h.core.rd rfl
  unfold FS.erasesF
  rw [if_neg (by rw [h.core.nrm.el]; omega), Int.toNat_natCast, h.core.er, hS.er, Int.zero_add]
  by_cases q : nbF (fun i => s.b.getD i 0) i = true ∧ 0 < m ∧ i ≤ (m - 1) / 1024 + 1
  · rw [if_pos q, if_pos ⟨Nat.zero_le _, by rw [hr, if_neg (by omega)]; omega, q.1⟩]
  · rw [if_neg q, if_neg]
    rintro ⟨_, h2, h3⟩
    rw [hr] at h2
    by_cases hm : m = 0
    · rw [if_pos hm] at h2; omega
    · rw [if_neg hm] at h2
      exact q ⟨h3, by omega, by omega⟩

set_option maxRecDepth 100000 in
set_option maxHeartbeats 3200000 in
theorem once4_any (A0 A PA FA : Option Addr) (m0 c0 m cap pm pc fm fc : Nat) (zs0 zs ps : List Int) (fb : List Bool) (W : World) (h0 : Bs W A0 m0 c0 zs0) (h1 : Bs W A m cap zs) (hpl : ps.length = pm) (hp : IsSl W PA pm pc 1 (ps.map (Value.int .i64))) (hfl : fb.length = fm) (hf : IsSl W FA fm fc 1 (fb.map Value.bool)) :
    Calls Try.prog 14 #[.slice A0 m0 c0, .slice A m cap, .slice PA pm pc, .slice FA fm fc] W fun e w' => e = .returned (.bool true) ∧ Below W.heap.size W w' := by
  have l0 := h0.le
  have m9 := h0.max
  have l1 := h1.le
  have m1 := h1.max
  have pl1 := hp.2.1
  have pl2 := hp.2.2.1
  have fl1 := hf.2.1
  have fl2 := hf.2.2.1
  by_cases g1 : 300 < m0
  · have d1 : decide (300 < (m0 : Int)) = true := decide_eq_true (by omega)
    clear h0 h1
    go_enter Try.func14, Try.ntmps14
    go_wp2_with fail
    refine (alive4_any W).mono ?_
    rintro e w1 ⟨rfl, K1⟩
    go_wp2
    go_ret
    exact ⟨rfl, K1.below (fun _ _ h => h)⟩
  have d1 : decide (300 < (m0 : Int)) = false := decide_eq_false (by omega)
  by_cases g2 : 4096 < m
  · have d2 : decide (4096 < (m : Int)) = true := decide_eq_true (by omega)
    clear h0 h1
    go_enter Try.func14, Try.ntmps14
    go_wp2_with fail
    refine (alive4_any W).mono ?_
    rintro e w1 ⟨rfl, K1⟩
    go_wp2
    go_ret
    exact ⟨rfl, K1.below (fun _ _ h => h)⟩
  have d2 : decide (4096 < (m : Int)) = false := decide_eq_false (by omega)
  by_cases g3 : 60 < pm
  · have d3 : decide (60 < (pm : Int)) = true := decide_eq_true (by omega)
    clear h0 h1
    go_enter Try.func14, Try.ntmps14
    go_wp2_with fail
    refine (alive4_any W).mono ?_
    rintro e w1 ⟨rfl, K1⟩
    go_wp2
    go_ret
    exact ⟨rfl, K1.below (fun _ _ h => h)⟩
  have d3 : decide (60 < (pm : Int)) = false := decide_eq_false (by omega)
  by_cases g4 : 60 < fm
  · have d4 : decide (60 < (fm : Int)) = true := decide_eq_true (by omega)
    clear h0 h1
    go_enter Try.func14, Try.ntmps14
    go_wp2_with fail
    refine (alive4_any W).mono ?_
    rintro e w1 ⟨rfl, K1⟩
    go_wp2
    go_ret
    exact ⟨rfl, K1.below (fun _ _ h => h)⟩
  have d4 : decide (60 < (fm : Int)) = false := decide_eq_false (by omega)
  have N2 := Lib.hid num4_any
  have FI := Lib.hid (fun w hk => filled4_any A0 m0 c0 zs0 W w hk h0 (by omega))
  have HB := Lib.hid h1
  have HP := Lib.hid hp
  have HF2 := Lib.hid hf
  have HPL := Lib.hid hpl
  have HFL := Lib.hid hfl
  clear h0 h1 hp hf hpl hfl
  go_enter Try.func14, Try.ntmps14
  go_wp2_with fail
  refine (alive4_any W).mono ?_
  rintro e w1 ⟨rfl, K1⟩
  have HK1 := Lib.hid K1
  clear K1
  go_wp2_with fail
  refine (FI.out _ HK1.out).mono ?_
  rintro e w2 ⟨q, L, s, rfl, hF, hS⟩
  have HF := Lib.hid hF
  have HS := Lib.hid hS
  have hI := start_inv hS.nrm (a := 0) (by decide) okB (fun i => zs.getD i 0) (fun i hi => absurd hi (Nat.not_lt_zero i)) (fun i _ hi => absurd hi (by omega))
  have HI := Lib.hid hI
  have PS := Lib.hid (start_new hS.nrm 0 (by decide))
  have RM := Lib.hid hS.room
  have EL := Lib.hid hS.nrm.el
  have AT : Hid ((k0 s 0).at_ = 0) := rfl
  have hbl := hS.nrm.bl
  have PK : Hid (s.peekF 0 4096 = s.b) := by
    show s.peekF 0 4096 = s.b
    unfold FS.peekF
    rw [hbl, if_pos (by decide)]
    show (s.b.drop 0).take 4096 = _
    rw [List.drop_zero, List.take_of_length_le (by rw [hbl]; decide)]
  have BL := Lib.hid hbl
  generalize k0 s 0 = kk at *
  clear hF FI hI hS hbl
  go_wp2_with fail
  refine (lpeek HF.out 0 4096).mono ?_
  rw [PK.out]
  rintro e w9 ⟨v9, rfl, o9, k9⟩
  obtain ⟨A9, c9, rfl, -⟩ := slice_of_own o9
  have BL9 : s.b.length = 4096 := BL.out
  rw [BL9] at o9 ⊢
  have Q9 := Lib.hid (Lb.new HF.out.at_ o9)
  have H9 := Lib.hid (HF.out.later k9)
  clear o9 k9 HF BL9 PK
  go_wp2_with fail
  refine (lgof H9.out 0 4).mono ?_
  rw [EL.out]
  rintro e w3 ⟨rfl, k3⟩
  rw [ofF_yes (show someB 0 4 ((4 : Nat) : Int) = true from rfl), Int.zero_add]
  have H3 := Lib.hid ((H9.out.later k3).alloc (.cells #[.pointer (some ⟨q, 0, none⟩), .int .i64 0, .int .i64 4] 27))
  have Q3 := Lib.hid (Q9.out.later (k3.alloc (.cells #[.pointer (some ⟨q, 0, none⟩), .int .i64 0, .int .i64 4] 27)))
  clear k3 H9 Q9
  go_wp2_with fail
  refine (lknew (f := 0) (c := 4) H3.out (by rw [EL.out]; decide) ((0 : Nat) : Int)).mono ?_
  rw [PS.out]
  rintro e w4 ⟨cb, rfl, h4, c4, k4⟩
  have H4 := Lib.hid h4
  have Q4 := Lib.hid (Q3.out.toKB k4 c4)
  clear h4 H3 Q3 c4 k4
  go_wp2_with fail
  refine (N2.out _ _).mono ?_
  rintro e w' ⟨rfl, rfl⟩
  go_wp2_with fail
  refine (write4_nrm (N := m) (fun i => byte_getD HB.out.byte i) okB_255 (okB_can (fun i => byte_getD HB.out.byte i)) H4.out HI.out (KB.arg HB.out H4.out) (fun i _ => by rw [AT.out, Nat.zero_add]) (by rw [AT.out, Nat.zero_add]) (by omega) (by decide) HP.out HPL.out (by omega) HF2.out HFL.out (by omega) (fun n i z _ h1 h2 => okB_fl i z h1 h2) 0 (RM.out.less (by omega))).mono ?_
  rintro e w5 ⟨rfl, L5, s5, k5, h5, l5, i5, a5, -⟩
  have H6 := Lib.hid h5
  have Q5 := Lib.hid (Q4.out.link l5)
  have OP := Lib.hid (fun i hi => once_plain HS.out i5 i hi)
  have NB := Lib.hid (fun x (hx : x < 4) => blank_nb HS.out.nrm hx)
  generalize nbF (fun i => s.b.getD i 0) = nb at *
  obtain ⟨b9, o9, rfl, -, -⟩ := Q5.out.bs.at_ (by decide)
  have lc9 := Q5.out.bs.le
  have mc9 := Q5.out.bs.max
  clear h5 l5 i5 a5 H4 Q4 HI
  go_wp2
  go_loop [16] (fun iv => ∃ i : Nat, i ≤ 4 ∧ iv = .int .i64 i) (fun iv => 4 - (intOf iv).toNat)
  case atStart => exact ⟨0, Nat.zero_le _, rfl⟩
  case round =>
    obtain ⟨i, hi, rfl⟩ := hrel
    by_cases hlt : i < 4
    · have hE := OP.out i hlt
      obtain ⟨p, hp⟩ : ∃ x, i * 1024 = x := ⟨_, rfl⟩
      obtain ⟨p2, hp2⟩ : ∃ x, p + 1024 = x := ⟨_, rfl⟩
      have j1 : IntKind.i64.wrap ((i : Int) * 1024) = p := by rw [show (i : Int) * 1024 = (p : Int) by omega]; exact wrap_nat _ (by omega)
      have j2 : IntKind.i64.wrap ((p : Int) + 1024) = p2 := by rw [show (p : Int) + 1024 = (p2 : Int) by omega]; exact wrap_nat _ (by omega)
      have hsub : p2 - p = 1024 := by omega
      have hpp : p2 ≤ 4096 := by omega
      have hcp : ¬ c9 = p := by omega
      have hple : p ≤ p2 := by omega
      have bq := Bs.take (k := 1024) (Q5.out.bs.drop (k := p) (by omega)) (by omega)
      have hq := NB.out i hlt
      rw [Nat.mul_comm 1024 i, hp] at hq
      have IB := Lib.hid (isBlank_any _ _ _ _ w5 bq)
      rw [hq] at IB
      clear hp hp2 bq hq
      go_wp2_with fail
      refine IB.out.mono ?_
      rintro e w' ⟨rfl, rfl⟩
      cases hnb : nb i with
      | false =>
        rw [hnb, if_neg (by simp)] at hE
        simp only [Bool.not_false]
        go_wp2_with fail
        refine (lerases H6.out.lf i).mono ?_
        rintro e w' ⟨rfl, rfl⟩
        rw [hE]
        go_wp2
        go_round
        case rel => exact ⟨i + 1, hlt, by go_num⟩
        case measure => simp [intOf]; omega
      | true =>
        rw [hnb] at hE
        simp only [Bool.not_true]
        by_cases hm : 0 < m
        · have d5 : decide (0 < (m : Int)) = true := decide_eq_true (by omega)
          obtain ⟨qq, hqq⟩ : ∃ x, (m - 1) / 1024 = x := ⟨_, rfl⟩
          have i1 : (((m : Int) - 1) / 1024) = qq := by omega
          have qb : qq ≤ 4096 := by omega
          rw [hqq] at hE
          clear hqq
          by_cases hle : i ≤ qq + 1
          · have d6 : decide ((i : Int) ≤ (qq : Int) + 1) = true := decide_eq_true (by omega)
            rw [if_pos ⟨rfl, hm, hle⟩] at hE
            go_wp2_with fail
            refine (lerases H6.out.lf i).mono ?_
            rintro e w' ⟨rfl, rfl⟩
            rw [hE]
            go_wp2
            go_round
            case rel => exact ⟨i + 1, hlt, by go_num⟩
            case measure => simp [intOf]; omega
          · have d6 : decide ((i : Int) ≤ (qq : Int) + 1) = false := decide_eq_false (by omega)
            rw [if_neg (fun h => hle h.2.2)] at hE
            go_wp2_with fail
            refine (lerases H6.out.lf i).mono ?_
            rintro e w' ⟨rfl, rfl⟩
            rw [hE]
            go_wp2
            go_round
            case rel => exact ⟨i + 1, hlt, by go_num⟩
            case measure => simp [intOf]; omega
        · have d5 : decide (0 < (m : Int)) = false := decide_eq_false (by omega)
          rw [if_neg (fun h => hm h.2.1)] at hE
          go_wp2_with fail
          refine (lerases H6.out.lf i).mono ?_
          rintro e w' ⟨rfl, rfl⟩
          rw [hE]
          go_wp2
          go_round
          case rel => exact ⟨i + 1, hlt, by go_num⟩
          case measure => simp [intOf]; omega
    · obtain rfl : i = 4 := by omega
      go_wp2
      go_ret
      exact ⟨rfl, H6.out.keeps.below (fun _ _ h => h)⟩
set_option maxRecDepth 100000 in
theorem CursorOnce_lifted (os : Os) (started : os.Started) (H : Type) (enc : TypeId × Value → H) :
    ReturnsInHanded {} Try.checked os 14 .any (Rows.cursorOnceSpec.pre6 enc Try.prog Try.f14 Rows.cursorOnceRow.domain false) (Rows.cursorOnceSpec.post enc Try.prog Try.f14 false true false false) := by
  refine returnsInHanded_of_change (C := Try.checked) Try.own started (by kernel_rfl) Try.func14
    (ChangeSpec.witness6 (enc := enc) (C := Try.checked) false ⟨#[], #[.slice none 0 0, .slice none 0 0, .slice none 0 0, .slice none 0 0], []⟩ 8 (by kernel_rfl) (by kernel_rfl) (by kernel_rfl) (by kernel_rfl)) ?_
  intro W base args ds gs before hval0 hW hcnd _
  have hval : ∀ (j : Nat) t v, Try.f14.params[j]? = some t → args[j]? = some v → Value.okWide Try.prog W .any base t v := hval0
  have hW' := hW
  obtain ⟨p, q, hA0, hV, rfl, hfz, hnd⟩ := hW
  have hA : DataW.TrodAll enc Try.prog W 0 (fun _ => true) true Try.f14.params.toList args.toList ds p := hA0
  rw [Try.params14] at hA hval
  obtain ⟨v0, vs0, d0, ds0, p0, q0, hargs, rfl, rfl, h0, r0⟩ := trodAll_cons hA
  obtain ⟨v1, vs1, d1, ds1, p1, q1, rfl, rfl, rfl, h1, r1⟩ := trodAll_cons r0
  obtain ⟨v2, vs2, d2, ds2, p2, q2, rfl, rfl, rfl, h2, r2⟩ := trodAll_cons r1
  obtain ⟨v3, vs3, d3, ds3, p3, q3, rfl, rfl, rfl, h3, r3⟩ := trodAll_cons r2
  obtain ⟨rfl, rfl, rfl⟩ := trodAll_nil r3
  obtain rfl : args = #[v0, v1, v2, v3] := by cases args; simp_all
  obtain ⟨rfl, rfl⟩ := trodVars_none hV
  have k0 := h0
  have lt0 : ∀ x ∈ p0, x.block < W.heap.size := by obtain ⟨m, hm⟩ := k0; exact DataW.trod_lt m _ _ _ hm
  obtain ⟨a0, len0, cap0, rfl⟩ := okWide_slice Try.underlying22 (hval 0 22 v0 rfl rfl)
  obtain ⟨z0, s0⟩ := open_bs h0
  have k1 := h1
  have lt1 : ∀ x ∈ p1, x.block < W.heap.size := by obtain ⟨m, hm⟩ := k1; exact DataW.trod_lt m _ _ _ hm
  obtain ⟨a1, len1, cap1, rfl⟩ := okWide_slice Try.underlying22 (hval 1 22 v1 rfl rfl)
  obtain ⟨z1, s1⟩ := open_bs h1
  have k2 := h2
  have lt2 : ∀ x ∈ p2, x.block < W.heap.size := by obtain ⟨m, hm⟩ := k2; exact DataW.trod_lt m _ _ _ hm
  obtain ⟨a2, len2, cap2, rfl⟩ := okWide_slice Try.underlying49 (hval 2 49 v2 rfl rfl)
  obtain ⟨z2, l2, s2, w2⟩ := open_ints' Try.underlying49 Try.underlying3 (by kernel_rfl) h2
  have k3 := h3
  have lt3 : ∀ x ∈ p3, x.block < W.heap.size := by obtain ⟨m, hm⟩ := k3; exact DataW.trod_lt m _ _ _ hm
  obtain ⟨a3, len3, cap3, rfl⟩ := okWide_slice Try.underlying77 (hval 3 77 v3 rfl rfl)
  obtain ⟨z3, l3, s3⟩ := open_bools' Try.underlying77 Try.underlying4 (by kernel_rfl) h3
  clear hA0 hval0
  refine (once4_any a0 a1 a2 a3 len0 cap0 len1 cap1 len2 cap2 len3 cap3 z0 z1 z2 z3 W s0 s1 l2 s2 l3 s3).mono fun e W' ⟨he, bel⟩ => ?_
  subst he
  exact ⟨_, rfl, _, _, _, [], _, [], hW', trodAll_mk1 (shut_bool Try.underlying4 _), (trodAll_cons_mk (Below.trod Try.laidOut (by kernel_rfl) (of_decide_eq_true (by kernel_rfl)) k0 bel lt0) (trodAll_cons_mk (Below.trod Try.laidOut (by kernel_rfl) (of_decide_eq_true (by kernel_rfl)) k1 bel lt1) (trodAll_cons_mk (Below.trod Try.laidOut (by kernel_rfl) (of_decide_eq_true (by kernel_rfl)) k2 bel lt2) (trodAll_cons_mk (Below.trod Try.laidOut (by kernel_rfl) (of_decide_eq_true (by kernel_rfl)) k3 bel lt3) trodAll_mk0)))), rfl, bel.frame _, fun h => by cases h⟩

set_option maxRecDepth 100000 in
theorem CursorOnce_closed : joinedFacts Try.checked.prog 14 Try.f14 Rows.cursorOnceSpec Rows.cursorOnceRow = true := by
  unfold joinedFacts
  rw [closed_laid, closed_maps, closed_heard, closed_plain, closed_mayEnter, closed_lifts, closed_make]
  kernel_rfl

theorem CursorOnce_holds : Rows.CursorOnceSaid :=
  OpenClaim.holds_of_wide 14 Try.f14 rfl rfl rfl rfl rfl rfl rfl ⟨rfl, rfl, rfl, rfl, rfl⟩ rfl rfl rfl rfl rfl (by kernel_rfl) Try.func14 CursorOnce_closed
    (of_decide_eq_true (by kernel_rfl)) (by unfold Func.isWrapper; first | (rw [if_pos (by decide +kernel)]; kernel_rfl) | (rw [if_neg (by decide +kernel)]; exact ⟨rfl, rfl⟩))
    (fun os started H enc _ => CursorOnce_lifted os started H enc)
#print axioms CursorOnce_holds
end Go.Proofs.Ytngofnlhbhfigaa
