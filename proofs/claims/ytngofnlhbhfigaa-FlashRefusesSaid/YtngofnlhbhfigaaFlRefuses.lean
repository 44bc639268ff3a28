/-
  For every place, number, sector and row of bytes, the law FlashRefuses returns true: what is refused changes nothing and takes no step, and without power all is refused. No condition.
-/
import Derived.Test.YtngofnlhbhfigaaFlLaw
import Derived.Test.YtngofnlhbhfigaaFrame
import Derived.Test.YtngofnlhbhfigaaInit
namespace Go.Proofs.Ytngofnlhbhfigaa
open Go.RowKit Go.ChangeShapes Go.WideShapes Go.ChangeAt

/-- What the law's calls come to. -/
theorem refuse_plain (a n sector : Int) (zs : List Int) (hz : zs.length ≤ 600) : ∃ s1 s2 s3 s4 : FS, ∃ e : Int,
    ((newF 2).spoilF 0 (List.replicate 1024 0)).1 = s1 ∧ s1.progF a zs = (s2, e) ∧ s2.armF 0 [] = s3 ∧ s3.eraseF 0 = (s4, 5) ∧ (s4.readF a n).2 = 5 ∧ s4.progF a zs = (s4, 5) ∧ s4.eraseF sector = (s4, 5) ∧ s4.dark = true ∧ s4.steps = s2.steps + 1 ∧
    (e = 0 ∨ s2 = s1) ∧ s1.steps = 0 ∧ 0 ≤ s2.steps ∧ s2.steps ≤ 600 ∧ s3.steps = s2.steps ∧ (∀ i, 0 ≤ s3.er.getD i 0 ∧ s3.er.getD i 0 ≤ 0) ∧ (∀ i, 0 ≤ s4.er.getD i 0 ∧ s4.er.getD i 0 ≤ 1) := by
  have hs1 : (((newF 2).spoilF 0 (List.replicate 1024 0)).1).er = [0, 0] ∧ (((newF 2).spoilF 0 (List.replicate 1024 0)).1).left = -1 ∧ (((newF 2).spoilF 0 (List.replicate 1024 0)).1).dark = false ∧ (((newF 2).spoilF 0 (List.replicate 1024 0)).1).steps = 0 := by
    unfold FS.spoilF
    split <;> exact ⟨rfl, rfl, rfl, rfl⟩
  generalize ((newF 2).spoilF 0 (List.replicate 1024 0)).1 = s1 at *
  obtain ⟨q1, q2, q3, q4⟩ := hs1
  obtain ⟨h1, h2, h3, h4, h5, h6⟩ := prog_keep s1 a zs (by omega)
  have hr := prog_refused (s := s1) (by omega) a zs
  obtain ⟨⟨s2, e⟩, he⟩ : ∃ r, s1.progF a zs = r := ⟨_, rfl⟩
  rw [he] at h1 h2 h3 h4 h5 h6 hr
  simp only [] at h1 h2 h3 h4 h5 h6 hr
  have ha : s2.armF 0 [] = { s2 with left := 0, pick := [] } := rfl
  have hel : s2.er = [0, 0] := by rw [h1, q1]
  obtain ⟨s4, hs4⟩ : ∃ s4, ({ s2 with left := 0, pick := [] } : FS).eraseF 0 = (s4, 5) ∧ s4.dark = true ∧ s4.steps = s2.steps + 1 ∧ s4.er = [1, 0] := by
    unfold FS.eraseF
    rw [if_neg (by show ¬ s2.dark = true; rw [h4, q3]; decide), if_neg (by show ¬ ((0 : Int) < 0 ∨ (s2.er.length : Int) ≤ 0); rw [hel]; decide), if_pos rfl]
    exact ⟨_, rfl, rfl, rfl, by show s2.er.set 0 (s2.er.getD 0 0 + 1) = _; rw [hel]; rfl⟩
  obtain ⟨w1, w2, w3, w4⟩ := hs4
  refine ⟨s1, s2, _, s4, e, rfl, he, ha, w1, ?_, ?_, ?_, w2, w3, ?_, q4, by omega, by omega, rfl, ?_, ?_⟩
  · unfold FS.readF; rw [if_pos w2]
  · unfold FS.progF; rw [if_pos w2]
  · unfold FS.eraseF; rw [if_pos w2]
  · by_cases h : e = 0
    · exact .inl h
    · exact .inr (hr h)
  · intro i
    show 0 ≤ s2.er.getD i 0 ∧ s2.er.getD i 0 ≤ 0
    rw [hel]
    match i with
    | 0 => decide
    | 1 => decide
    | i + 2 => simp
  · intro i
    rw [w4]
    match i with
    | 0 => decide
    | 1 => decide
    | i + 2 => simp

set_option maxRecDepth 100000 in
set_option maxHeartbeats 1600000 in
theorem refuses_any (a n sector : Int) (A : Option Addr) (m cap : Nat) (zs : List Int) (W : World) (h : Bs W A m cap zs) :
    Calls Try.prog 4 #[.int .i64 a, .int .i64 n, .int .i64 sector, .slice A m cap] W fun e w' => e = .returned (.bool true) ∧ Below W.heap.size W w' := by
  have hle := h.le
  have hmx := h.max
  by_cases g1 : 600 < m
  · have d1 : decide (600 < (m : Int)) = true := decide_eq_true (by omega)
    clear h
    go_enter Try.func4, Try.ntmps4
    go_wp2_with fail
    refine (alive2_any W).mono ?_
    rintro e w1 ⟨rfl, K1⟩
    go_wp2
    go_ret
    exact ⟨rfl, K1.below (fun _ _ h => h)⟩
  have d1 : decide (600 < (m : Int)) = false := decide_eq_false (by omega)
  obtain ⟨s1, s2, s3, s4, er, p1, p2, p3, p4, p5, p6, p7, p8, p9, p10, p11, p12, p13, p14, p15, p16⟩ := refuse_plain a n sector zs (by have := h.len; omega)
  obtain ⟨N, hN⟩ : ∃ N : Nat, N = 1024 := ⟨_, rfl⟩
  have hmk := fun w => run_make_blk (P := Try.prog) 22 5 (.int .u8 0) 1 Try.underlying22 Try.info5 rfl .i64 .i64 1024 1024 N (by omega) (by omega) (by omega) (by omega) w
  have ZB := Lib.hid (fun w => madeBs w N (by omega))
  rw [← hN] at p1
  generalize List.replicate N (0 : Int) = z0 at p1 ZB
  generalize hf0 : newF 2 = f0 at *
  have NW := Lib.hid (fun w (hk : Keeps None W w) => lnew hk 2)
  rw [hf0] at NW
  have P1 := Lib.hid p1
  have P2 := Lib.hid p2
  have P3 := Lib.hid p3
  have P4 := Lib.hid p4
  have P5 := Lib.hid p5
  have P6 := Lib.hid p6
  have P7 := Lib.hid p7
  have P8 := Lib.hid p8
  have P9 := Lib.hid p9
  have P10 := Lib.hid p10
  have P11 := Lib.hid p11
  have P14 := Lib.hid p14
  have P15 := Lib.hid p15
  have P16 := Lib.hid p16
  have HB := Lib.hid h
  have HN := Lib.hid hN
  clear p1 p2 p3 p4 p5 p6 p7 p8 p9 p10 p11 p14 p15 p16 hf0 h hN
  have N2 := Lib.hid num2_any
  go_enter Try.func4, Try.ntmps4
  go_wp2_with fail
  refine (alive2_any W).mono ?_
  rintro e w1 ⟨rfl, K1⟩
  have HK1 := Lib.hid K1
  clear K1
  go_wp2_with fail
  refine (NW.out _ HK1.out).mono ?_
  rintro e w2 ⟨q, L, rfl, hF⟩
  have HF := Lib.hid hF
  have LE2 := Lib.hid hF.le
  clear hF NW
  go_wp2_with fail
  refine (lspoil (HF.out.alloc _) (ownBs (ZB.out w2)) 0).mono ?_
  rintro e w3 ⟨rfl, L3, h3, -⟩
  rw [P1.out] at h3
  have H3 := Lib.hid h3
  generalize (f0.spoilF 0 z0).2 = e3
  clear h3 HF ZB P1 hmk
  go_wp2_with fail
  refine (lpeek H3.out 0 2048).mono ?_
  rintro e w4 ⟨v4, rfl, o4, k4⟩
  obtain ⟨A4, c4, rfl, -⟩ := slice_of_own o4
  have Q4 := Lib.hid (Lb.new H3.out.at_ o4)
  have H4 := Lib.hid (H3.out.later k4)
  obtain ⟨x4, hx4⟩ : ∃ x, s1.peekF 0 2048 = x := ⟨_, rfl⟩
  have X4 := Lib.hid hx4
  rw [hx4] at Q4 ⊢
  clear o4 k4 H3 hx4
  go_wp2_with fail
  refine (lprogram H4.out (Lb.arg HB.out H4.out.keeps H4.out.at_ H4.out.le) a (by rw [P11.out]; omega)).mono ?_
  rintro e w5 ⟨rfl, L5, h5, t5⟩
  rw [P2.out] at h5 t5 ⊢
  have H5 := Lib.hid h5
  have Q5 := Lib.hid (Q4.out.turn t5)
  simp only [] at H5 Q5
  clear h5 t5 H4 Q4
  go_wp2_with fail
  refine (lpeek H5.out 0 2048).mono ?_
  rintro e w6 ⟨v6, rfl, o6, k6⟩
  obtain ⟨A6, c6, rfl, -⟩ := slice_of_own o6
  have R6 := Lib.hid (Lb.new H5.out.at_ o6)
  have H6 := Lib.hid (H5.out.later k6)
  have Q6 := Lib.hid (Q5.out.later k6)
  obtain ⟨x6, hx6⟩ : ∃ x, s2.peekF 0 2048 = x := ⟨_, rfl⟩
  have X6 := Lib.hid hx6
  rw [hx6] at R6 ⊢
  clear o6 k6 H5 Q5 hx6
  go_wp2_with fail
  refine (lsteps H6.out).mono ?_
  rintro e w' ⟨rfl, rfl⟩
  go_wp2_with fail
  refine (larm H6.out (bsNil _) (by decide) 0 (by decide)).mono ?_
  rintro e w7 ⟨rfl, L7, h7, t7⟩
  rw [P3.out] at h7 t7
  have H7 := Lib.hid h7
  have Q7 := Lib.hid (Q6.out.turn t7)
  have R7 := Lib.hid (R6.out.turn t7)
  clear h7 t7 H6 Q6 R6
  go_wp2_with fail
  refine (lerase H7.out 0 (by rw [P14.out]; omega) (fun i => ⟨(P15.out i).1, by have := (P15.out i).2; omega⟩)).mono ?_
  rintro e w8 ⟨rfl, L8, h8, t8⟩
  rw [P4.out] at h8 t8 ⊢
  have H8 := Lib.hid h8
  have Q8 := Lib.hid (Q7.out.turn t8)
  have R8 := Lib.hid (R7.out.turn t8)
  simp only [] at H8 Q8 R8
  clear h8 t8 H7 Q7 R7
  go_wp2_with fail
  refine (lread H8.out a n).mono ?_
  rintro e w9 ⟨v9, rfl, o9, k9⟩
  rw [P5.out]
  obtain ⟨A9, c9, rfl, -⟩ := slice_of_own o9
  have H9 := Lib.hid (H8.out.later k9)
  have Q9 := Lib.hid (Q8.out.later k9)
  have R9 := Lib.hid (R8.out.later k9)
  clear o9 k9 H8 Q8 R8
  go_wp2_with fail
  refine (lprogram H9.out (Lb.arg HB.out H9.out.keeps H9.out.at_ H9.out.le) a (by rw [P9.out]; omega)).mono ?_
  rintro e w10 ⟨rfl, L10, h10, t10⟩
  rw [P6.out] at h10 t10 ⊢
  have H10 := Lib.hid h10
  have Q10 := Lib.hid (Q9.out.turn t10)
  have R10 := Lib.hid (R9.out.turn t10)
  simp only [] at H10 Q10 R10
  clear h10 t10 H9 Q9 R9
  go_wp2_with fail
  refine (lerase H10.out sector (by rw [P9.out]; omega) (fun i => ⟨(P16.out i).1, by have := (P16.out i).2; omega⟩)).mono ?_
  rintro e w11 ⟨rfl, L11, h11, t11⟩
  rw [P7.out] at h11 t11 ⊢
  have H11 := Lib.hid h11
  have Q11 := Lib.hid (Q10.out.turn t11)
  have R11 := Lib.hid (R10.out.turn t11)
  simp only [] at H11 Q11 R11
  clear h11 t11 H10 Q10 R10
  by_cases he : er = 0
  · subst he
    go_wp2_with fail
    refine (N2.out _ _).mono ?_
    rintro e w' ⟨rfl, rfl⟩
    go_wp2_with fail
    refine (N2.out _ _).mono ?_
    rintro e w' ⟨rfl, rfl⟩
    go_wp2_with fail
    refine (N2.out _ _).mono ?_
    rintro e w' ⟨rfl, rfl⟩
    go_wp2_with fail
    refine (N2.out _ _).mono ?_
    rintro e w' ⟨rfl, rfl⟩
    go_wp2_with fail
    refine (loff H11.out).mono ?_
    rintro e w' ⟨rfl, rfl⟩
    rw [P8.out]
    go_wp2_with fail
    refine (lsteps H11.out).mono ?_
    rintro e w' ⟨rfl, rfl⟩
    rw [P9.out]
    go_wp2
    go_ret
    exact ⟨by first | rfl | simp, H11.out.keeps.below (fun _ _ h => h)⟩
  · have e1 : (er == 0) = false := by simp [he]
    have ES : Hid (s2 = s1) := by rcases P10.out with h | h; exact absurd h he; exact h
    have E64 : Hid (x6 = x4) := by show x6 = x4; rw [← X6.out, ← X4.out, ES.out]
    have S0 : Hid (s2.steps = 0) := by show s2.steps = 0; rw [ES.out]; exact P11
    obtain ⟨sm, hsm⟩ : ∃ sm, strOf x4 = sm := ⟨_, rfl⟩
    have sq : (sm.toList == sm.toList) = true := by simp
    have s1' := run_str Q11.out.bs
    have s2' := run_str R11.out.bs
    rw [hsm] at s1'
    rw [E64.out, hsm] at s2'
    rw [E64.out]
    clear hsm he
    have S0' := S0.out
    go_wp2_with fail
    refine (N2.out _ _).mono ?_
    rintro e w' ⟨rfl, rfl⟩
    go_wp2_with fail
    refine (N2.out _ _).mono ?_
    rintro e w' ⟨rfl, rfl⟩
    go_wp2_with fail
    refine (N2.out _ _).mono ?_
    rintro e w' ⟨rfl, rfl⟩
    go_wp2_with fail
    refine (N2.out _ _).mono ?_
    rintro e w' ⟨rfl, rfl⟩
    go_wp2_with fail
    refine (loff H11.out).mono ?_
    rintro e w' ⟨rfl, rfl⟩
    rw [P8.out]
    go_wp2_with fail
    refine (lsteps H11.out).mono ?_
    rintro e w' ⟨rfl, rfl⟩
    rw [P9.out]
    go_wp2
    go_ret
    exact ⟨by first | rfl | simp, H11.out.keeps.below (fun _ _ h => h)⟩
set_option maxRecDepth 100000 in
theorem FlashRefuses_lifted (os : Os) (started : os.Started) (H : Type) (enc : TypeId × Value → H) :
    ReturnsInHanded {} Try.checked os 4 .any (Rows.flashRefusesSpec.pre6 enc Try.prog Try.f4 Rows.flashRefusesRow.domain false) (Rows.flashRefusesSpec.post enc Try.prog Try.f4 false true false false) := by
  refine returnsInHanded_of_change (C := Try.checked) Try.own started (by kernel_rfl) Try.func4
    (ChangeSpec.witness6 (enc := enc) (C := Try.checked) false ⟨#[], #[.int .i64 0, .int .i64 0, .int .i64 0, .slice none 0 0], []⟩ 8 (by kernel_rfl) (by kernel_rfl) (by kernel_rfl) (by kernel_rfl)) ?_
  intro W base args ds gs before hval0 hW hcnd _
  have hval : ∀ (j : Nat) t v, Try.f4.params[j]? = some t → args[j]? = some v → Value.okWide Try.prog W .any base t v := hval0
  have hW' := hW
  obtain ⟨p, q, hA0, hV, rfl, hfz, hnd⟩ := hW
  have hA : DataW.TrodAll enc Try.prog W 0 (fun _ => true) true Try.f4.params.toList args.toList ds p := hA0
  rw [Try.params4] at hA hval
  obtain ⟨v0, vs0, d0, ds0, p0, q0, hargs, rfl, rfl, h0, r0⟩ := trodAll_cons hA
  obtain ⟨v1, vs1, d1, ds1, p1, q1, rfl, rfl, rfl, h1, r1⟩ := trodAll_cons r0
  obtain ⟨v2, vs2, d2, ds2, p2, q2, rfl, rfl, rfl, h2, r2⟩ := trodAll_cons r1
  obtain ⟨v3, vs3, d3, ds3, p3, q3, rfl, rfl, rfl, h3, r3⟩ := trodAll_cons r2
  obtain ⟨rfl, rfl, rfl⟩ := trodAll_nil r3
  obtain rfl : args = #[v0, v1, v2, v3] := by cases args; simp_all
  obtain ⟨rfl, rfl⟩ := trodVars_none hV
  have k0 := h0
  have lt0 : ∀ x ∈ p0, x.block < W.heap.size := by obtain ⟨m, hm⟩ := k0; exact DataW.trod_lt m _ _ _ hm
  obtain ⟨a0, rfl, rfl, rfl, w0⟩ := open_int Try.underlying3 (hval 0 3 v0 rfl rfl) h0
  have k1 := h1
  have lt1 : ∀ x ∈ p1, x.block < W.heap.size := by obtain ⟨m, hm⟩ := k1; exact DataW.trod_lt m _ _ _ hm
  obtain ⟨a1, rfl, rfl, rfl, w1⟩ := open_int Try.underlying3 (hval 1 3 v1 rfl rfl) h1
  have k2 := h2
  have lt2 : ∀ x ∈ p2, x.block < W.heap.size := by obtain ⟨m, hm⟩ := k2; exact DataW.trod_lt m _ _ _ hm
  obtain ⟨a2, rfl, rfl, rfl, w2⟩ := open_int Try.underlying3 (hval 2 3 v2 rfl rfl) h2
  have k3 := h3
  have lt3 : ∀ x ∈ p3, x.block < W.heap.size := by obtain ⟨m, hm⟩ := k3; exact DataW.trod_lt m _ _ _ hm
  obtain ⟨a3, len3, cap3, rfl⟩ := okWide_slice Try.underlying22 (hval 3 22 v3 rfl rfl)
  obtain ⟨z3, s3⟩ := open_bs h3
  clear hA0 hval0
  refine (refuses_any a0 a1 a2 a3 len3 cap3 z3 W s3).mono fun e W' ⟨he, bel⟩ => ?_
  subst he
  exact ⟨_, rfl, _, _, _, [], _, [], hW', trodAll_mk1 (shut_bool Try.underlying4 _), (trodAll_cons_mk (Below.trod Try.laidOut (by kernel_rfl) (of_decide_eq_true (by kernel_rfl)) k0 bel lt0) (trodAll_cons_mk (Below.trod Try.laidOut (by kernel_rfl) (of_decide_eq_true (by kernel_rfl)) k1 bel lt1) (trodAll_cons_mk (Below.trod Try.laidOut (by kernel_rfl) (of_decide_eq_true (by kernel_rfl)) k2 bel lt2) (trodAll_cons_mk (Below.trod Try.laidOut (by kernel_rfl) (of_decide_eq_true (by kernel_rfl)) k3 bel lt3) trodAll_mk0)))), rfl, bel.frame _, fun h => by cases h⟩

set_option maxRecDepth 100000 in
theorem FlashRefuses_closed : joinedFacts Try.checked.prog 4 Try.f4 Rows.flashRefusesSpec Rows.flashRefusesRow = true := by
  unfold joinedFacts
  rw [closed_laid, closed_maps, closed_heard, closed_plain, closed_mayEnter, closed_lifts, closed_make]
  kernel_rfl

theorem FlashRefuses_holds : Rows.FlashRefusesSaid :=
  OpenClaim.holds_of_wide 4 Try.f4 rfl rfl rfl rfl rfl rfl rfl ⟨rfl, rfl, rfl, rfl, rfl⟩ rfl rfl rfl rfl rfl (by kernel_rfl) Try.func4 FlashRefuses_closed
    (of_decide_eq_true (by kernel_rfl)) (by unfold Func.isWrapper; first | (rw [if_pos (by decide +kernel)]; kernel_rfl) | (rw [if_neg (by decide +kernel)]; exact ⟨rfl, rfl⟩))
    (fun os started H enc _ => FlashRefuses_lifted os started H enc)
#print axioms FlashRefuses_holds
end Go.Proofs.Ytngofnlhbhfigaa
