/-
  For every place and row of bytes, the law CursorFull returns true: bytes for which there is no room are refused, all of them. No condition.
-/
import Derived.Test.YtngofnlhbhfigaaKcAlive
import Derived.Test.YtngofnlhbhfigaaFrame
import Derived.Test.YtngofnlhbhfigaaInit
namespace Go.Proofs.Ytngofnlhbhfigaa
open Go.RowKit Go.ChangeShapes Go.WideShapes Go.ChangeAt

section
set_option maxRecDepth 100000
theorem kwrite_nil (A : Option Addr) (m cap : Nat) (w : World) : Calls Try.prog 52 #[.pointer none, .slice A m cap] w (Same (.int .i64 1) w) := by
  go_enter Try.func52, Try.ntmps52
  go_wp2
  go_ret
  exact ⟨rfl, rfl⟩
theorem kflush_nil (w : World) : Calls Try.prog 53 #[.pointer none] w (Same (.int .i64 1) w) := by
  go_enter Try.func53, Try.ntmps53
  go_wp2
  go_ret
  exact ⟨rfl, rfl⟩
theorem kat_nil (w : World) : Calls Try.prog 55 #[.pointer none] w (Same (.int .i64 0) w) := by
  go_enter Try.func55, Try.ntmps55
  go_wp2
  go_ret
  exact ⟨rfl, rfl⟩
theorem kheld_nil (w : World) : Calls Try.prog 56 #[.pointer none] w (Same (.slice none 0 0) w) := by
  go_enter Try.func56, Try.ntmps56
  go_wp2
  go_ret
  exact ⟨rfl, rfl⟩
end
/-- What stands from a on. -/
def fromD (a : Nat) (zs : List Int) (i : Nat) : Int := if i < a then 255 else zs.getD (i - a) 0
theorem fromD_byte {a : Nat} {zs : List Int} (hz : ∀ z ∈ zs, 0 ≤ z ∧ z ≤ 255) (i : Nat) : 0 ≤ fromD a zs i ∧ fromD a zs i ≤ 255 := by
  unfold fromD
  split
  · exact ⟨by decide, by decide⟩
  · exact byte_getD hz _
theorem full_plain (a : Nat) (ha : a ≤ 3072) (zs : List Int) (hz : ∀ z ∈ zs, 0 ≤ z ∧ z ≤ 255) (h : zs.length ≤ 3072 - a) :
    ∃ s1 k1, writeK 0 3 (newF (3 : Nat)) (k0 (newF (3 : Nat)) a) zs = (s1, k1, 0) ∧ k1.at_ = a + zs.length ∧ (k1.word.take k1.n).length = (a + zs.length) % 8 := by
  have hN := newF_nrm 3 (by decide) (by decide)
  have hI := start_inv hN (a := a) ha okB (fromD a zs) (fun i hi => by rw [newF_b 3 (by decide) (by decide) i (by omega)]; unfold fromD; rw [if_pos hi]) (fun i _ hi => newF_b 3 (by decide) (by decide) i (by omega))
  obtain ⟨s1, k1, u1, w1, w2, w3⟩ := write_inv (N := a + zs.length) (zs := zs) (fromD_byte hz) okB_255 (okB_can (fromD_byte hz)) hI (Nat.le_refl _) (by omega) (fun i _ => by
    show zs.getD i 0 = fromD a zs (a + i)
    unfold fromD
    rw [if_neg (by omega)]; congr 1; omega)
  have w3' : k1.at_ = a + zs.length := w3
  exact ⟨s1, k1, w1, w3', by rw [w2.held, List.length_map, List.length_range, w2.n, w3']⟩
theorem full_refused (a : Nat) (zs : List Int) (h : 3072 - a < zs.length) : writeK 0 3 (newF (3 : Nat)) (k0 (newF (3 : Nat)) a) zs = (newF (3 : Nat), k0 (newF (3 : Nat)) a, 2) := by
  unfold writeK
  rw [if_neg (by show ¬ (0 : Int) ≠ 0; decide), if_pos (show 1024 * 3 - (k0 (newF (3 : Nat)) a).at_ < zs.length from h)]

set_option maxRecDepth 100000 in
set_option maxHeartbeats 3200000 in
theorem full4_any (a : Int) (A : Option Addr) (m cap : Nat) (zs : List Int) (W : World) (h : Bs W A m cap zs) :
    Calls Try.prog 11 #[.int .i64 a, .slice A m cap] W fun e w' => e = .returned (.bool true) ∧ Below W.heap.size W w' := by
  have hle := h.le
  have hmx := h.max
  by_cases g1 : 4096 < m
  · have d1 : decide (4096 < (m : Int)) = true := decide_eq_true (by omega)
    clear h
    go_enter Try.func11, Try.ntmps11
    go_wp2_with fail
    refine (alive4_any W).mono ?_
    rintro e w1 ⟨rfl, K1⟩
    go_wp2
    go_ret
    exact ⟨rfl, K1.below (fun _ _ h => h)⟩
  have d1 : decide (4096 < (m : Int)) = false := decide_eq_false (by omega)
  have N2 := Lib.hid num4_any
  have EL : Hid ((newF (3 : Nat)).er.length = 3) := (newF_nrm 3 (by decide) (by decide)).el
  have NW := Lib.hid (fun w (hk : Keeps None W w) => lnew hk ((3 : Nat) : Int))
  have HB := Lib.hid h
  by_cases g2 : a < 0
  · have d2 : decide (a < 0) = true := decide_eq_true g2
    have PS : Hid (newK 0 3 (newF (3 : Nat)) a = (none, 1)) := if_pos (.inl g2)
    generalize newF ((3 : Nat) : Int) = f0 at *
    clear h
    go_enter Try.func11, Try.ntmps11
    go_wp2_with fail
    refine (alive4_any W).mono ?_
    rintro e w1 ⟨rfl, K1⟩
    have HK1 := Lib.hid K1
    clear K1
    go_wp2_with fail
    refine (NW.out _ HK1.out).mono ?_
    rintro e w2 ⟨q, L, rfl, hF⟩
    have HF := Lib.hid hF
    clear hF NW
    go_wp2_with fail
    refine (lgof HF.out 0 3).mono ?_
    rw [EL.out]
    rintro e w3 ⟨rfl, k3⟩
    rw [ofF_yes (show someB 0 3 ((3 : Nat) : Int) = true from rfl), Int.zero_add]
    have H3 := Lib.hid ((HF.out.later k3).alloc (.cells #[.pointer (some ⟨q, 0, none⟩), .int .i64 0, .int .i64 3] 27))
    clear k3 HF
    go_wp2_with fail
    refine (lknew (f := 0) (c := 3) H3.out (by rw [EL.out]; decide) a).mono ?_
    rw [PS.out]
    rintro e w4 ⟨rfl, k4⟩
    have K4 := Lib.hid (H3.out.keeps.trans k4 (T := None) (fun _ h => h) (fun _ _ h => h))
    clear k4 H3
    go_wp2_with fail
    refine (kwrite_nil _ _ _ _).mono ?_
    rintro e w' ⟨rfl, rfl⟩
    go_wp2_with fail
    refine (kflush_nil _).mono ?_
    rintro e w' ⟨rfl, rfl⟩
    go_wp2_with fail
    refine (N2.out _ _).mono ?_
    rintro e w' ⟨rfl, rfl⟩
    go_wp2_with fail
    refine (N2.out _ _).mono ?_
    rintro e w' ⟨rfl, rfl⟩
    go_wp2_with fail
    refine (kat_nil _).mono ?_
    rintro e w' ⟨rfl, rfl⟩
    go_wp2_with fail
    refine (kheld_nil _).mono ?_
    rintro e w' ⟨rfl, rfl⟩
    go_wp2_with fail
    refine (N2.out _ _).mono ?_
    rintro e w' ⟨rfl, rfl⟩
    go_wp2
    go_ret
    exact ⟨by first | rfl | simp, K4.out.below (fun _ _ h => h)⟩
  have d2 : decide (a < 0) = false := decide_eq_false g2
  by_cases g3 : 3072 < a
  · have d3 : decide (3072 < a) = true := decide_eq_true g3
    have PS : Hid (newK 0 3 (newF (3 : Nat)) a = (none, 1)) := if_pos (.inr g3)
    generalize newF ((3 : Nat) : Int) = f0 at *
    clear h
    go_enter Try.func11, Try.ntmps11
    go_wp2_with fail
    refine (alive4_any W).mono ?_
    rintro e w1 ⟨rfl, K1⟩
    have HK1 := Lib.hid K1
    clear K1
    go_wp2_with fail
    refine (NW.out _ HK1.out).mono ?_
    rintro e w2 ⟨q, L, rfl, hF⟩
    have HF := Lib.hid hF
    clear hF NW
    go_wp2_with fail
    refine (lgof HF.out 0 3).mono ?_
    rw [EL.out]
    rintro e w3 ⟨rfl, k3⟩
    rw [ofF_yes (show someB 0 3 ((3 : Nat) : Int) = true from rfl), Int.zero_add]
    have H3 := Lib.hid ((HF.out.later k3).alloc (.cells #[.pointer (some ⟨q, 0, none⟩), .int .i64 0, .int .i64 3] 27))
    clear k3 HF
    go_wp2_with fail
    refine (lknew (f := 0) (c := 3) H3.out (by rw [EL.out]; decide) a).mono ?_
    rw [PS.out]
    rintro e w4 ⟨rfl, k4⟩
    have K4 := Lib.hid (H3.out.keeps.trans k4 (T := None) (fun _ h => h) (fun _ _ h => h))
    clear k4 H3
    go_wp2_with fail
    refine (kwrite_nil _ _ _ _).mono ?_
    rintro e w' ⟨rfl, rfl⟩
    go_wp2_with fail
    refine (kflush_nil _).mono ?_
    rintro e w' ⟨rfl, rfl⟩
    go_wp2_with fail
    refine (N2.out _ _).mono ?_
    rintro e w' ⟨rfl, rfl⟩
    go_wp2_with fail
    refine (N2.out _ _).mono ?_
    rintro e w' ⟨rfl, rfl⟩
    go_wp2_with fail
    refine (kat_nil _).mono ?_
    rintro e w' ⟨rfl, rfl⟩
    go_wp2_with fail
    refine (kheld_nil _).mono ?_
    rintro e w' ⟨rfl, rfl⟩
    go_wp2_with fail
    refine (N2.out _ _).mono ?_
    rintro e w' ⟨rfl, rfl⟩
    go_wp2
    go_ret
    exact ⟨by first | rfl | simp, K4.out.below (fun _ _ h => h)⟩
  have d3 : decide (3072 < a) = false := decide_eq_false g3
  obtain ⟨a, rfl⟩ : ∃ x : Nat, a = x := ⟨a.toNat, by omega⟩
  have PS := Lib.hid (start_new (newF_nrm 3 (by decide) (by decide)) a (by omega))
  have RM : Hid (Room (newF (3 : Nat)) (m * 264)) := (newF_room 3 (by decide) (by decide)).less (by omega)
  have EK : Hid ((k0 (newF (3 : Nat)) a).n = a % 8) := rfl
  have ST : Hid ((newF (3 : Nat)).steps = 0) := rfl
  have AT : Hid ((k0 (newF (3 : Nat)) a).at_ = a) := rfl
  by_cases g4 : 3072 - a < m
  · have d4 : decide (3072 - (a : Int) < (m : Int)) = true := decide_eq_true (by omega)
    have PW := Lib.hid (full_refused a zs (by rw [h.len]; exact g4))
    generalize k0 (newF (3 : Nat)) a = kk at *
    generalize newF ((3 : Nat) : Int) = f0 at *
    clear h
    go_enter Try.func11, Try.ntmps11
    go_wp2_with fail
    refine (alive4_any W).mono ?_
    rintro e w1 ⟨rfl, K1⟩
    have HK1 := Lib.hid K1
    clear K1
    go_wp2_with fail
    refine (NW.out _ HK1.out).mono ?_
    rintro e w2 ⟨q, L, rfl, hF⟩
    have HF := Lib.hid hF
    clear hF NW
    go_wp2_with fail
    refine (lgof HF.out 0 3).mono ?_
    rw [EL.out]
    rintro e w3 ⟨rfl, k3⟩
    rw [ofF_yes (show someB 0 3 ((3 : Nat) : Int) = true from rfl), Int.zero_add]
    have H3 := Lib.hid ((HF.out.later k3).alloc (.cells #[.pointer (some ⟨q, 0, none⟩), .int .i64 0, .int .i64 3] 27))
    clear k3 HF
    go_wp2_with fail
    refine (lknew (f := 0) (c := 3) H3.out (by rw [EL.out]; decide) a).mono ?_
    rw [PS.out]
    rintro e w4 ⟨cb, rfl, h4, -, -⟩
    have H4 := Lib.hid h4
    clear h4 H3
    go_wp2_with fail
    refine (kwrite_nil _ _ _ _).mono ?_
    rintro e w' ⟨rfl, rfl⟩
    go_wp2_with fail
    refine (kflush_nil _).mono ?_
    rintro e w' ⟨rfl, rfl⟩
    go_wp2_with fail
    refine (N2.out _ _).mono ?_
    rintro e w' ⟨rfl, rfl⟩
    go_wp2_with fail
    refine (N2.out _ _).mono ?_
    rintro e w' ⟨rfl, rfl⟩
    go_wp2_with fail
    refine (kat_nil _).mono ?_
    rintro e w' ⟨rfl, rfl⟩
    go_wp2_with fail
    refine (kheld_nil _).mono ?_
    rintro e w' ⟨rfl, rfl⟩
    go_wp2_with fail
    refine (N2.out _ _).mono ?_
    rintro e w' ⟨rfl, rfl⟩
    go_wp2_with fail
    refine (lkwrite H4.out (fun _ => by rw [EK.out]; exact Nat.mod_lt _ (by decide)) (KB.arg HB.out H4.out) RM.out).mono ?_
    rw [PW.out]
    rintro e w5 ⟨rfl, L5, h5, -⟩
    have H5 := Lib.hid h5
    simp only [] at H5
    clear h5 H4
    go_wp2_with fail
    refine (N2.out _ _).mono ?_
    rintro e w' ⟨rfl, rfl⟩
    go_wp2_with fail
    refine (lkat H5.out).mono ?_
    rintro e w' ⟨rfl, rfl⟩
    rw [AT.out]
    go_wp2_with fail
    refine (lsteps H5.out.lf).mono ?_
    rintro e w' ⟨rfl, rfl⟩
    rw [ST.out]
    go_wp2
    go_ret
    exact ⟨by first | rfl | simp, H5.out.keeps.below (fun _ _ h => h)⟩
  · have d4 : decide (3072 - (a : Int) < (m : Int)) = false := decide_eq_false (by omega)
    obtain ⟨s1, k1, q1, q2, q3⟩ := full_plain a (by omega) zs h.byte (by rw [h.len]; omega)
    rw [h.len] at q2 q3
    have PW := Lib.hid q1
    have Q2 := Lib.hid q2
    have Q3 := Lib.hid q3
    obtain ⟨sm, hsm⟩ : ∃ x, a + m = x := ⟨_, rfl⟩
    obtain ⟨rm, hrm⟩ : ∃ x, sm % 8 = x := ⟨_, rfl⟩
    have j1 : IntKind.i64.wrap ((a : Int) + m) = sm := by rw [show (a : Int) + m = (sm : Int) by omega]; exact wrap_nat _ (by omega)
    have j2 : ((sm : Int) % 8) = rm := by omega
    rw [hsm] at Q2 Q3
    rw [hrm] at Q3
    clear q1 q2 q3 hsm hrm h
    generalize k0 (newF (3 : Nat)) a = kk at *
    generalize newF ((3 : Nat) : Int) = f0 at *
    go_enter Try.func11, Try.ntmps11
    go_wp2_with fail
    refine (alive4_any W).mono ?_
    rintro e w1 ⟨rfl, K1⟩
    have HK1 := Lib.hid K1
    clear K1
    go_wp2_with fail
    refine (NW.out _ HK1.out).mono ?_
    rintro e w2 ⟨q, L, rfl, hF⟩
    have HF := Lib.hid hF
    clear hF NW
    go_wp2_with fail
    refine (lgof HF.out 0 3).mono ?_
    rw [EL.out]
    rintro e w3 ⟨rfl, k3⟩
    rw [ofF_yes (show someB 0 3 ((3 : Nat) : Int) = true from rfl), Int.zero_add]
    have H3 := Lib.hid ((HF.out.later k3).alloc (.cells #[.pointer (some ⟨q, 0, none⟩), .int .i64 0, .int .i64 3] 27))
    clear k3 HF
    go_wp2_with fail
    refine (lknew (f := 0) (c := 3) H3.out (by rw [EL.out]; decide) a).mono ?_
    rw [PS.out]
    rintro e w4 ⟨cb, rfl, h4, -, -⟩
    have H4 := Lib.hid h4
    clear h4 H3
    go_wp2_with fail
    refine (kwrite_nil _ _ _ _).mono ?_
    rintro e w' ⟨rfl, rfl⟩
    go_wp2_with fail
    refine (kflush_nil _).mono ?_
    rintro e w' ⟨rfl, rfl⟩
    go_wp2_with fail
    refine (N2.out _ _).mono ?_
    rintro e w' ⟨rfl, rfl⟩
    go_wp2_with fail
    refine (N2.out _ _).mono ?_
    rintro e w' ⟨rfl, rfl⟩
    go_wp2_with fail
    refine (kat_nil _).mono ?_
    rintro e w' ⟨rfl, rfl⟩
    go_wp2_with fail
    refine (kheld_nil _).mono ?_
    rintro e w' ⟨rfl, rfl⟩
    go_wp2_with fail
    refine (N2.out _ _).mono ?_
    rintro e w' ⟨rfl, rfl⟩
    go_wp2_with fail
    refine (lkwrite H4.out (fun _ => by rw [EK.out]; exact Nat.mod_lt _ (by decide)) (KB.arg HB.out H4.out) RM.out).mono ?_
    rw [PW.out]
    rintro e w5 ⟨rfl, L5, h5, -⟩
    have H5 := Lib.hid h5
    simp only [] at H5
    clear h5 H4
    go_wp2_with fail
    refine (N2.out _ _).mono ?_
    rintro e w' ⟨rfl, rfl⟩
    go_wp2_with fail
    refine (lkat H5.out).mono ?_
    rintro e w' ⟨rfl, rfl⟩
    rw [Q2.out]
    go_wp2_with fail
    refine (lkheld H5.out).mono ?_
    rintro e w6 ⟨v6, rfl, o6, k6⟩
    obtain ⟨A6, c6, rfl, -⟩ := slice_of_own o6
    rw [Q3.out]
    have H6 := Lib.hid (H5.out.later k6)
    clear o6 k6 H5
    go_wp2
    go_ret
    exact ⟨by first | rfl | simp, H6.out.keeps.below (fun _ _ h => h)⟩
set_option maxRecDepth 100000 in
theorem CursorFull_lifted (os : Os) (started : os.Started) (H : Type) (enc : TypeId × Value → H) :
    ReturnsInHanded {} Try.checked os 11 .any (Rows.cursorFullSpec.pre6 enc Try.prog Try.f11 Rows.cursorFullRow.domain false) (Rows.cursorFullSpec.post enc Try.prog Try.f11 false true false false) := by
  refine returnsInHanded_of_change (C := Try.checked) Try.own started (by kernel_rfl) Try.func11
    (ChangeSpec.witness6 (enc := enc) (C := Try.checked) false ⟨#[], #[.int .i64 0, .slice none 0 0], []⟩ 8 (by kernel_rfl) (by kernel_rfl) (by kernel_rfl) (by kernel_rfl)) ?_
  intro W base args ds gs before hval0 hW hcnd _
  have hval : ∀ (j : Nat) t v, Try.f11.params[j]? = some t → args[j]? = some v → Value.okWide Try.prog W .any base t v := hval0
  have hW' := hW
  obtain ⟨p, q, hA0, hV, rfl, hfz, hnd⟩ := hW
  have hA : DataW.TrodAll enc Try.prog W 0 (fun _ => true) true Try.f11.params.toList args.toList ds p := hA0
  rw [Try.params11] at hA hval
  obtain ⟨v0, vs0, d0, ds0, p0, q0, hargs, rfl, rfl, h0, r0⟩ := trodAll_cons hA
  obtain ⟨v1, vs1, d1, ds1, p1, q1, rfl, rfl, rfl, h1, r1⟩ := trodAll_cons r0
  obtain ⟨rfl, rfl, rfl⟩ := trodAll_nil r1
  obtain rfl : args = #[v0, v1] := by cases args; simp_all
  obtain ⟨rfl, rfl⟩ := trodVars_none hV
  have k0 := h0
  have lt0 : ∀ x ∈ p0, x.block < W.heap.size := by obtain ⟨m, hm⟩ := k0; exact DataW.trod_lt m _ _ _ hm
  obtain ⟨a0, rfl, rfl, rfl, w0⟩ := open_int Try.underlying3 (hval 0 3 v0 rfl rfl) h0
  have k1 := h1
  have lt1 : ∀ x ∈ p1, x.block < W.heap.size := by obtain ⟨m, hm⟩ := k1; exact DataW.trod_lt m _ _ _ hm
  obtain ⟨a1, len1, cap1, rfl⟩ := okWide_slice Try.underlying22 (hval 1 22 v1 rfl rfl)
  obtain ⟨z1, s1⟩ := open_bs h1
  clear hA0 hval0
  refine (full4_any a0 a1 len1 cap1 z1 W s1).mono fun e W' ⟨he, bel⟩ => ?_
  subst he
  exact ⟨_, rfl, _, _, _, [], _, [], hW', trodAll_mk1 (shut_bool Try.underlying4 _), (trodAll_cons_mk (Below.trod Try.laidOut (by kernel_rfl) (of_decide_eq_true (by kernel_rfl)) k0 bel lt0) (trodAll_cons_mk (Below.trod Try.laidOut (by kernel_rfl) (of_decide_eq_true (by kernel_rfl)) k1 bel lt1) trodAll_mk0)), rfl, bel.frame _, fun h => by cases h⟩

set_option maxRecDepth 100000 in
theorem CursorFull_closed : joinedFacts Try.checked.prog 11 Try.f11 Rows.cursorFullSpec Rows.cursorFullRow = true := by
  unfold joinedFacts
  rw [closed_laid, closed_maps, closed_heard, closed_plain, closed_mayEnter, closed_lifts, closed_make]
  kernel_rfl

theorem CursorFull_holds : Rows.CursorFullSaid :=
  OpenClaim.holds_of_wide 11 Try.f11 rfl rfl rfl rfl rfl rfl rfl ⟨rfl, rfl, rfl, rfl, rfl⟩ rfl rfl rfl rfl rfl (by kernel_rfl) Try.func11 CursorFull_closed
    (of_decide_eq_true (by kernel_rfl)) (by unfold Func.isWrapper; first | (rw [if_pos (by decide +kernel)]; kernel_rfl) | (rw [if_neg (by decide +kernel)]; exact ⟨rfl, rfl⟩))
    (fun os started H enc _ => CursorFull_lifted os started H enc)
#print axioms CursorFull_holds
end Go.Proofs.Ytngofnlhbhfigaa
