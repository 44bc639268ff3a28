/-
  For every place, number and row of bytes, the law RegionNone returns true: a region that is none answers what the document says. No condition.
-/
import Derived.Test.YtngofnlhbhfigaaRgLaw
import Derived.Test.YtngofnlhbhfigaaFrame
import Derived.Test.YtngofnlhbhfigaaInit
namespace Go.Proofs.Ytngofnlhbhfigaa
open Go.RowKit Go.ChangeShapes Go.WideShapes Go.ChangeAt

set_option maxRecDepth 100000 in
theorem foff_nil (w : World) : Calls Try.prog 33 #[.pointer none] w (Same (.bool false) w) := by
  go_enter Try.func33, Try.ntmps33
  go_wp2
  go_ret
  exact ⟨rfl, rfl⟩
theorem gsize0 (w : World) : Calls Try.prog 22 #[.agg #[.pointer none, .int .i64 0, .int .i64 0]] w (Pure (.int .i64 0) w) := gsize_any none 0 0 (by decide) w

set_option maxRecDepth 100000 in
theorem gmay_nil (a m : Int) (w : World) : Calls Try.prog 67 #[.agg #[.pointer none, .int .i64 0, .int .i64 0], .int .i64 a, .int .i64 m] w (Pure (.int .i64 2) w) := by
  have OFF := Lib.hid foff_nil
  have GS := Lib.hid gsize0
  have K0 : Hid (Keeps None w (w.alloc (.cells #[.pointer none, .int .i64 0, .int .i64 0] 27))) := (Keeps.refl None w).alloc _
  have BX : Hid (Blk (w.alloc (.cells #[.pointer none, .int .i64 0, .int .i64 0] 27)) w.heap.size [.pointer none, .int .i64 0, .int .i64 0] 27) := Blk.new w [.pointer none, .int .i64 0, .int .i64 0] 27
  by_cases q1 : a < 0
  · have d1 : decide (a < 0) = true := decide_eq_true q1
    go_enter Try.func67, Try.ntmps67
    go_wp2_with fail
    refine (OFF.out _).mono ?_
    rintro e w' ⟨rfl, rfl⟩
    go_wp2
    go_ret
    exact ⟨rfl, K0.out⟩
  have d1 : decide (a < 0) = false := decide_eq_false q1
  by_cases q2 : m < 0
  · have d2 : decide (m < 0) = true := decide_eq_true q2
    go_enter Try.func67, Try.ntmps67
    go_wp2_with fail
    refine (OFF.out _).mono ?_
    rintro e w' ⟨rfl, rfl⟩
    go_wp2
    go_ret
    exact ⟨rfl, K0.out⟩
  have d2 : decide (m < 0) = false := decide_eq_false q2
  by_cases q3 : 0 < a
  · have d3 : decide (0 < a) = true := decide_eq_true q3
    go_enter Try.func67, Try.ntmps67
    go_wp2_with fail
    refine (OFF.out _).mono ?_
    rintro e w' ⟨rfl, rfl⟩
    go_wp2_with fail
    refine (GS.out _).mono ?_
    rintro e w2 ⟨rfl, k2⟩
    have K2 := Lib.hid (K0.out.trans k2 (T := None) (fun _ h => h) (fun _ _ h => h))
    clear k2
    go_wp2
    go_ret
    exact ⟨rfl, K2.out⟩
  obtain rfl : a = 0 := by omega
  have d3 : decide ((0 : Int) < 0) = false := rfl
  have tail : ∀ b4 : Bool, decide (0 < m) = b4 → Calls Try.prog 67 #[.agg #[.pointer none, .int .i64 0, .int .i64 0], .int .i64 0, .int .i64 m] w (Pure (.int .i64 2) w) := by
    intro b4 hb4
    go_enter Try.func67, Try.ntmps67
    go_wp2_with fail
    refine (OFF.out _).mono ?_
    rintro e w' ⟨rfl, rfl⟩
    go_wp2_with fail
    refine (GS.out _).mono ?_
    rintro e w2 ⟨rfl, k2⟩
    have K2 := Lib.hid (K0.out.trans k2 (T := None) (fun _ h => h) (fun _ _ h => h))
    have B2 := Lib.hid (k2.blk BX.out (fun h => h))
    have c20 := B2.out.cellD 0 _ rfl
    have c21 := B2.out.cellD 1 _ rfl
    have c22 := B2.out.cellD 2 _ rfl
    clear k2
    go_wp2_with fail
    refine (GS.out _).mono ?_
    rintro e w3 ⟨rfl, k3⟩
    have K3 := Lib.hid (K2.out.trans k3 (T := None) (fun _ h => h) (fun _ _ h => h))
    have B3 := Lib.hid (k3.blk B2.out (fun h => h))
    have c30 := B3.out.cellD 0 _ rfl
    have c31 := B3.out.cellD 1 _ rfl
    have c32 := B3.out.cellD 2 _ rfl
    clear k3 c20 c21 c22
    cases b4
    ·
      go_wp2
      go_ret
      exact ⟨rfl, K3.out⟩
    ·
      go_wp2
      go_ret
      exact ⟨rfl, K3.out⟩
  exact tail _ rfl

set_option maxRecDepth 100000 in
theorem gsector_nil (k : Int) (w : World) : Calls Try.prog 86 #[.agg #[.pointer none, .int .i64 0, .int .i64 0], .int .i64 k] w (Pure (.int .i64 2) w) := by
  have OFF := Lib.hid foff_nil
  have K0 : Hid (Keeps None w (w.alloc (.cells #[.pointer none, .int .i64 0, .int .i64 0] 27))) := (Keeps.refl None w).alloc _
  have BX : Hid (Blk (w.alloc (.cells #[.pointer none, .int .i64 0, .int .i64 0] 27)) w.heap.size [.pointer none, .int .i64 0, .int .i64 0] 27) := Blk.new w [.pointer none, .int .i64 0, .int .i64 0] 27
  by_cases q1 : k < 0
  · have d1 : decide (k < 0) = true := decide_eq_true q1
    go_enter Try.func86, Try.ntmps86
    go_wp2_with fail
    refine (OFF.out _).mono ?_
    rintro e w' ⟨rfl, rfl⟩
    go_wp2
    go_ret
    exact ⟨rfl, K0.out⟩
  · have d1 : decide (k < 0) = false := decide_eq_false q1
    have d2 : decide (0 ≤ k) = true := decide_eq_true (by omega)
    go_enter Try.func86, Try.ntmps86
    go_wp2_with fail
    refine (OFF.out _).mono ?_
    rintro e w' ⟨rfl, rfl⟩
    go_wp2
    go_ret
    exact ⟨rfl, K0.out⟩

set_option maxRecDepth 100000 in
theorem gread_nil (a m : Int) (w : World) : Calls Try.prog 45 #[.agg #[.pointer none, .int .i64 0, .int .i64 0], .int .i64 a, .int .i64 m] w (Pure (.tuple #[.slice none 0 0, .int .i64 2]) w) := by
  have K0 : Hid (Keeps None w (w.alloc (.cells #[.pointer none, .int .i64 0, .int .i64 0] 27))) := (Keeps.refl None w).alloc _
  have BX : Hid (Blk (w.alloc (.cells #[.pointer none, .int .i64 0, .int .i64 0] 27)) w.heap.size [.pointer none, .int .i64 0, .int .i64 0] 27) := Blk.new w [.pointer none, .int .i64 0, .int .i64 0] 27
  go_enter Try.func45, Try.ntmps45
  go_wp2_with fail
  refine (gmay_nil _ _ _).mono ?_
  rintro e w1 ⟨rfl, k1⟩
  have K1 := Lib.hid (K0.out.trans k1 (T := None) (fun _ h => h) (fun _ _ h => h))
  clear k1
  go_wp2
  go_ret2
  exact ⟨rfl, K1.out⟩
set_option maxRecDepth 100000 in
theorem gisblank_nil (k : Int) (w : World) : Calls Try.prog 46 #[.agg #[.pointer none, .int .i64 0, .int .i64 0], .int .i64 k] w (Pure (.tuple #[.bool false, .int .i64 2]) w) := by
  have K0 : Hid (Keeps None w (w.alloc (.cells #[.pointer none, .int .i64 0, .int .i64 0] 27))) := (Keeps.refl None w).alloc _
  have BX : Hid (Blk (w.alloc (.cells #[.pointer none, .int .i64 0, .int .i64 0] 27)) w.heap.size [.pointer none, .int .i64 0, .int .i64 0] 27) := Blk.new w [.pointer none, .int .i64 0, .int .i64 0] 27
  go_enter Try.func46, Try.ntmps46
  go_wp2_with fail
  refine (gsector_nil _ _).mono ?_
  rintro e w1 ⟨rfl, k1⟩
  have K1 := Lib.hid (K0.out.trans k1 (T := None) (fun _ h => h) (fun _ _ h => h))
  clear k1
  go_wp2
  go_ret2
  exact ⟨rfl, K1.out⟩
set_option maxRecDepth 100000 in
theorem gerase_nil (k : Int) (w : World) : Calls Try.prog 44 #[.agg #[.pointer none, .int .i64 0, .int .i64 0], .int .i64 k] w (Pure (.int .i64 2) w) := by
  have K0 : Hid (Keeps None w (w.alloc (.cells #[.pointer none, .int .i64 0, .int .i64 0] 27))) := (Keeps.refl None w).alloc _
  have BX : Hid (Blk (w.alloc (.cells #[.pointer none, .int .i64 0, .int .i64 0] 27)) w.heap.size [.pointer none, .int .i64 0, .int .i64 0] 27) := Blk.new w [.pointer none, .int .i64 0, .int .i64 0] 27
  go_enter Try.func44, Try.ntmps44
  go_wp2_with fail
  refine (gsector_nil _ _).mono ?_
  rintro e w1 ⟨rfl, k1⟩
  have K1 := Lib.hid (K0.out.trans k1 (T := None) (fun _ h => h) (fun _ _ h => h))
  clear k1
  go_wp2
  go_ret
  exact ⟨rfl, K1.out⟩
set_option maxRecDepth 100000 in
theorem gprogram_nil (a : Int) (A : Option Addr) (m c : Nat) (hc : m ≤ c) (hm : c ≤ 9223372036854775807) (w : World) : Calls Try.prog 23 #[.agg #[.pointer none, .int .i64 0, .int .i64 0], .int .i64 a, .slice A m c] w (Pure (.int .i64 2) w) := by
  have K0 : Hid (Keeps None w (w.alloc (.cells #[.pointer none, .int .i64 0, .int .i64 0] 27))) := (Keeps.refl None w).alloc _
  have BX : Hid (Blk (w.alloc (.cells #[.pointer none, .int .i64 0, .int .i64 0] 27)) w.heap.size [.pointer none, .int .i64 0, .int .i64 0] 27) := Blk.new w [.pointer none, .int .i64 0, .int .i64 0] 27
  go_enter Try.func23, Try.ntmps23
  go_wp2_with fail
  refine (gmay_nil _ _ _).mono ?_
  rintro e w1 ⟨rfl, k1⟩
  have K1 := Lib.hid (K0.out.trans k1 (T := None) (fun _ h => h) (fun _ _ h => h))
  clear k1
  go_wp2
  go_ret
  exact ⟨rfl, K1.out⟩
theorem some_none (a m : Int) : someB a m ((0 : Nat) : Int) = false := by unfold someB; exact decide_eq_false (by omega)
theorem gpart_nil (a m : Int) (w : World) : Calls Try.prog 20 #[.agg #[.pointer none, .int .i64 0, .int .i64 0], .int .i64 a, .int .i64 m] w (Pure (.tuple #[.agg #[.pointer none, .int .i64 0, .int .i64 0], .int .i64 1]) w) := by
  have := gpart_any none 0 0 (by decide) (by decide) a m w
  rw [ofF_no (some_none a m)] at this
  exact this

set_option maxRecDepth 100000 in
set_option maxHeartbeats 1600000 in
theorem none3_any (a n : Int) (A : Option Addr) (m cap : Nat) (zs : List Int) (W : World) (h : Bs W A m cap zs) :
    Calls Try.prog 9 #[.int .i64 a, .int .i64 n, .slice A m cap] W fun e w' => e = .returned (.bool true) ∧ Below W.heap.size W w' := by
  have hle := h.le
  have hmx := h.max
  clear h
  have N2 := Lib.hid num3_any
  by_cases g1 : 100 < m
  · have d1 : decide (100 < (m : Int)) = true := decide_eq_true (by omega)
    go_enter Try.func9, Try.ntmps9
    go_wp2_with fail
    refine (alive3_any W).mono ?_
    rintro e w1 ⟨rfl, K1⟩
    go_wp2
    go_ret
    exact ⟨rfl, K1.below (fun _ _ h => h)⟩
  have d1 : decide (100 < (m : Int)) = false := decide_eq_false (by omega)
  go_enter Try.func9, Try.ntmps9
  go_wp2_with fail
  refine (alive3_any W).mono ?_
  rintro e w1 ⟨rfl, hk1⟩
  have K1 := Lib.hid (hk1.alloc (.cells #[.pointer none, .int .i64 0, .int .i64 0] 27))
  have R1 := Lib.hid (Blk.new w1 [.pointer none, .int .i64 0, .int .i64 0] 27)
  clear hk1
  -- gread_nil _ _ _ contract, w2 new world, 2 tag, K1 old K, R1 old block
  go_wp2_with fail
  refine (gread_nil _ _ _).mono ?_
  rintro e w2 ⟨rfl, k2⟩
  have K2 := Lib.hid (K1.out.trans k2 (T := None) (fun _ h => h) (fun _ _ h => h))
  have R2 := Lib.hid (k2.blk R1.out (fun h => h))
  clear k2
  have x0 := R2.out.cellD 0 _ rfl
  have x1 := R2.out.cellD 1 _ rfl
  have x2 := R2.out.cellD 2 _ rfl
  -- gisblank_nil _ _ contract, w3 new world, 3 tag, K2 old K, R2 old block
  go_wp2_with fail
  refine (gisblank_nil _ _).mono ?_
  rintro e w3 ⟨rfl, k3⟩
  have K3 := Lib.hid (K2.out.trans k3 (T := None) (fun _ h => h) (fun _ _ h => h))
  have R3 := Lib.hid (k3.blk R2.out (fun h => h))
  clear k3
  clear x0 x1 x2
  have x0 := R3.out.cellD 0 _ rfl
  have x1 := R3.out.cellD 1 _ rfl
  have x2 := R3.out.cellD 2 _ rfl
  -- gpart_nil _ _ _ contract, w4 new world, 4 tag, K3 old K, R3 old block
  go_wp2_with fail
  refine (gpart_nil _ _ _).mono ?_
  rintro e w4 ⟨rfl, k4⟩
  have K4 := Lib.hid (K3.out.trans k4 (T := None) (fun _ h => h) (fun _ _ h => h))
  have R4 := Lib.hid (k4.blk R3.out (fun h => h))
  clear k4
  clear x0 x1 x2
  have K5 := Lib.hid (K4.out.alloc (.cells #[.pointer none, .int .i64 0, .int .i64 0] 27))
  have R5 := Lib.hid (R4.out.alloc (.cells #[.pointer none, .int .i64 0, .int .i64 0] 27))
  -- gof_nil _ _ _ contract, w6 new world, 6 tag, K5 old K, R5 old block
  go_wp2_with fail
  refine (gof_nil _ _ _).mono ?_
  rintro e w6 ⟨rfl, k6⟩
  have K6 := Lib.hid (K5.out.trans k6 (T := None) (fun _ h => h) (fun _ _ h => h))
  have R6 := Lib.hid (k6.blk R5.out (fun h => h))
  clear k6
  simp only [rg0]
  have K7 := Lib.hid (K6.out.alloc (.cells #[.pointer none, .int .i64 0, .int .i64 0] 27))
  have R7 := Lib.hid (R6.out.alloc (.cells #[.pointer none, .int .i64 0, .int .i64 0] 27))
  have x0 := R7.out.cellD 0 _ rfl
  have x1 := R7.out.cellD 1 _ rfl
  have x2 := R7.out.cellD 2 _ rfl
  -- gsize0 _ contract, w8 new world, 8 tag, K7 old K, R7 old block
  go_wp2_with fail
  refine (gsize0 _).mono ?_
  rintro e w8 ⟨rfl, k8⟩
  have K8 := Lib.hid (K7.out.trans k8 (T := None) (fun _ h => h) (fun _ _ h => h))
  have R8 := Lib.hid (k8.blk R7.out (fun h => h))
  clear k8
  clear x0 x1 x2
  have x0 := R8.out.cellD 0 _ rfl
  have x1 := R8.out.cellD 1 _ rfl
  have x2 := R8.out.cellD 2 _ rfl
  go_wp2_with fail
  refine (N2.out _ _).mono ?_
  rintro e w' ⟨rfl, rfl⟩
  -- gprogram_nil _ _ _ _ hle hmx _ contract, w9 new world, 9 tag, K8 old K, R8 old block
  go_wp2_with fail
  refine (gprogram_nil _ _ _ _ hle hmx _).mono ?_
  rintro e w9 ⟨rfl, k9⟩
  have K9 := Lib.hid (K8.out.trans k9 (T := None) (fun _ h => h) (fun _ _ h => h))
  have R9 := Lib.hid (k9.blk R8.out (fun h => h))
  clear k9
  clear x0 x1 x2
  have x0 := R9.out.cellD 0 _ rfl
  have x1 := R9.out.cellD 1 _ rfl
  have x2 := R9.out.cellD 2 _ rfl
  go_wp2_with fail
  refine (N2.out _ _).mono ?_
  rintro e w' ⟨rfl, rfl⟩
  -- gerase_nil _ _ contract, wa new world, 0 tag, K9 old K, R9 old block
  go_wp2_with fail
  refine (gerase_nil _ _).mono ?_
  rintro e wa ⟨rfl, k0⟩
  have K0 := Lib.hid (K9.out.trans k0 (T := None) (fun _ h => h) (fun _ _ h => h))
  have R0 := Lib.hid (k0.blk R9.out (fun h => h))
  clear k0
  go_wp2_with fail
  refine (N2.out _ _).mono ?_
  rintro e w' ⟨rfl, rfl⟩
  go_wp2_with fail
  refine (N2.out _ _).mono ?_
  rintro e w' ⟨rfl, rfl⟩
  go_wp2_with fail
  refine (N2.out _ _).mono ?_
  rintro e w' ⟨rfl, rfl⟩
  go_wp2_with fail
  refine (N2.out _ _).mono ?_
  rintro e w' ⟨rfl, rfl⟩
  go_wp2
  go_ret
  exact ⟨by first | rfl | simp, K0.out.below (fun _ _ h => h)⟩
set_option maxRecDepth 100000 in
theorem RegionNone_lifted (os : Os) (started : os.Started) (H : Type) (enc : TypeId × Value → H) :
    ReturnsInHanded {} Try.checked os 9 .any (Rows.regionNoneSpec.pre6 enc Try.prog Try.f9 Rows.regionNoneRow.domain false) (Rows.regionNoneSpec.post enc Try.prog Try.f9 false true false false) := by
  refine returnsInHanded_of_change (C := Try.checked) Try.own started (by kernel_rfl) Try.func9
    (ChangeSpec.witness6 (enc := enc) (C := Try.checked) false ⟨#[], #[.int .i64 0, .int .i64 0, .slice none 0 0], []⟩ 8 (by kernel_rfl) (by kernel_rfl) (by kernel_rfl) (by kernel_rfl)) ?_
  intro W base args ds gs before hval0 hW hcnd _
  have hval : ∀ (j : Nat) t v, Try.f9.params[j]? = some t → args[j]? = some v → Value.okWide Try.prog W .any base t v := hval0
  have hW' := hW
  obtain ⟨p, q, hA0, hV, rfl, hfz, hnd⟩ := hW
  have hA : DataW.TrodAll enc Try.prog W 0 (fun _ => true) true Try.f9.params.toList args.toList ds p := hA0
  rw [Try.params9] at hA hval
  obtain ⟨v0, vs0, d0, ds0, p0, q0, hargs, rfl, rfl, h0, r0⟩ := trodAll_cons hA
  obtain ⟨v1, vs1, d1, ds1, p1, q1, rfl, rfl, rfl, h1, r1⟩ := trodAll_cons r0
  obtain ⟨v2, vs2, d2, ds2, p2, q2, rfl, rfl, rfl, h2, r2⟩ := trodAll_cons r1
  obtain ⟨rfl, rfl, rfl⟩ := trodAll_nil r2
  obtain rfl : args = #[v0, v1, v2] := by cases args; simp_all
  obtain ⟨rfl, rfl⟩ := trodVars_none hV
  have k0 := h0
  have lt0 : ∀ x ∈ p0, x.block < W.heap.size := by obtain ⟨m, hm⟩ := k0; exact DataW.trod_lt m _ _ _ hm
  obtain ⟨a0, rfl, rfl, rfl, w0⟩ := open_int Try.underlying3 (hval 0 3 v0 rfl rfl) h0
  have k1 := h1
  have lt1 : ∀ x ∈ p1, x.block < W.heap.size := by obtain ⟨m, hm⟩ := k1; exact DataW.trod_lt m _ _ _ hm
  obtain ⟨a1, rfl, rfl, rfl, w1⟩ := open_int Try.underlying3 (hval 1 3 v1 rfl rfl) h1
  have k2 := h2
  have lt2 : ∀ x ∈ p2, x.block < W.heap.size := by obtain ⟨m, hm⟩ := k2; exact DataW.trod_lt m _ _ _ hm
  obtain ⟨a2, len2, cap2, rfl⟩ := okWide_slice Try.underlying22 (hval 2 22 v2 rfl rfl)
  obtain ⟨z2, s2⟩ := open_bs h2
  clear hA0 hval0
  refine (none3_any a0 a1 a2 len2 cap2 z2 W s2).mono fun e W' ⟨he, bel⟩ => ?_
  subst he
  exact ⟨_, rfl, _, _, _, [], _, [], hW', trodAll_mk1 (shut_bool Try.underlying4 _), (trodAll_cons_mk (Below.trod Try.laidOut (by kernel_rfl) (of_decide_eq_true (by kernel_rfl)) k0 bel lt0) (trodAll_cons_mk (Below.trod Try.laidOut (by kernel_rfl) (of_decide_eq_true (by kernel_rfl)) k1 bel lt1) (trodAll_cons_mk (Below.trod Try.laidOut (by kernel_rfl) (of_decide_eq_true (by kernel_rfl)) k2 bel lt2) trodAll_mk0))), rfl, bel.frame _, fun h => by cases h⟩

set_option maxRecDepth 100000 in
theorem RegionNone_closed : joinedFacts Try.checked.prog 9 Try.f9 Rows.regionNoneSpec Rows.regionNoneRow = true := by
  unfold joinedFacts
  rw [closed_laid, closed_maps, closed_heard, closed_plain, closed_mayEnter, closed_lifts, closed_make]
  kernel_rfl

theorem RegionNone_holds : Rows.RegionNoneSaid :=
  OpenClaim.holds_of_wide 9 Try.f9 rfl rfl rfl rfl rfl rfl rfl ⟨rfl, rfl, rfl, rfl, rfl⟩ rfl rfl rfl rfl rfl (by kernel_rfl) Try.func9 RegionNone_closed
    (of_decide_eq_true (by kernel_rfl)) (by unfold Func.isWrapper; first | (rw [if_pos (by decide +kernel)]; kernel_rfl) | (rw [if_neg (by decide +kernel)]; exact ⟨rfl, rfl⟩))
    (fun os started H enc _ => RegionNone_lifted os started H enc)
#print axioms RegionNone_holds
end Go.Proofs.Ytngofnlhbhfigaa
