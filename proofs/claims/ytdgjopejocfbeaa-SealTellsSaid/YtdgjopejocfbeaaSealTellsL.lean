
/-
  For every record, all bytes and every number, the law SealTells returns true: Put, Get and Size tell what the definition tells. No condition.
-/
import Derived.Test.YtdgjopejocfbeaaSR3
import Derived.Test.YtdgjopejocfbeaaInit
namespace Go.Proofs.Ytdgjopejocfbeaa
open Go.RowKit Go.ChangeShapes Go.WideShapes Go.ChangeAt

set_option maxRecDepth 100000 in
theorem rsame_ok (k s : Int) (A B : Option Addr) (n c m d : Nat) (zs : List Int) (w : World) (h1 : Bs w A n c zs) (h2 : Bs w B m d zs) :
    Calls Try.prog 12 #[.agg #[.int .i64 k, .int .i64 s, .slice A n c], .agg #[.int .i64 k, .int .i64 s, .slice B m d]] w fun e w' => e = .returned (.bool true) ∧ Keeps None w w' := by
  have r1 := run_str ((h1.alloc (.cells #[.int .i64 k, .int .i64 s, .slice A n c] 24)).alloc (.cells #[.int .i64 k, .int .i64 s, .slice B m d] 24))
  have r2 := run_str ((h2.alloc (.cells #[.int .i64 k, .int .i64 s, .slice A n c] 24)).alloc (.cells #[.int .i64 k, .int .i64 s, .slice B m d] 24))
  generalize strOf zs = sm at *
  clear h1 h2
  go_enter Try.func12, Try.ntmps12
  go_wp2
  go_ret
  exact ⟨by first | rfl | simp, ((Keeps.refl None w).alloc _).alloc _⟩
theorem GetIs.uniq {zs : List Int} {k s k' s' : Int} {bl bl' : List Int} {n n' : Int} {ok ok' : Bool} (h : GetIs zs k s bl n ok) (h' : GetIs zs k' s' bl' n' ok') : k = k' ∧ s = s' ∧ bl = bl' ∧ n = n' ∧ ok = ok' := by
  rcases h with ⟨a1, a2⟩ | ⟨a1, a2, a3, a4, a5, a6⟩ <;> rcases h' with ⟨b1, b2⟩ | ⟨b1, b2, b3, b4, b5, b6⟩
  · rw [a2] at b2
    simp only [Option.some.injEq, Prod.mk.injEq] at b2
    exact ⟨b2.1, b2.2.1, b2.2.2.1, b2.2.2.2, a1.trans b1.symm⟩
  · rw [a2] at b2; cases b2
  · rw [a2] at b2; cases b2
  · exact ⟨a3.trans b3.symm, a4.trans b4.symm, a5.trans b5.symm, a6.trans b6.symm, a1.trans b1.symm⟩
set_option maxRecDepth 100000 in
set_option maxHeartbeats 3200000 in
theorem tells5_any (k s : Int) (A B : Option Addr) (n cap m capb : Nat) (zs bs : List Int) (x : Int) (W : World) (h : Bs W A n cap zs) (h2 : Bs W B m capb bs) :
    Calls Try.prog 3 #[.agg #[.int .i64 k, .int .i64 s, .slice A n cap], .slice B m capb, .int .i64 x] W fun e w' => e = .returned (.bool true) ∧ Below W.heap.size W w' := by
  have ALV : Hid (∀ w, Calls Try.prog 7 #[] w fun e w' => e = .returned (.bool true) ∧ Keeps None w w') := alive5_any
  have hle := h.le
  have hmax := h.max
  have hle2 := h2.le
  have hmax2 := h2.max
  have H1 := Lib.hid h
  have H2 := Lib.hid h2
  clear h h2
  by_cases g1 : 600 < n
  · have d1 : decide (600 < (n : Int)) = true := decide_eq_true (by omega)
    have d1n : decide (600 < n) = true := decide_eq_true g1
    go_enter Try.func3, Try.ntmps3
    go_wp2_with fail
    refine (ALV.out _).mono ?_
    rintro e w1 ⟨rfl, hk1⟩
    have X1 := Lib.hid (((Keeps.refl None W).alloc (.cells #[.int .i64 k, .int .i64 s, .slice A n cap] 24)).trans hk1 (T := None) (fun _ h => h) (fun _ _ h => h))
    have R1 := Lib.hid (hk1.blk (Blk.new W [.int .i64 k, .int .i64 s, .slice A n cap] 24) (fun h => h))
    have y0 := R1.out.cellD 0 _ rfl
    have y1 := R1.out.cellD 1 _ rfl
    have y2 := R1.out.cellD 2 _ rfl
    clear hk1
    go_wp2
    go_ret
    exact ⟨by first | rfl | simp, X1.out.below (fun _ _ h => h)⟩
  have d1 : decide (600 < (n : Int)) = false := decide_eq_false (by omega)
  have d1n : decide (600 < n) = false := decide_eq_false g1
  by_cases g2 : 700 < m
  · have d2 : decide (700 < (m : Int)) = true := decide_eq_true (by omega)
    have d2n : decide (700 < m) = true := decide_eq_true g2
    go_enter Try.func3, Try.ntmps3
    go_wp2_with fail
    refine (ALV.out _).mono ?_
    rintro e w1 ⟨rfl, hk1⟩
    have X1 := Lib.hid (((Keeps.refl None W).alloc (.cells #[.int .i64 k, .int .i64 s, .slice A n cap] 24)).trans hk1 (T := None) (fun _ h => h) (fun _ _ h => h))
    have R1 := Lib.hid (hk1.blk (Blk.new W [.int .i64 k, .int .i64 s, .slice A n cap] 24) (fun h => h))
    have y0 := R1.out.cellD 0 _ rfl
    have y1 := R1.out.cellD 1 _ rfl
    have y2 := R1.out.cellD 2 _ rfl
    clear hk1
    go_wp2
    go_ret
    exact ⟨by first | rfl | simp, X1.out.below (fun _ _ h => h)⟩
  have d2 : decide (700 < (m : Int)) = false := decide_eq_false (by omega)
  have d2n : decide (700 < m) = false := decide_eq_false g2
  have HL2 := Lib.hid H2.out.len
  go_enter Try.func3, Try.ntmps3
  go_wp2_with fail
  refine (ALV.out _).mono ?_
  rintro e w1 ⟨rfl, hk1⟩
  have X1 := Lib.hid (((Keeps.refl None W).alloc (.cells #[.int .i64 k, .int .i64 s, .slice A n cap] 24)).trans hk1 (T := None) (fun _ h => h) (fun _ _ h => h))
  have R1 := Lib.hid (hk1.blk (Blk.new W [.int .i64 k, .int .i64 s, .slice A n cap] 24) (fun h => h))
  have y0 := R1.out.cellD 0 _ rfl
  have y1 := R1.out.cellD 1 _ rfl
  have y2 := R1.out.cellD 2 _ rfl
  clear hk1
  go_wp2_with (at_builtin; refine Hid.out ?_)
  refine Lib.hid ?_
  refine wpList_append_bs (Own.nil _ w1.heap.size) (H2.out.keeps X1.out (fun _ _ _ _ _ h => h)) (by simp; omega) (Nat.le_refl _) rfl rfl rfl rfl rfl ?_
  intro v2 w2 ho2 hk2
  rw [List.nil_append] at ho2
  have k2 : Keeps None w1 w2 := hk2.mono (fun i hi e => by simp [Value.ownBlock] at e)
  obtain ⟨A2, c2, rfl, b2, -⟩ := ho2.shape
  rw [HL2.out] at b2 ⊢
  have B2 := Lib.hid b2
  have X2 := Lib.hid (X1.out.trans k2 (T := None) (fun _ h => h) (fun _ _ h => h))
  have R2 := Lib.hid (k2.blk R1.out (fun h => h))
  clear ho2 hk2 k2 b2 X1 R1 y0 y1 y2
  go_wp2_with fail
  refine (sget_any A2 m c2 bs w2 B2.out (by omega)).mono ?_
  rintro e w3 ⟨k3, s3, v3, bl3, n3, ok3, rfl, o3, q3, g3⟩
  obtain ⟨A3, c3, rfl, b3, -⟩ := o3.shape
  have B3 := Lib.hid b3
  have G3 := Lib.hid g3
  have X3 := Lib.hid (X2.out.trans q3 (T := None) (fun _ h => h) (fun _ _ h => h))
  have R3 := Lib.hid (q3.blk R2.out (fun h => h))
  clear o3 q3 g3 b3 X2 R2 B2
  obtain ⟨l3, L3⟩ : ∃ x, Hid (bl3.length = x) := ⟨_, rfl⟩
  rw [L3.out] at B3 ⊢
  have M3 := B3.out.max
  have E3 := B3.out.le
  go_wp2_with fail
  generalize hwx : World.alloc w3 _ = w4
  have X4 : Hid (Keeps None W w4) := by show Keeps _ _ _; rw [← hwx]; exact X3.out.alloc _
  have R4 : Hid (Blk w4 W.heap.size [.int .i64 k, .int .i64 s, .slice A n cap] 24) := by show Blk _ _ _ _; rw [← hwx]; exact R3.out.alloc _
  have N4 : Hid (Blk w4 w3.heap.size [.int .i64 k3, .int .i64 s3, .slice A3 l3 c3] 24) := by show Blk _ _ _ _; rw [← hwx]; exact Blk.new _ [_, _, _] _
  have B4 : Hid (Bs w4 A3 l3 c3 bl3) := by show Bs _ _ _ _ _; rw [← hwx]; exact B3.out.alloc _
  clear hwx X3 R3 B3
  refine (rsget_any B m capb bs w4 (H2.out.keeps X4.out (fun _ _ _ _ _ h => h)) (by omega)).mono ?_
  rintro e w5 ⟨k5, s5, v5, bl5, n5, ok5, rfl, o5, q5, g5⟩
  obtain ⟨rfl, rfl, rfl, rfl, rfl⟩ := G3.out.uniq g5
  obtain ⟨A5, c5, rfl, b5, -⟩ := o5.shape
  have B5 := Lib.hid b5
  have X5 := Lib.hid (X4.out.trans q5 (T := None) (fun _ h => h) (fun _ _ h => h))
  have R5 := Lib.hid (q5.blk R4.out (fun h => h))
  have N5 := Lib.hid (q5.blk N4.out (fun h => h))
  have D5 := Lib.hid (B4.out.keeps q5 (fun _ _ _ _ _ h => h))
  clear o5 q5 g5 b5 X4 R4 N4 B4 G3
  rw [L3.out] at B5 ⊢
  have M5 := B5.out.max
  have E5 := B5.out.le
  obtain ⟨h3, HH3⟩ : ∃ x, x = w3.heap.size := ⟨_, rfl⟩
  rw [← HH3] at N5 ⊢
  clear HH3
  go_wp2
  generalize hwx : World.alloc w5 _ = w6
  have X6 : Hid (Keeps None W w6) := by show Keeps _ _ _; rw [← hwx]; exact X5.out.alloc _
  have R6 : Hid (Blk w6 W.heap.size [.int .i64 k, .int .i64 s, .slice A n cap] 24) := by show Blk _ _ _ _; rw [← hwx]; exact R5.out.alloc _
  have N6 : Hid (Blk w6 h3 [.int .i64 k3, .int .i64 s3, .slice A3 l3 c3] 24) := by show Blk _ _ _ _; rw [← hwx]; exact N5.out.alloc _
  have D6 : Hid (Bs w6 A3 l3 c3 bl3) := by show Bs _ _ _ _ _; rw [← hwx]; exact D5.out.alloc _
  have T6 : Hid (Blk w6 w5.heap.size [.int .i64 k3, .int .i64 s3, .slice A5 l3 c5] 24) := by show Blk _ _ _ _; rw [← hwx]; exact Blk.new _ [_, _, _] _
  have B6 : Hid (Bs w6 A5 l3 c5 bl3) := by show Bs _ _ _ _ _; rw [← hwx]; exact B5.out.alloc _
  clear hwx X5 R5 N5 D5 B5
  obtain ⟨h5, HH5⟩ : ∃ x, x = w5.heap.size := ⟨_, rfl⟩
  rw [← HH5] at T6 ⊢
  clear HH5
  have PUT := Lib.hid (fun w h => sput_any k s A n cap zs w h (by omega))
  have RPUT := Lib.hid (fun w h => rsput_any k s A n cap zs w h (by omega))
  obtain ⟨pl, HPL⟩ : ∃ y, Hid (putL k s zs = y) := ⟨_, rfl⟩
  rw [HPL.out] at PUT RPUT
  obtain ⟨np, HNP⟩ : ∃ y, Hid (pl.length = y) := ⟨_, rfl⟩
  obtain ⟨sp, HSP⟩ : ∃ y, Hid (strOf pl = y) := ⟨_, rfl⟩
  have qp : (sp.toList == sp.toList) = true := by simp
  have SZ := Lib.hid (fun w => ssize_any x w)
  have RSZ := Lib.hid (fun w => rssize_any x w)
  obtain ⟨sx, HSX⟩ : ∃ y, Hid (sizeZ x = y) := ⟨_, rfl⟩
  rw [HSX.out] at SZ RSZ
  obtain ⟨mS, mh⟩ : ∃ S : World → Prop, ∀ w', S w' ↔ (w'.cell? ⟨W.heap.size, 0, none⟩ = some (.int .i64 k) ∧ w'.cell? ⟨W.heap.size, 1, none⟩ = some (.int .i64 s) ∧ w'.cell? ⟨W.heap.size, 2, none⟩ = some (.slice A n cap) ∧ w'.cell? ⟨h3, 0, none⟩ = some (.int .i64 k3) ∧ w'.cell? ⟨h3, 1, none⟩ = some (.int .i64 s3) ∧ w'.cell? ⟨h3, 2, none⟩ = some (.slice A3 l3 c3) ∧ w'.cell? ⟨h5, 0, none⟩ = some (.int .i64 k3) ∧ w'.cell? ⟨h5, 1, none⟩ = some (.int .i64 s3) ∧ w'.cell? ⟨h5, 2, none⟩ = some (.slice A5 l3 c5)) := ⟨_, fun _ => Iff.rfl⟩
  have mk0 : ∀ x : Memb mS, x.at_.cell? ⟨W.heap.size, 0, none⟩ = some (.int .i64 k) := fun x => ((mh _).1 x.is).1
  have mk1 : ∀ x : Memb mS, x.at_.cell? ⟨W.heap.size, 1, none⟩ = some (.int .i64 s) := fun x => ((mh _).1 x.is).2.1
  have mk2 : ∀ x : Memb mS, x.at_.cell? ⟨W.heap.size, 2, none⟩ = some (.slice A n cap) := fun x => ((mh _).1 x.is).2.2.1
  have mk3 : ∀ x : Memb mS, x.at_.cell? ⟨h3, 0, none⟩ = some (.int .i64 k3) := fun x => ((mh _).1 x.is).2.2.2.1
  have mk4 : ∀ x : Memb mS, x.at_.cell? ⟨h3, 1, none⟩ = some (.int .i64 s3) := fun x => ((mh _).1 x.is).2.2.2.2.1
  have mk5 : ∀ x : Memb mS, x.at_.cell? ⟨h3, 2, none⟩ = some (.slice A3 l3 c3) := fun x => ((mh _).1 x.is).2.2.2.2.2.1
  have mk6 : ∀ x : Memb mS, x.at_.cell? ⟨h5, 0, none⟩ = some (.int .i64 k3) := fun x => ((mh _).1 x.is).2.2.2.2.2.2.1
  have mk7 : ∀ x : Memb mS, x.at_.cell? ⟨h5, 1, none⟩ = some (.int .i64 s3) := fun x => ((mh _).1 x.is).2.2.2.2.2.2.2.1
  have mk8 : ∀ x : Memb mS, x.at_.cell? ⟨h5, 2, none⟩ = some (.slice A5 l3 c5) := fun x => ((mh _).1 x.is).2.2.2.2.2.2.2.2
  have mn : Nonempty (Memb mS) := ⟨⟨(w6).drew, (mh _).2 ⟨R6.out.cellD 0 _ rfl, R6.out.cellD 1 _ rfl, R6.out.cellD 2 _ rfl, N6.out.cellD 0 _ rfl, N6.out.cellD 1 _ rfl, N6.out.cellD 2 _ rfl, T6.out.cellD 0 _ rfl, T6.out.cellD 1 _ rfl, T6.out.cellD 2 _ rfl⟩⟩⟩
  have mH := Lib.hid mh
  clear mh
  refine wp_region_mix2 [1, 4, 10, 24, 26] (InS mS) (by kernel_rfl) (by kernel_rfl) (InS.mk ((mH.out _).2 ⟨R6.out.cellD 0 _ rfl, R6.out.cellD 1 _ rfl, R6.out.cellD 2 _ rfl, N6.out.cellD 0 _ rfl, N6.out.cellD 1 _ rfl, N6.out.cellD 2 _ rfl, T6.out.cellD 0 _ rfl, T6.out.cellD 1 _ rfl, T6.out.cellD 2 _ rfl⟩)) ?_
  refine wpMix2_seg 1 (InS mS) (by kernel_rfl) (by decide) (cl_base [] rfl (by kernel_rfl)) ?_
  simp only [List.take_succ_cons, List.take_zero, List.drop_succ_cons, List.drop_zero]
  repeat (go_big_quiet_step (fail))
  refine wpQuiet_nil ?_
  refine wpMix2_eff (by kernel_rfl) ?_
  go_wp2_with fail
  refine (PUT.out _ (H1.out.keeps X6.out.drew (fun _ _ _ _ _ h => h))).mono ?_
  rintro e w7 ⟨v7, rfl, o7, q7⟩
  obtain ⟨A7, c7, rfl, b7, -⟩ := o7.shape
  rw [HNP.out] at b7 ⊢
  have B7 := Lib.hid b7
  have X7 := Lib.hid (X6.out.drew.trans q7 (T := None) (fun _ h => h) (fun _ _ h => h))
  have R7 := Lib.hid (q7.blk R6.out.drew (fun h => h))
  have N7 := Lib.hid (q7.blk N6.out.drew (fun h => h))
  have T7 := Lib.hid (q7.blk T6.out.drew (fun h => h))
  have D7 := Lib.hid (D6.out.drew.keeps q7 (fun _ _ _ _ _ h => h))
  have F7 := Lib.hid (B6.out.drew.keeps q7 (fun _ _ _ _ _ h => h))
  clear o7 q7 b7 X6 R6 N6 T6 D6 B6 PUT
  go_wp2
  obtain ⟨mL2S, mL2h⟩ : ∃ S : World → Prop, ∀ w', S w' ↔ (((convert 22 9 (.slice A7 np c7)).run Try.prog w' = .ok (.string sp) w')) := ⟨_, fun _ => Iff.rfl⟩
  have mL2k0 : ∀ x : Memb mL2S, (convert 22 9 (.slice A7 np c7)).run Try.prog x.at_ = .ok (.string sp) x.at_ := fun x => ((mL2h _).1 x.is)
  have mL2n : Nonempty (Memb mL2S) := ⟨⟨_, (mL2h _).2 (HSP.out ▸ run_str B7.out)⟩⟩
  have mL2H := Lib.hid mL2h
  clear mL2h
  refine MixK2.late (D := InS mL2S) (x := 2) (by kernel_rfl) (cls_cons (InS.mk ((mL2H.out _).2 (HSP.out ▸ run_str B7.out))) (cls_base (InS.mk ((mH.out _).2 (⟨R7.out.cellD 0 _ rfl, R7.out.cellD 1 _ rfl, R7.out.cellD 2 _ rfl, N7.out.cellD 0 _ rfl, N7.out.cellD 1 _ rfl, N7.out.cellD 2 _ rfl, T7.out.cellD 0 _ rfl, T7.out.cellD 1 _ rfl, T7.out.cellD 2 _ rfl⟩))))) ?_
  refine wpMix2_seg 1 (InS mL2S) (by kernel_rfl) (by decide) (cl_one rfl) ?_
  simp only [List.take_succ_cons, List.take_zero, List.drop_succ_cons, List.drop_zero]
  repeat (first | go_big_quiet_step (fail) | (go_big_quiet_want; first | refine quiet_conv mL2k0 rfl rfl rfl (by simp only [Act.put, List.setIfInBounds_toArray, List.set_cons_succ, List.set_cons_zero]; rfl) ?_; go_big_quiet_on))
  refine wpQuiet_nil ?_
  refine wpMix2_seg 1 (InS mS) (by kernel_rfl) (by decide) (cl_base [2] rfl (by kernel_rfl)) ?_
  simp only [List.take_succ_cons, List.take_zero, List.drop_succ_cons, List.drop_zero]
  repeat (first | go_big_quiet_step (fail) | (go_big_quiet_want; first | refine quiet_conv mL2k0 rfl rfl rfl (by simp only [Act.put, List.setIfInBounds_toArray, List.set_cons_succ, List.set_cons_zero]; rfl) ?_; go_big_quiet_on))
  refine wpQuiet_nil ?_
  refine wpMix2_eff (by kernel_rfl) ?_
  go_wp2_with fail
  refine (RPUT.out _ (H1.out.keeps X7.out (fun _ _ _ _ _ h => h))).mono ?_
  rintro e w8 ⟨v8, rfl, o8, q8⟩
  obtain ⟨A8, c8, rfl, b8, -⟩ := o8.shape
  rw [HNP.out] at b8 ⊢
  have B8 := Lib.hid b8
  have B78 := Lib.hid (B7.out.keeps q8 (fun _ _ _ _ _ h => h))
  have X8 := Lib.hid (X7.out.trans q8 (T := None) (fun _ h => h) (fun _ _ h => h))
  have N8 := Lib.hid (q8.blk N7.out (fun h => h))
  have R8 := Lib.hid (q8.blk R7.out (fun h => h))
  have T8 := Lib.hid (q8.blk T7.out (fun h => h))
  have D8 := Lib.hid (D7.out.keeps q8 (fun _ _ _ _ _ h => h))
  have F8 := Lib.hid (F7.out.keeps q8 (fun _ _ _ _ _ h => h))
  clear o8 q8 b8 X7 R7 N7 T7 D7 F7 RPUT
  go_wp2
  obtain ⟨mL5S, mL5h⟩ : ∃ S : World → Prop, ∀ w', S w' ↔ (((convert 22 9 (.slice A8 np c8)).run Try.prog w' = .ok (.string sp) w')) := ⟨_, fun _ => Iff.rfl⟩
  have mL5k0 : ∀ x : Memb mL5S, (convert 22 9 (.slice A8 np c8)).run Try.prog x.at_ = .ok (.string sp) x.at_ := fun x => ((mL5h _).1 x.is)
  have mL5n : Nonempty (Memb mL5S) := ⟨⟨_, (mL5h _).2 (HSP.out ▸ run_str B8.out)⟩⟩
  have mL5H := Lib.hid mL5h
  clear mL5h
  refine MixK2.late (D := InS mL5S) (x := 5) (by kernel_rfl) (cls_cons (InS.mk ((mL5H.out _).2 (HSP.out ▸ run_str B8.out))) (cls_cons (InS.mk ((mL2H.out _).2 (HSP.out ▸ run_str B78.out))) (cls_base (InS.mk ((mH.out _).2 (⟨R8.out.cellD 0 _ rfl, R8.out.cellD 1 _ rfl, R8.out.cellD 2 _ rfl, N8.out.cellD 0 _ rfl, N8.out.cellD 1 _ rfl, N8.out.cellD 2 _ rfl, T8.out.cellD 0 _ rfl, T8.out.cellD 1 _ rfl, T8.out.cellD 2 _ rfl⟩)))))) ?_
  refine wpMix2_seg 1 (InS mL5S) (by kernel_rfl) (by decide) (cl_one rfl) ?_
  simp only [List.take_succ_cons, List.take_zero, List.drop_succ_cons, List.drop_zero]
  repeat (first | go_big_quiet_step (fail) | (go_big_quiet_want; first | refine quiet_conv mL2k0 rfl rfl rfl (by simp only [Act.put, List.setIfInBounds_toArray, List.set_cons_succ, List.set_cons_zero]; rfl) ?_; go_big_quiet_on | refine quiet_conv mL5k0 rfl rfl rfl (by simp only [Act.put, List.setIfInBounds_toArray, List.set_cons_succ, List.set_cons_zero]; rfl) ?_; go_big_quiet_on))
  refine wpQuiet_nil ?_
  refine wpMix2_seg 4 (InS mS) (by kernel_rfl) (by decide) (cl_base [5, 2] rfl (by kernel_rfl)) ?_
  simp only [List.take_succ_cons, List.take_zero, List.drop_succ_cons, List.drop_zero]
  repeat (first | go_big_quiet_step (fail) | (go_big_quiet_want; first | refine quiet_conv mL2k0 rfl rfl rfl (by simp only [Act.put, List.setIfInBounds_toArray, List.set_cons_succ, List.set_cons_zero]; rfl) ?_; go_big_quiet_on | refine quiet_conv mL5k0 rfl rfl rfl (by simp only [Act.put, List.setIfInBounds_toArray, List.set_cons_succ, List.set_cons_zero]; rfl) ?_; go_big_quiet_on))
  refine wpQuiet_nil ?_
  refine wpMix2_eff (by kernel_rfl) ?_
  go_wp2_with fail
  refine (rsame_ok _ _ A3 A5 l3 c3 l3 c5 bl3 w8 D8.out F8.out).mono ?_
  rintro e w9 ⟨rfl, q9⟩
  have X9 := Lib.hid (X8.out.trans q9 (T := None) (fun _ h => h) (fun _ _ h => h))
  have R9 := Lib.hid (q9.blk R8.out (fun h => h))
  have N9 := Lib.hid (q9.blk N8.out (fun h => h))
  have T9 := Lib.hid (q9.blk T8.out (fun h => h))
  have B79 := Lib.hid (B78.out.keeps q9 (fun _ _ _ _ _ h => h))
  have B89 := Lib.hid (B8.out.keeps q9 (fun _ _ _ _ _ h => h))
  clear q9 X8 R8 N8 T8 D8 F8
  go_wp2
  refine MixK2.on (cls_cons (InS.mk ((mL5H.out _).2 (HSP.out ▸ run_str B89.out))) (cls_cons (InS.mk ((mL2H.out _).2 (HSP.out ▸ run_str B79.out))) (cls_base (InS.mk ((mH.out _).2 (⟨R9.out.cellD 0 _ rfl, R9.out.cellD 1 _ rfl, R9.out.cellD 2 _ rfl, N9.out.cellD 0 _ rfl, N9.out.cellD 1 _ rfl, N9.out.cellD 2 _ rfl, T9.out.cellD 0 _ rfl, T9.out.cellD 1 _ rfl, T9.out.cellD 2 _ rfl⟩)))))) ?_
  refine wpMix2_seg 13 (InS mS) (by kernel_rfl) (by decide) (cl_base [5, 2] rfl (by kernel_rfl)) ?_
  simp only [List.take_succ_cons, List.take_zero, List.drop_succ_cons, List.drop_zero]
  repeat (first | go_big_quiet_step (fail) | (go_big_quiet_want; first | refine quiet_conv mL2k0 rfl rfl rfl (by simp only [Act.put, List.setIfInBounds_toArray, List.set_cons_succ, List.set_cons_zero]; rfl) ?_; go_big_quiet_on | refine quiet_conv mL5k0 rfl rfl rfl (by simp only [Act.put, List.setIfInBounds_toArray, List.set_cons_succ, List.set_cons_zero]; rfl) ?_; go_big_quiet_on))
  refine wpQuiet_nil ?_
  refine wpMix2_eff (by kernel_rfl) ?_
  go_wp2_with fail
  refine (SZ.out _).mono ?_
  rintro e w' ⟨rfl, rfl⟩
  go_wp2
  refine MixK2.on (cls_cons (InS.mk ((mL5H.out _).2 (HSP.out ▸ run_str B89.out))) (cls_cons (InS.mk ((mL2H.out _).2 (HSP.out ▸ run_str B79.out))) (cls_base (InS.mk ((mH.out _).2 (⟨R9.out.cellD 0 _ rfl, R9.out.cellD 1 _ rfl, R9.out.cellD 2 _ rfl, N9.out.cellD 0 _ rfl, N9.out.cellD 1 _ rfl, N9.out.cellD 2 _ rfl, T9.out.cellD 0 _ rfl, T9.out.cellD 1 _ rfl, T9.out.cellD 2 _ rfl⟩)))))) ?_
  refine wpMix2_seg 1 (InS mS) (by kernel_rfl) (by decide) (cl_base [5, 2] rfl (by kernel_rfl)) ?_
  simp only [List.take_succ_cons, List.take_zero, List.drop_succ_cons, List.drop_zero]
  repeat (first | go_big_quiet_step (fail) | (go_big_quiet_want; first | refine quiet_conv mL2k0 rfl rfl rfl (by simp only [Act.put, List.setIfInBounds_toArray, List.set_cons_succ, List.set_cons_zero]; rfl) ?_; go_big_quiet_on | refine quiet_conv mL5k0 rfl rfl rfl (by simp only [Act.put, List.setIfInBounds_toArray, List.set_cons_succ, List.set_cons_zero]; rfl) ?_; go_big_quiet_on))
  refine wpQuiet_nil ?_
  refine wpMix2_eff (by kernel_rfl) ?_
  go_wp2_with fail
  refine (RSZ.out _).mono ?_
  rintro e w' ⟨rfl, rfl⟩
  go_wp2
  refine MixK2.on (cls_cons (InS.mk ((mL5H.out _).2 (HSP.out ▸ run_str B89.out))) (cls_cons (InS.mk ((mL2H.out _).2 (HSP.out ▸ run_str B79.out))) (cls_base (InS.mk ((mH.out _).2 (⟨R9.out.cellD 0 _ rfl, R9.out.cellD 1 _ rfl, R9.out.cellD 2 _ rfl, N9.out.cellD 0 _ rfl, N9.out.cellD 1 _ rfl, N9.out.cellD 2 _ rfl, T9.out.cellD 0 _ rfl, T9.out.cellD 1 _ rfl, T9.out.cellD 2 _ rfl⟩)))))) ?_
  refine wpMix2_seg 3 (InS mS) (by kernel_rfl) (by decide) (cl_base [5, 2] rfl (by kernel_rfl)) ?_
  simp only [List.take_succ_cons, List.take_zero, List.drop_succ_cons, List.drop_zero]
  repeat (first | go_big_quiet_step (fail) | (go_big_quiet_want; first | refine quiet_conv mL2k0 rfl rfl rfl (by simp only [Act.put, List.setIfInBounds_toArray, List.set_cons_succ, List.set_cons_zero]; rfl) ?_; go_big_quiet_on | refine quiet_conv mL5k0 rfl rfl rfl (by simp only [Act.put, List.setIfInBounds_toArray, List.set_cons_succ, List.set_cons_zero]; rfl) ?_; go_big_quiet_on))
  refine wpQuiet_nil ?_
  refine wpMix2_nil ?_
  clear mk0 mk1 mk2 mk3 mk4 mk5 mk6 mk7 mk8 mn mH mL2k0 mL2n mL2H mL5k0 mL5n mL5H
  go_wp2
  go_ret
  exact ⟨by first | rfl | simp, X9.out.below (fun _ _ h => h)⟩
set_option maxRecDepth 100000 in
theorem SealTells_lifted (os : Os) (started : os.Started) (H : Type) (enc : TypeId × Value → H) :
    ReturnsInHanded {} Try.checked os 3 .any (Rows.sealTellsSpec.pre6 enc Try.prog Try.f3 Rows.sealTellsRow.domain false) (Rows.sealTellsSpec.post enc Try.prog Try.f3 false true false false) := by
  refine returnsInHanded_of_change (C := Try.checked) Try.own started (by kernel_rfl) Try.func3
    (ChangeSpec.witness6 (enc := enc) (C := Try.checked) false ⟨#[], #[.agg #[.int .i64 0, .int .i64 0, .slice none 0 0], .slice none 0 0, .int .i64 0], []⟩ 8 (by kernel_rfl) (by kernel_rfl) (by kernel_rfl) (by kernel_rfl)) ?_
  intro W base args ds gs before hval0 hW hcnd _
  have hval : ∀ (j : Nat) t v, Try.f3.params[j]? = some t → args[j]? = some v → Value.okWide Try.prog W .any base t v := hval0
  have hW' := hW
  obtain ⟨p, q, hA0, hV, rfl, hfz, hnd⟩ := hW
  have hA : DataW.TrodAll enc Try.prog W 0 (fun _ => true) true Try.f3.params.toList args.toList ds p := hA0
  rw [Try.params3] at hA hval
  obtain ⟨v0, vs0, d0, ds0, p0, q0, hargs, rfl, rfl, h0, r0⟩ := trodAll_cons hA
  obtain ⟨v1, vs1, d1, ds1, p1, q1, rfl, rfl, rfl, h1, r1⟩ := trodAll_cons r0
  obtain ⟨v2, vs2, d2, ds2, p2, q2, rfl, rfl, rfl, h2, r2⟩ := trodAll_cons r1
  obtain ⟨rfl, rfl, rfl⟩ := trodAll_nil r2
  obtain rfl : args = #[v0, v1, v2] := by cases args; simp_all
  obtain ⟨rfl, rfl⟩ := trodVars_none hV
  have k0 := h0
  have lt0 : ∀ x ∈ p0, x.block < W.heap.size := by obtain ⟨m, hm⟩ := k0; exact DataW.trod_lt m _ _ _ hm
  obtain ⟨rk0, rs0, a0, len0, cap0, z0, rfl, s0⟩ := open_record (hval 0 24 v0 rfl rfl) h0
  have k1 := h1
  have lt1 : ∀ x ∈ p1, x.block < W.heap.size := by obtain ⟨m, hm⟩ := k1; exact DataW.trod_lt m _ _ _ hm
  obtain ⟨a1, len1, cap1, rfl⟩ := okWide_slice Try.underlying22 (hval 1 22 v1 rfl rfl)
  obtain ⟨z1, s1⟩ := open_bs h1
  have k2 := h2
  have lt2 : ∀ x ∈ p2, x.block < W.heap.size := by obtain ⟨m, hm⟩ := k2; exact DataW.trod_lt m _ _ _ hm
  obtain ⟨a2, rfl, rfl, rfl, w2⟩ := open_int Try.underlying3 (hval 2 3 v2 rfl rfl) h2
  clear hA0 hval0
  refine (tells5_any rk0 rs0 a0 a1 len0 cap0 len1 cap1 z0 z1 a2 W s0 s1).mono fun e W' ⟨he, bel⟩ => ?_
  subst he
  exact ⟨_, rfl, _, _, _, [], _, [], hW', trodAll_mk1 (shut_bool Try.underlying4 _), (trodAll_cons_mk (Below.trod Try.laidOut (by kernel_rfl) (of_decide_eq_true (by kernel_rfl)) k0 bel lt0) (trodAll_cons_mk (Below.trod Try.laidOut (by kernel_rfl) (of_decide_eq_true (by kernel_rfl)) k1 bel lt1) (trodAll_cons_mk (Below.trod Try.laidOut (by kernel_rfl) (of_decide_eq_true (by kernel_rfl)) k2 bel lt2) trodAll_mk0))), rfl, bel.frame _, fun h => by cases h⟩

set_option maxRecDepth 100000 in
theorem SealTells_closed : joinedFacts Try.checked.prog 3 Try.f3 Rows.sealTellsSpec Rows.sealTellsRow = true := by
  unfold joinedFacts
  rw [closed_laid, closed_maps, closed_heard, closed_plain, closed_mayEnter, closed_lifts, closed_make]
  kernel_rfl

theorem SealTells_holds : Rows.SealTellsSaid :=
  OpenClaim.holds_of_wide 3 Try.f3 rfl rfl rfl rfl rfl rfl rfl ⟨rfl, rfl, rfl, rfl, rfl⟩ rfl rfl rfl rfl rfl (by kernel_rfl) Try.func3 SealTells_closed
    (of_decide_eq_true (by kernel_rfl)) (by unfold Func.isWrapper; first | (rw [if_pos (by decide +kernel)]; kernel_rfl) | (rw [if_neg (by decide +kernel)]; exact ⟨rfl, rfl⟩))
    (fun os started H enc _ => SealTells_lifted os started H enc)
#print axioms SealTells_holds
end Go.Proofs.Ytdgjopejocfbeaa
