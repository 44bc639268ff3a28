/-
  For all old, new, pick and seen bytes and every number, the law NorTells returns true: Blank, IsBlank, Can, Program, Torn, Between, Half and Risen agree with the document's own answer. No condition.
-/
import Derived.Test.YteogaacdmoafpaaNorRef2
import Derived.Test.YteogaacdmoafpaaMix2
import Derived.Test.YteogaacdmoafpaaInit
import Derived.Test.YteogaacdmoafpaaFrame
namespace Go.Proofs.Yteogaacdmoafpaa
open Go.RowKit Go.ChangeShapes Go.WideShapes Go.ChangeAt

set_option maxRecDepth 100000 in
set_option maxHeartbeats 6400000 in
theorem tells1_any (A1 A2 A3 A4 : Option Addr) (n1 c1 n2 c2 n3 c3 n4 c4 : Nat) (zs bs cs ss : List Int) (n : Int) (w : World) (h1 : Bs w A1 n1 c1 zs) (h2 : Bs w A2 n2 c2 bs) (h3 : Bs w A3 n3 c3 cs) (h4 : Bs w A4 n4 c4 ss) :
    Calls Try.prog 4 #[.slice A1 n1 c1, .slice A2 n2 c2, .slice A3 n3 c3, .slice A4 n4 c4, .int .i64 n] w fun e w' => e = .returned (.bool true) ∧ Below w.heap.size w w' := by
  have SH := Lib.hid fun w' => short_any A1 A2 A3 n1 c1 n2 c2 n3 c3 w'
  have hle4 := h4.le
  have hmx4 := h4.max
  cases hs : shortB n1 n2 n3 with
  | false =>
    rw [hs] at SH
    clear hs
    go_enter Try.func4, Try.ntmps4
    go_wp2_with fail
    refine (alive1_any _).mono ?_
    rintro e w1 ⟨rfl, B1⟩
    have K1 : Hid (Keeps (fun b => w.heap.size ≤ b) w w1) := ⟨B1.os, B1.tape, B1.output, B1.size, fun k hk _ => B1.block k hk⟩
    clear B1
    go_wp2_with fail
    refine (SH.out _).mono ?_
    rintro e w' ⟨rfl, rfl⟩
    go_wp2
    go_ret
    exact ⟨rfl, K1.out.below (fun k hk h => by omega)⟩
  | true =>
    rw [hs] at SH
    have hsn : n1 ≤ 400 ∧ n2 ≤ 400 ∧ n3 ≤ 400 := by simpa [shortB] using hs
    obtain ⟨hn1, hn2, hn3⟩ := hsn
    clear hs
    by_cases g4 : 400 < n4
    · have d4 : decide (400 < (n4 : Int)) = true := decide_eq_true (by omega)
      go_enter Try.func4, Try.ntmps4
      go_wp2_with fail
      refine (alive1_any _).mono ?_
      rintro e w1 ⟨rfl, B1⟩
      have K1 : Hid (Keeps (fun b => w.heap.size ≤ b) w w1) := ⟨B1.os, B1.tape, B1.output, B1.size, fun k hk _ => B1.block k hk⟩
      clear B1
      go_wp2_with fail
      refine (SH.out _).mono ?_
      rintro e w' ⟨rfl, rfl⟩
      go_wp2
      go_ret
      exact ⟨rfl, K1.out.below (fun k hk h => by omega)⟩
    have d4 : decide (400 < (n4 : Int)) = false := decide_eq_false (by omega)
    have BL := Lib.hid fun w' => blank_any n w'
    have RBL := Lib.hid fun w' => rblank_any n w'
    have IB := Lib.hid fun w' h => isBlank_any A1 n1 c1 zs w' h
    have RIB := Lib.hid fun w' h => risBlank_any A1 n1 c1 zs w' h
    have CAN := Lib.hid fun w' h k => can_any A1 A2 n1 c1 n2 c2 zs bs w' h k
    have RCAN := Lib.hid fun w' h k => rcan_any A1 A2 n1 c1 n2 c2 zs bs w' h k
    have PRG := Lib.hid fun w' h k => program_any A1 A2 n1 c1 n2 c2 zs bs w' h k (by omega)
    have RPRG := Lib.hid fun w' h k => rprogram_any A1 A2 n1 c1 n2 c2 zs bs w' h k (by omega)
    have TRN := Lib.hid fun w' h k l => torn_any A1 A2 A3 n1 c1 n2 c2 n3 c3 zs bs cs w' h k l (by omega)
    have RTRN := Lib.hid fun w' h k l => rtorn_any A1 A2 A3 n1 c1 n2 c2 n3 c3 zs bs cs w' h k l (by omega)
    have BTW := Lib.hid fun w' h k l => between_any A1 A2 A4 n1 c1 n2 c2 n4 c4 zs bs ss w' h k l
    have RBTW := Lib.hid fun w' h k l => rbetween_any A1 A2 A4 n1 c1 n2 c2 n4 c4 zs bs ss w' h k l
    have HLF := Lib.hid fun w' h k => half_any A1 A3 n1 c1 n3 c3 zs cs w' h k (by omega)
    have RHLF := Lib.hid fun w' h k => rhalf_any A1 A3 n1 c1 n3 c3 zs cs w' h k (by omega)
    have RSN := Lib.hid fun w' h k => risen_any A1 A4 n1 c1 n4 c4 zs ss w' h k
    have RRSN := Lib.hid fun w' h k => rrisen_any A1 A4 n1 c1 n4 c4 zs ss w' h k
    generalize blankN n = zb at *
    generalize blankB zs = b1 at *
    generalize canN zs bs = b2 at *
    generalize progN zs bs = zp at *
    generalize tornN zs bs cs = zt at *
    generalize betweenN zs bs ss = b3 at *
    generalize halfN zs cs = zh at *
    generalize canN ss zs = b4 at *
    have q1 : (b1 == b1) = true := by simp
    have q2 : (b2 == b2) = true := by simp
    have q3 : (b3 == b3) = true := by simp
    have q4 : (b4 == b4) = true := by simp
    obtain ⟨sb, Hsb⟩ : ∃ s, Hid (strOf zb = s) := ⟨_, rfl⟩
    have qsb : (sb.toList == sb.toList) = true := by simp
    obtain ⟨sp, Hsp⟩ : ∃ s, Hid (strOf zp = s) := ⟨_, rfl⟩
    have qsp : (sp.toList == sp.toList) = true := by simp
    obtain ⟨st, Hst⟩ : ∃ s, Hid (strOf zt = s) := ⟨_, rfl⟩
    have qst : (st.toList == st.toList) = true := by simp
    obtain ⟨sh, Hsh⟩ : ∃ s, Hid (strOf zh = s) := ⟨_, rfl⟩
    have qsh : (sh.toList == sh.toList) = true := by simp
    have H1 := Lib.hid h1
    have H2 := Lib.hid h2
    have H3 := Lib.hid h3
    have H4 := Lib.hid h4
    clear h1 h2 h3 h4
    go_enter Try.func4, Try.ntmps4
    go_wp2_with fail
    refine (alive1_any _).mono ?_
    rintro e w1 ⟨rfl, B1⟩
    have K1 : Hid (Keeps (fun b => w.heap.size ≤ b) w w1) := ⟨B1.os, B1.tape, B1.output, B1.size, fun k hk _ => B1.block k hk⟩
    clear B1
    go_wp2_with fail
    refine (SH.out _).mono ?_
    rintro e w' ⟨rfl, rfl⟩
    go_wp2
    obtain ⟨mS, mh⟩ : ∃ S : World → Prop, ∀ w', S w' ↔ (True) := ⟨_, fun _ => Iff.rfl⟩
    have mn : Nonempty (Memb mS) := ⟨⟨(w1).drew, (mh _).2 trivial⟩⟩
    have mH := Lib.hid mh
    clear mh
    refine wp_region_mix2 [1, 4, 9, 11, 17, 20, 26, 30, 38, 43, 51, 55, 61, 65, 72, 75] (InS mS) (by kernel_rfl) (by kernel_rfl) (InS.mk ((mH.out _).2 trivial)) ?_
    refine wpMix2_seg 1 (InS mS) (by kernel_rfl) (by decide) (cl_base [] rfl (by kernel_rfl)) ?_
    simp only [List.append_eq, List.cons_append, List.nil_append, List.take_succ_cons, List.take_zero, List.drop_succ_cons, List.drop_zero]
    repeat (go_big_quiet_step (fail))
    refine wpQuiet_nil ?_
    refine wpMix2_eff (by kernel_rfl) ?_
    go_wp2_with fail
    refine (BL.out _ ).mono ?_
    rintro e w20 ⟨v2, rfl, o2, k2⟩
    obtain ⟨A20, cap2, rfl, bs2, -⟩ := o2.shape
    have BS2 := Lib.hid bs2
    have K2 : Hid (Keeps (fun b => w.heap.size ≤ b) w w20) := K1.out.drew.trans k2 (fun _ h => h) (fun _ _ h => h.elim)
    clear o2 bs2 k2
    go_wp2
    obtain ⟨mL2S, mL2h⟩ : ∃ S : World → Prop, ∀ w', S w' ↔ (((convert 22 9 (.slice A20 zb.length cap2)).run Try.prog w' = .ok (.string sb) w')) := ⟨_, fun _ => Iff.rfl⟩
    have mL2k0 : ∀ x : Memb mL2S, (convert 22 9 (.slice A20 zb.length cap2)).run Try.prog x.at_ = .ok (.string sb) x.at_ := fun x => ((mL2h _).1 x.is)
    have mL2n : Nonempty (Memb mL2S) := ⟨⟨_, (mL2h _).2 (Hsb.out ▸ run_str BS2.out)⟩⟩
    have mL2H := Lib.hid mL2h
    clear mL2h
    refine MixK2.late (D := InS mL2S) (x := 2) (by kernel_rfl) (cls_cons (InS.mk ((mL2H.out _).2 (Hsb.out ▸ run_str BS2.out))) (cls_base (InS.mk ((mH.out _).2 trivial)))) ?_
    refine wpMix2_seg 1 (InS mL2S) (by kernel_rfl) (by decide) (cl_one rfl) ?_
    simp only [List.append_eq, List.cons_append, List.nil_append, List.take_succ_cons, List.take_zero, List.drop_succ_cons, List.drop_zero]
    repeat (first | go_big_quiet_step (fail) | (go_big_quiet_want; first | refine quiet_conv mL2k0 rfl rfl rfl (by simp only [Act.put, List.setIfInBounds_toArray, List.set_cons_succ, List.set_cons_zero]; rfl) ?_; go_big_quiet_on))
    refine wpQuiet_nil ?_
    refine wpMix2_seg 1 (InS mS) (by kernel_rfl) (by decide) (cl_base [2] rfl (by kernel_rfl)) ?_
    simp only [List.append_eq, List.cons_append, List.nil_append, List.take_succ_cons, List.take_zero, List.drop_succ_cons, List.drop_zero]
    repeat (first | go_big_quiet_step (fail) | (go_big_quiet_want; first | refine quiet_conv mL2k0 rfl rfl rfl (by simp only [Act.put, List.setIfInBounds_toArray, List.set_cons_succ, List.set_cons_zero]; rfl) ?_; go_big_quiet_on))
    refine wpQuiet_nil ?_
    refine wpMix2_eff (by kernel_rfl) ?_
    go_wp2_with fail
    refine (RBL.out _ ).mono ?_
    rintro e w30 ⟨v3, rfl, o3, k3⟩
    obtain ⟨A30, cap3, rfl, bs3, -⟩ := o3.shape
    have BS3 := Lib.hid bs3
    have K3 : Hid (Keeps (fun b => w.heap.size ≤ b) w w30) := K2.out.trans k3 (fun _ h => h) (fun _ _ h => h.elim)
    have BS2q := Lib.hid (BS2.out.keeps k3 (fun _ _ _ _ _ h => h))
    clear o3 bs3 k3
    go_wp2
    obtain ⟨mL5S, mL5h⟩ : ∃ S : World → Prop, ∀ w', S w' ↔ (((convert 22 9 (.slice A30 zb.length cap3)).run Try.prog w' = .ok (.string sb) w')) := ⟨_, fun _ => Iff.rfl⟩
    have mL5k0 : ∀ x : Memb mL5S, (convert 22 9 (.slice A30 zb.length cap3)).run Try.prog x.at_ = .ok (.string sb) x.at_ := fun x => ((mL5h _).1 x.is)
    have mL5n : Nonempty (Memb mL5S) := ⟨⟨_, (mL5h _).2 (Hsb.out ▸ run_str BS3.out)⟩⟩
    have mL5H := Lib.hid mL5h
    clear mL5h
    refine MixK2.late (D := InS mL5S) (x := 5) (by kernel_rfl) (cls_cons (InS.mk ((mL5H.out _).2 (Hsb.out ▸ run_str BS3.out))) (cls_cons (InS.mk ((mL2H.out _).2 (Hsb.out ▸ run_str BS2q.out))) (cls_base (InS.mk ((mH.out _).2 trivial))))) ?_
    refine wpMix2_seg 1 (InS mL5S) (by kernel_rfl) (by decide) (cl_one rfl) ?_
    simp only [List.append_eq, List.cons_append, List.nil_append, List.take_succ_cons, List.take_zero, List.drop_succ_cons, List.drop_zero]
    repeat (first | go_big_quiet_step (fail) | (go_big_quiet_want; first | refine quiet_conv mL2k0 rfl rfl rfl (by simp only [Act.put, List.setIfInBounds_toArray, List.set_cons_succ, List.set_cons_zero]; rfl) ?_; go_big_quiet_on | refine quiet_conv mL5k0 rfl rfl rfl (by simp only [Act.put, List.setIfInBounds_toArray, List.set_cons_succ, List.set_cons_zero]; rfl) ?_; go_big_quiet_on))
    refine wpQuiet_nil ?_
    refine wpMix2_seg 3 (InS mS) (by kernel_rfl) (by decide) (cl_base [5, 2] rfl (by kernel_rfl)) ?_
    simp only [List.append_eq, List.cons_append, List.nil_append, List.take_succ_cons, List.take_zero, List.drop_succ_cons, List.drop_zero]
    repeat (first | go_big_quiet_step (fail) | (go_big_quiet_want; first | refine quiet_conv mL2k0 rfl rfl rfl (by simp only [Act.put, List.setIfInBounds_toArray, List.set_cons_succ, List.set_cons_zero]; rfl) ?_; go_big_quiet_on | refine quiet_conv mL5k0 rfl rfl rfl (by simp only [Act.put, List.setIfInBounds_toArray, List.set_cons_succ, List.set_cons_zero]; rfl) ?_; go_big_quiet_on))
    refine wpQuiet_nil ?_
    refine wpMix2_eff (by kernel_rfl) ?_
    go_wp2_with fail
    refine (IB.out _ (H1.out.later K3.out)).mono ?_
    rintro e w' ⟨rfl, rfl⟩
    go_wp2
    refine MixK2.on (cls_skip (by kernel_rfl) (cls_skip (by kernel_rfl) (cls_base (InS.mk ((mH.out _).2 trivial))))) ?_
    refine wpMix2_seg 1 (InS mS) (by kernel_rfl) (by decide) (cl_base [5, 2] rfl (by kernel_rfl)) ?_
    simp only [List.append_eq, List.cons_append, List.nil_append, List.take_succ_cons, List.take_zero, List.drop_succ_cons, List.drop_zero]
    repeat (first | go_big_quiet_step (fail) | (go_big_quiet_want; first | refine quiet_conv mL2k0 rfl rfl rfl (by simp only [Act.put, List.setIfInBounds_toArray, List.set_cons_succ, List.set_cons_zero]; rfl) ?_; go_big_quiet_on | refine quiet_conv mL5k0 rfl rfl rfl (by simp only [Act.put, List.setIfInBounds_toArray, List.set_cons_succ, List.set_cons_zero]; rfl) ?_; go_big_quiet_on))
    refine wpQuiet_nil ?_
    refine wpMix2_eff (by kernel_rfl) ?_
    go_wp2_with fail
    refine (RIB.out _ (H1.out.later K3.out)).mono ?_
    rintro e w' ⟨rfl, rfl⟩
    go_wp2
    refine MixK2.on (cls_skip (by kernel_rfl) (cls_skip (by kernel_rfl) (cls_base (InS.mk ((mH.out _).2 trivial))))) ?_
    refine wpMix2_seg 5 (InS mS) (by kernel_rfl) (by decide) (cl_base [5, 2] rfl (by kernel_rfl)) ?_
    simp only [List.append_eq, List.cons_append, List.nil_append, List.take_succ_cons, List.take_zero, List.drop_succ_cons, List.drop_zero]
    repeat (first | go_big_quiet_step (fail) | (go_big_quiet_want; first | refine quiet_conv mL2k0 rfl rfl rfl (by simp only [Act.put, List.setIfInBounds_toArray, List.set_cons_succ, List.set_cons_zero]; rfl) ?_; go_big_quiet_on | refine quiet_conv mL5k0 rfl rfl rfl (by simp only [Act.put, List.setIfInBounds_toArray, List.set_cons_succ, List.set_cons_zero]; rfl) ?_; go_big_quiet_on))
    refine wpQuiet_nil ?_
    refine wpMix2_eff (by kernel_rfl) ?_
    go_wp2_with fail
    refine (CAN.out _ (H1.out.later K3.out) (H2.out.later K3.out)).mono ?_
    rintro e w60 ⟨rfl, hm6⟩
    have K6 : Hid (Keeps (fun b => w.heap.size ≤ b) w w60) := by obtain ⟨m, hm⟩ := hm6; rw [hm]; exact K3.out.drewN m
    clear hm6
    go_wp2
    refine MixK2.on (cls_skip (by kernel_rfl) (cls_skip (by kernel_rfl) (cls_base (InS.mk ((mH.out _).2 trivial))))) ?_
    refine wpMix2_seg 2 (InS mS) (by kernel_rfl) (by decide) (cl_base [5, 2] rfl (by kernel_rfl)) ?_
    simp only [List.append_eq, List.cons_append, List.nil_append, List.take_succ_cons, List.take_zero, List.drop_succ_cons, List.drop_zero]
    repeat (first | go_big_quiet_step (fail) | (go_big_quiet_want; first | refine quiet_conv mL2k0 rfl rfl rfl (by simp only [Act.put, List.setIfInBounds_toArray, List.set_cons_succ, List.set_cons_zero]; rfl) ?_; go_big_quiet_on | refine quiet_conv mL5k0 rfl rfl rfl (by simp only [Act.put, List.setIfInBounds_toArray, List.set_cons_succ, List.set_cons_zero]; rfl) ?_; go_big_quiet_on))
    refine wpQuiet_nil ?_
    refine wpMix2_eff (by kernel_rfl) ?_
    go_wp2_with fail
    refine (RCAN.out _ (H1.out.later K6.out) (H2.out.later K6.out)).mono ?_
    rintro e w70 ⟨rfl, hm7⟩
    have K7 : Hid (Keeps (fun b => w.heap.size ≤ b) w w70) := by obtain ⟨m, hm⟩ := hm7; rw [hm]; exact K6.out.drewN m
    clear hm7
    go_wp2
    refine MixK2.on (cls_skip (by kernel_rfl) (cls_skip (by kernel_rfl) (cls_base (InS.mk ((mH.out _).2 trivial))))) ?_
    refine wpMix2_seg 5 (InS mS) (by kernel_rfl) (by decide) (cl_base [5, 2] rfl (by kernel_rfl)) ?_
    simp only [List.append_eq, List.cons_append, List.nil_append, List.take_succ_cons, List.take_zero, List.drop_succ_cons, List.drop_zero]
    repeat (first | go_big_quiet_step (fail) | (go_big_quiet_want; first | refine quiet_conv mL2k0 rfl rfl rfl (by simp only [Act.put, List.setIfInBounds_toArray, List.set_cons_succ, List.set_cons_zero]; rfl) ?_; go_big_quiet_on | refine quiet_conv mL5k0 rfl rfl rfl (by simp only [Act.put, List.setIfInBounds_toArray, List.set_cons_succ, List.set_cons_zero]; rfl) ?_; go_big_quiet_on))
    refine wpQuiet_nil ?_
    refine wpMix2_eff (by kernel_rfl) ?_
    go_wp2_with fail
    refine (PRG.out _ (H1.out.later K7.out) (H2.out.later K7.out)).mono ?_
    rintro e w80 ⟨v8, rfl, o8, k8⟩
    obtain ⟨A80, cap8, rfl, bs8, -⟩ := o8.shape
    have BS8 := Lib.hid bs8
    have K8 : Hid (Keeps (fun b => w.heap.size ≤ b) w w80) := K7.out.trans k8 (fun _ h => h) (fun _ _ h => h.elim)
    clear o8 bs8 k8
    go_wp2
    obtain ⟨mL27S, mL27h⟩ : ∃ S : World → Prop, ∀ w', S w' ↔ (((convert 22 9 (.slice A80 zp.length cap8)).run Try.prog w' = .ok (.string sp) w')) := ⟨_, fun _ => Iff.rfl⟩
    have mL27k0 : ∀ x : Memb mL27S, (convert 22 9 (.slice A80 zp.length cap8)).run Try.prog x.at_ = .ok (.string sp) x.at_ := fun x => ((mL27h _).1 x.is)
    have mL27n : Nonempty (Memb mL27S) := ⟨⟨_, (mL27h _).2 (Hsp.out ▸ run_str BS8.out)⟩⟩
    have mL27H := Lib.hid mL27h
    clear mL27h
    refine MixK2.late (D := InS mL27S) (x := 27) (by kernel_rfl) (cls_cons (InS.mk ((mL27H.out _).2 (Hsp.out ▸ run_str BS8.out))) (cls_skip (by kernel_rfl) (cls_skip (by kernel_rfl) (cls_base (InS.mk ((mH.out _).2 trivial)))))) ?_
    refine wpMix2_seg 1 (InS mL27S) (by kernel_rfl) (by decide) (cl_one rfl) ?_
    simp only [List.append_eq, List.cons_append, List.nil_append, List.take_succ_cons, List.take_zero, List.drop_succ_cons, List.drop_zero]
    repeat (first | go_big_quiet_step (fail) | (go_big_quiet_want; first | refine quiet_conv mL2k0 rfl rfl rfl (by simp only [Act.put, List.setIfInBounds_toArray, List.set_cons_succ, List.set_cons_zero]; rfl) ?_; go_big_quiet_on | refine quiet_conv mL5k0 rfl rfl rfl (by simp only [Act.put, List.setIfInBounds_toArray, List.set_cons_succ, List.set_cons_zero]; rfl) ?_; go_big_quiet_on | refine quiet_conv mL27k0 rfl rfl rfl (by simp only [Act.put, List.setIfInBounds_toArray, List.set_cons_succ, List.set_cons_zero]; rfl) ?_; go_big_quiet_on))
    refine wpQuiet_nil ?_
    refine wpMix2_seg 2 (InS mS) (by kernel_rfl) (by decide) (cl_base [27, 5, 2] rfl (by kernel_rfl)) ?_
    simp only [List.append_eq, List.cons_append, List.nil_append, List.take_succ_cons, List.take_zero, List.drop_succ_cons, List.drop_zero]
    repeat (first | go_big_quiet_step (fail) | (go_big_quiet_want; first | refine quiet_conv mL2k0 rfl rfl rfl (by simp only [Act.put, List.setIfInBounds_toArray, List.set_cons_succ, List.set_cons_zero]; rfl) ?_; go_big_quiet_on | refine quiet_conv mL5k0 rfl rfl rfl (by simp only [Act.put, List.setIfInBounds_toArray, List.set_cons_succ, List.set_cons_zero]; rfl) ?_; go_big_quiet_on | refine quiet_conv mL27k0 rfl rfl rfl (by simp only [Act.put, List.setIfInBounds_toArray, List.set_cons_succ, List.set_cons_zero]; rfl) ?_; go_big_quiet_on))
    refine wpQuiet_nil ?_
    refine wpMix2_eff (by kernel_rfl) ?_
    go_wp2_with fail
    refine (RPRG.out _ (H1.out.later K8.out) (H2.out.later K8.out)).mono ?_
    rintro e w90 ⟨v9, rfl, o9, k9⟩
    obtain ⟨A90, cap9, rfl, bs9, -⟩ := o9.shape
    have BS9 := Lib.hid bs9
    have K9 : Hid (Keeps (fun b => w.heap.size ≤ b) w w90) := K8.out.trans k9 (fun _ h => h) (fun _ _ h => h.elim)
    have BS8q := Lib.hid (BS8.out.keeps k9 (fun _ _ _ _ _ h => h))
    clear o9 bs9 k9
    go_wp2
    obtain ⟨mL31S, mL31h⟩ : ∃ S : World → Prop, ∀ w', S w' ↔ (((convert 22 9 (.slice A90 zp.length cap9)).run Try.prog w' = .ok (.string sp) w')) := ⟨_, fun _ => Iff.rfl⟩
    have mL31k0 : ∀ x : Memb mL31S, (convert 22 9 (.slice A90 zp.length cap9)).run Try.prog x.at_ = .ok (.string sp) x.at_ := fun x => ((mL31h _).1 x.is)
    have mL31n : Nonempty (Memb mL31S) := ⟨⟨_, (mL31h _).2 (Hsp.out ▸ run_str BS9.out)⟩⟩
    have mL31H := Lib.hid mL31h
    clear mL31h
    refine MixK2.late (D := InS mL31S) (x := 31) (by kernel_rfl) (cls_cons (InS.mk ((mL31H.out _).2 (Hsp.out ▸ run_str BS9.out))) (cls_cons (InS.mk ((mL27H.out _).2 (Hsp.out ▸ run_str BS8q.out))) (cls_skip (by kernel_rfl) (cls_skip (by kernel_rfl) (cls_base (InS.mk ((mH.out _).2 trivial))))))) ?_
    refine wpMix2_seg 1 (InS mL31S) (by kernel_rfl) (by decide) (cl_one rfl) ?_
    simp only [List.append_eq, List.cons_append, List.nil_append, List.take_succ_cons, List.take_zero, List.drop_succ_cons, List.drop_zero]
    repeat (first | go_big_quiet_step (fail) | (go_big_quiet_want; first | refine quiet_conv mL2k0 rfl rfl rfl (by simp only [Act.put, List.setIfInBounds_toArray, List.set_cons_succ, List.set_cons_zero]; rfl) ?_; go_big_quiet_on | refine quiet_conv mL5k0 rfl rfl rfl (by simp only [Act.put, List.setIfInBounds_toArray, List.set_cons_succ, List.set_cons_zero]; rfl) ?_; go_big_quiet_on | refine quiet_conv mL27k0 rfl rfl rfl (by simp only [Act.put, List.setIfInBounds_toArray, List.set_cons_succ, List.set_cons_zero]; rfl) ?_; go_big_quiet_on | refine quiet_conv mL31k0 rfl rfl rfl (by simp only [Act.put, List.setIfInBounds_toArray, List.set_cons_succ, List.set_cons_zero]; rfl) ?_; go_big_quiet_on))
    refine wpQuiet_nil ?_
    refine wpMix2_seg 6 (InS mS) (by kernel_rfl) (by decide) (cl_base [31, 27, 5, 2] rfl (by kernel_rfl)) ?_
    simp only [List.append_eq, List.cons_append, List.nil_append, List.take_succ_cons, List.take_zero, List.drop_succ_cons, List.drop_zero]
    repeat (first | go_big_quiet_step (fail) | (go_big_quiet_want; first | refine quiet_conv mL2k0 rfl rfl rfl (by simp only [Act.put, List.setIfInBounds_toArray, List.set_cons_succ, List.set_cons_zero]; rfl) ?_; go_big_quiet_on | refine quiet_conv mL5k0 rfl rfl rfl (by simp only [Act.put, List.setIfInBounds_toArray, List.set_cons_succ, List.set_cons_zero]; rfl) ?_; go_big_quiet_on | refine quiet_conv mL27k0 rfl rfl rfl (by simp only [Act.put, List.setIfInBounds_toArray, List.set_cons_succ, List.set_cons_zero]; rfl) ?_; go_big_quiet_on | refine quiet_conv mL31k0 rfl rfl rfl (by simp only [Act.put, List.setIfInBounds_toArray, List.set_cons_succ, List.set_cons_zero]; rfl) ?_; go_big_quiet_on))
    refine wpQuiet_nil ?_
    refine wpMix2_eff (by kernel_rfl) ?_
    go_wp2_with fail
    refine (TRN.out _ (H1.out.later K9.out) (H2.out.later K9.out) (H3.out.later K9.out)).mono ?_
    rintro e w100 ⟨v10, rfl, o10, k10⟩
    obtain ⟨A100, cap10, rfl, bs10, -⟩ := o10.shape
    have BS10 := Lib.hid bs10
    have K10 : Hid (Keeps (fun b => w.heap.size ≤ b) w w100) := K9.out.trans k10 (fun _ h => h) (fun _ _ h => h.elim)
    clear o10 bs10 k10
    go_wp2
    obtain ⟨mL39S, mL39h⟩ : ∃ S : World → Prop, ∀ w', S w' ↔ (((convert 22 9 (.slice A100 zt.length cap10)).run Try.prog w' = .ok (.string st) w')) := ⟨_, fun _ => Iff.rfl⟩
    have mL39k0 : ∀ x : Memb mL39S, (convert 22 9 (.slice A100 zt.length cap10)).run Try.prog x.at_ = .ok (.string st) x.at_ := fun x => ((mL39h _).1 x.is)
    have mL39n : Nonempty (Memb mL39S) := ⟨⟨_, (mL39h _).2 (Hst.out ▸ run_str BS10.out)⟩⟩
    have mL39H := Lib.hid mL39h
    clear mL39h
    refine MixK2.late (D := InS mL39S) (x := 39) (by kernel_rfl) (cls_cons (InS.mk ((mL39H.out _).2 (Hst.out ▸ run_str BS10.out))) (cls_skip (by kernel_rfl) (cls_skip (by kernel_rfl) (cls_skip (by kernel_rfl) (cls_skip (by kernel_rfl) (cls_base (InS.mk ((mH.out _).2 trivial)))))))) ?_
    refine wpMix2_seg 1 (InS mL39S) (by kernel_rfl) (by decide) (cl_one rfl) ?_
    simp only [List.append_eq, List.cons_append, List.nil_append, List.take_succ_cons, List.take_zero, List.drop_succ_cons, List.drop_zero]
    repeat (first | go_big_quiet_step (fail) | (go_big_quiet_want; first | refine quiet_conv mL2k0 rfl rfl rfl (by simp only [Act.put, List.setIfInBounds_toArray, List.set_cons_succ, List.set_cons_zero]; rfl) ?_; go_big_quiet_on | refine quiet_conv mL5k0 rfl rfl rfl (by simp only [Act.put, List.setIfInBounds_toArray, List.set_cons_succ, List.set_cons_zero]; rfl) ?_; go_big_quiet_on | refine quiet_conv mL27k0 rfl rfl rfl (by simp only [Act.put, List.setIfInBounds_toArray, List.set_cons_succ, List.set_cons_zero]; rfl) ?_; go_big_quiet_on | refine quiet_conv mL31k0 rfl rfl rfl (by simp only [Act.put, List.setIfInBounds_toArray, List.set_cons_succ, List.set_cons_zero]; rfl) ?_; go_big_quiet_on | refine quiet_conv mL39k0 rfl rfl rfl (by simp only [Act.put, List.setIfInBounds_toArray, List.set_cons_succ, List.set_cons_zero]; rfl) ?_; go_big_quiet_on))
    refine wpQuiet_nil ?_
    refine wpMix2_seg 3 (InS mS) (by kernel_rfl) (by decide) (cl_base [39, 31, 27, 5, 2] rfl (by kernel_rfl)) ?_
    simp only [List.append_eq, List.cons_append, List.nil_append, List.take_succ_cons, List.take_zero, List.drop_succ_cons, List.drop_zero]
    repeat (first | go_big_quiet_step (fail) | (go_big_quiet_want; first | refine quiet_conv mL2k0 rfl rfl rfl (by simp only [Act.put, List.setIfInBounds_toArray, List.set_cons_succ, List.set_cons_zero]; rfl) ?_; go_big_quiet_on | refine quiet_conv mL5k0 rfl rfl rfl (by simp only [Act.put, List.setIfInBounds_toArray, List.set_cons_succ, List.set_cons_zero]; rfl) ?_; go_big_quiet_on | refine quiet_conv mL27k0 rfl rfl rfl (by simp only [Act.put, List.setIfInBounds_toArray, List.set_cons_succ, List.set_cons_zero]; rfl) ?_; go_big_quiet_on | refine quiet_conv mL31k0 rfl rfl rfl (by simp only [Act.put, List.setIfInBounds_toArray, List.set_cons_succ, List.set_cons_zero]; rfl) ?_; go_big_quiet_on | refine quiet_conv mL39k0 rfl rfl rfl (by simp only [Act.put, List.setIfInBounds_toArray, List.set_cons_succ, List.set_cons_zero]; rfl) ?_; go_big_quiet_on))
    refine wpQuiet_nil ?_
    refine wpMix2_eff (by kernel_rfl) ?_
    go_wp2_with fail
    refine (RTRN.out _ (H1.out.later K10.out) (H2.out.later K10.out) (H3.out.later K10.out)).mono ?_
    rintro e w110 ⟨v11, rfl, o11, k11⟩
    obtain ⟨A110, cap11, rfl, bs11, -⟩ := o11.shape
    have BS11 := Lib.hid bs11
    have K11 : Hid (Keeps (fun b => w.heap.size ≤ b) w w110) := K10.out.trans k11 (fun _ h => h) (fun _ _ h => h.elim)
    have BS10q := Lib.hid (BS10.out.keeps k11 (fun _ _ _ _ _ h => h))
    clear o11 bs11 k11
    go_wp2
    obtain ⟨mL44S, mL44h⟩ : ∃ S : World → Prop, ∀ w', S w' ↔ (((convert 22 9 (.slice A110 zt.length cap11)).run Try.prog w' = .ok (.string st) w')) := ⟨_, fun _ => Iff.rfl⟩
    have mL44k0 : ∀ x : Memb mL44S, (convert 22 9 (.slice A110 zt.length cap11)).run Try.prog x.at_ = .ok (.string st) x.at_ := fun x => ((mL44h _).1 x.is)
    have mL44n : Nonempty (Memb mL44S) := ⟨⟨_, (mL44h _).2 (Hst.out ▸ run_str BS11.out)⟩⟩
    have mL44H := Lib.hid mL44h
    clear mL44h
    refine MixK2.late (D := InS mL44S) (x := 44) (by kernel_rfl) (cls_cons (InS.mk ((mL44H.out _).2 (Hst.out ▸ run_str BS11.out))) (cls_cons (InS.mk ((mL39H.out _).2 (Hst.out ▸ run_str BS10q.out))) (cls_skip (by kernel_rfl) (cls_skip (by kernel_rfl) (cls_skip (by kernel_rfl) (cls_skip (by kernel_rfl) (cls_base (InS.mk ((mH.out _).2 trivial))))))))) ?_
    refine wpMix2_seg 1 (InS mL44S) (by kernel_rfl) (by decide) (cl_one rfl) ?_
    simp only [List.append_eq, List.cons_append, List.nil_append, List.take_succ_cons, List.take_zero, List.drop_succ_cons, List.drop_zero]
    repeat (first | go_big_quiet_step (fail) | (go_big_quiet_want; first | refine quiet_conv mL2k0 rfl rfl rfl (by simp only [Act.put, List.setIfInBounds_toArray, List.set_cons_succ, List.set_cons_zero]; rfl) ?_; go_big_quiet_on | refine quiet_conv mL5k0 rfl rfl rfl (by simp only [Act.put, List.setIfInBounds_toArray, List.set_cons_succ, List.set_cons_zero]; rfl) ?_; go_big_quiet_on | refine quiet_conv mL27k0 rfl rfl rfl (by simp only [Act.put, List.setIfInBounds_toArray, List.set_cons_succ, List.set_cons_zero]; rfl) ?_; go_big_quiet_on | refine quiet_conv mL31k0 rfl rfl rfl (by simp only [Act.put, List.setIfInBounds_toArray, List.set_cons_succ, List.set_cons_zero]; rfl) ?_; go_big_quiet_on | refine quiet_conv mL39k0 rfl rfl rfl (by simp only [Act.put, List.setIfInBounds_toArray, List.set_cons_succ, List.set_cons_zero]; rfl) ?_; go_big_quiet_on | refine quiet_conv mL44k0 rfl rfl rfl (by simp only [Act.put, List.setIfInBounds_toArray, List.set_cons_succ, List.set_cons_zero]; rfl) ?_; go_big_quiet_on))
    refine wpQuiet_nil ?_
    refine wpMix2_seg 6 (InS mS) (by kernel_rfl) (by decide) (cl_base [44, 39, 31, 27, 5, 2] rfl (by kernel_rfl)) ?_
    simp only [List.append_eq, List.cons_append, List.nil_append, List.take_succ_cons, List.take_zero, List.drop_succ_cons, List.drop_zero]
    repeat (first | go_big_quiet_step (fail) | (go_big_quiet_want; first | refine quiet_conv mL2k0 rfl rfl rfl (by simp only [Act.put, List.setIfInBounds_toArray, List.set_cons_succ, List.set_cons_zero]; rfl) ?_; go_big_quiet_on | refine quiet_conv mL5k0 rfl rfl rfl (by simp only [Act.put, List.setIfInBounds_toArray, List.set_cons_succ, List.set_cons_zero]; rfl) ?_; go_big_quiet_on | refine quiet_conv mL27k0 rfl rfl rfl (by simp only [Act.put, List.setIfInBounds_toArray, List.set_cons_succ, List.set_cons_zero]; rfl) ?_; go_big_quiet_on | refine quiet_conv mL31k0 rfl rfl rfl (by simp only [Act.put, List.setIfInBounds_toArray, List.set_cons_succ, List.set_cons_zero]; rfl) ?_; go_big_quiet_on | refine quiet_conv mL39k0 rfl rfl rfl (by simp only [Act.put, List.setIfInBounds_toArray, List.set_cons_succ, List.set_cons_zero]; rfl) ?_; go_big_quiet_on | refine quiet_conv mL44k0 rfl rfl rfl (by simp only [Act.put, List.setIfInBounds_toArray, List.set_cons_succ, List.set_cons_zero]; rfl) ?_; go_big_quiet_on))
    refine wpQuiet_nil ?_
    refine wpMix2_eff (by kernel_rfl) ?_
    go_wp2_with fail
    refine (BTW.out _ (H1.out.later K11.out) (H2.out.later K11.out) (H4.out.later K11.out)).mono ?_
    rintro e w120 ⟨rfl, hm12⟩
    have K12 : Hid (Keeps (fun b => w.heap.size ≤ b) w w120) := by obtain ⟨m, hm⟩ := hm12; rw [hm]; exact K11.out.drewN m
    clear hm12
    go_wp2
    refine MixK2.on (cls_skip (by kernel_rfl) (cls_skip (by kernel_rfl) (cls_skip (by kernel_rfl) (cls_skip (by kernel_rfl) (cls_skip (by kernel_rfl) (cls_skip (by kernel_rfl) (cls_base (InS.mk ((mH.out _).2 trivial))))))))) ?_
    refine wpMix2_seg 3 (InS mS) (by kernel_rfl) (by decide) (cl_base [44, 39, 31, 27, 5, 2] rfl (by kernel_rfl)) ?_
    simp only [List.append_eq, List.cons_append, List.nil_append, List.take_succ_cons, List.take_zero, List.drop_succ_cons, List.drop_zero]
    repeat (first | go_big_quiet_step (fail) | (go_big_quiet_want; first | refine quiet_conv mL2k0 rfl rfl rfl (by simp only [Act.put, List.setIfInBounds_toArray, List.set_cons_succ, List.set_cons_zero]; rfl) ?_; go_big_quiet_on | refine quiet_conv mL5k0 rfl rfl rfl (by simp only [Act.put, List.setIfInBounds_toArray, List.set_cons_succ, List.set_cons_zero]; rfl) ?_; go_big_quiet_on | refine quiet_conv mL27k0 rfl rfl rfl (by simp only [Act.put, List.setIfInBounds_toArray, List.set_cons_succ, List.set_cons_zero]; rfl) ?_; go_big_quiet_on | refine quiet_conv mL31k0 rfl rfl rfl (by simp only [Act.put, List.setIfInBounds_toArray, List.set_cons_succ, List.set_cons_zero]; rfl) ?_; go_big_quiet_on | refine quiet_conv mL39k0 rfl rfl rfl (by simp only [Act.put, List.setIfInBounds_toArray, List.set_cons_succ, List.set_cons_zero]; rfl) ?_; go_big_quiet_on | refine quiet_conv mL44k0 rfl rfl rfl (by simp only [Act.put, List.setIfInBounds_toArray, List.set_cons_succ, List.set_cons_zero]; rfl) ?_; go_big_quiet_on))
    refine wpQuiet_nil ?_
    refine wpMix2_eff (by kernel_rfl) ?_
    go_wp2_with fail
    refine (RBTW.out _ (H1.out.later K12.out) (H2.out.later K12.out) (H4.out.later K12.out)).mono ?_
    rintro e w130 ⟨rfl, hm13⟩
    have K13 : Hid (Keeps (fun b => w.heap.size ≤ b) w w130) := by obtain ⟨m, hm⟩ := hm13; rw [hm]; exact K12.out.drewN m
    clear hm13
    go_wp2
    refine MixK2.on (cls_skip (by kernel_rfl) (cls_skip (by kernel_rfl) (cls_skip (by kernel_rfl) (cls_skip (by kernel_rfl) (cls_skip (by kernel_rfl) (cls_skip (by kernel_rfl) (cls_base (InS.mk ((mH.out _).2 trivial))))))))) ?_
    refine wpMix2_seg 5 (InS mS) (by kernel_rfl) (by decide) (cl_base [44, 39, 31, 27, 5, 2] rfl (by kernel_rfl)) ?_
    simp only [List.append_eq, List.cons_append, List.nil_append, List.take_succ_cons, List.take_zero, List.drop_succ_cons, List.drop_zero]
    repeat (first | go_big_quiet_step (fail) | (go_big_quiet_want; first | refine quiet_conv mL2k0 rfl rfl rfl (by simp only [Act.put, List.setIfInBounds_toArray, List.set_cons_succ, List.set_cons_zero]; rfl) ?_; go_big_quiet_on | refine quiet_conv mL5k0 rfl rfl rfl (by simp only [Act.put, List.setIfInBounds_toArray, List.set_cons_succ, List.set_cons_zero]; rfl) ?_; go_big_quiet_on | refine quiet_conv mL27k0 rfl rfl rfl (by simp only [Act.put, List.setIfInBounds_toArray, List.set_cons_succ, List.set_cons_zero]; rfl) ?_; go_big_quiet_on | refine quiet_conv mL31k0 rfl rfl rfl (by simp only [Act.put, List.setIfInBounds_toArray, List.set_cons_succ, List.set_cons_zero]; rfl) ?_; go_big_quiet_on | refine quiet_conv mL39k0 rfl rfl rfl (by simp only [Act.put, List.setIfInBounds_toArray, List.set_cons_succ, List.set_cons_zero]; rfl) ?_; go_big_quiet_on | refine quiet_conv mL44k0 rfl rfl rfl (by simp only [Act.put, List.setIfInBounds_toArray, List.set_cons_succ, List.set_cons_zero]; rfl) ?_; go_big_quiet_on))
    refine wpQuiet_nil ?_
    refine wpMix2_eff (by kernel_rfl) ?_
    go_wp2_with fail
    refine (HLF.out _ (H1.out.later K13.out) (H3.out.later K13.out)).mono ?_
    rintro e w140 ⟨v14, rfl, o14, k14⟩
    obtain ⟨A140, cap14, rfl, bs14, -⟩ := o14.shape
    have BS14 := Lib.hid bs14
    have K14 : Hid (Keeps (fun b => w.heap.size ≤ b) w w140) := K13.out.trans k14 (fun _ h => h) (fun _ _ h => h.elim)
    clear o14 bs14 k14
    go_wp2
    obtain ⟨mL62S, mL62h⟩ : ∃ S : World → Prop, ∀ w', S w' ↔ (((convert 22 9 (.slice A140 zh.length cap14)).run Try.prog w' = .ok (.string sh) w')) := ⟨_, fun _ => Iff.rfl⟩
    have mL62k0 : ∀ x : Memb mL62S, (convert 22 9 (.slice A140 zh.length cap14)).run Try.prog x.at_ = .ok (.string sh) x.at_ := fun x => ((mL62h _).1 x.is)
    have mL62n : Nonempty (Memb mL62S) := ⟨⟨_, (mL62h _).2 (Hsh.out ▸ run_str BS14.out)⟩⟩
    have mL62H := Lib.hid mL62h
    clear mL62h
    refine MixK2.late (D := InS mL62S) (x := 62) (by kernel_rfl) (cls_cons (InS.mk ((mL62H.out _).2 (Hsh.out ▸ run_str BS14.out))) (cls_skip (by kernel_rfl) (cls_skip (by kernel_rfl) (cls_skip (by kernel_rfl) (cls_skip (by kernel_rfl) (cls_skip (by kernel_rfl) (cls_skip (by kernel_rfl) (cls_base (InS.mk ((mH.out _).2 trivial)))))))))) ?_
    refine wpMix2_seg 1 (InS mL62S) (by kernel_rfl) (by decide) (cl_one rfl) ?_
    simp only [List.append_eq, List.cons_append, List.nil_append, List.take_succ_cons, List.take_zero, List.drop_succ_cons, List.drop_zero]
    repeat (first | go_big_quiet_step (fail) | (go_big_quiet_want; first | refine quiet_conv mL2k0 rfl rfl rfl (by simp only [Act.put, List.setIfInBounds_toArray, List.set_cons_succ, List.set_cons_zero]; rfl) ?_; go_big_quiet_on | refine quiet_conv mL5k0 rfl rfl rfl (by simp only [Act.put, List.setIfInBounds_toArray, List.set_cons_succ, List.set_cons_zero]; rfl) ?_; go_big_quiet_on | refine quiet_conv mL27k0 rfl rfl rfl (by simp only [Act.put, List.setIfInBounds_toArray, List.set_cons_succ, List.set_cons_zero]; rfl) ?_; go_big_quiet_on | refine quiet_conv mL31k0 rfl rfl rfl (by simp only [Act.put, List.setIfInBounds_toArray, List.set_cons_succ, List.set_cons_zero]; rfl) ?_; go_big_quiet_on | refine quiet_conv mL39k0 rfl rfl rfl (by simp only [Act.put, List.setIfInBounds_toArray, List.set_cons_succ, List.set_cons_zero]; rfl) ?_; go_big_quiet_on | refine quiet_conv mL44k0 rfl rfl rfl (by simp only [Act.put, List.setIfInBounds_toArray, List.set_cons_succ, List.set_cons_zero]; rfl) ?_; go_big_quiet_on | refine quiet_conv mL62k0 rfl rfl rfl (by simp only [Act.put, List.setIfInBounds_toArray, List.set_cons_succ, List.set_cons_zero]; rfl) ?_; go_big_quiet_on))
    refine wpQuiet_nil ?_
    refine wpMix2_seg 2 (InS mS) (by kernel_rfl) (by decide) (cl_base [62, 44, 39, 31, 27, 5, 2] rfl (by kernel_rfl)) ?_
    simp only [List.append_eq, List.cons_append, List.nil_append, List.take_succ_cons, List.take_zero, List.drop_succ_cons, List.drop_zero]
    repeat (first | go_big_quiet_step (fail) | (go_big_quiet_want; first | refine quiet_conv mL2k0 rfl rfl rfl (by simp only [Act.put, List.setIfInBounds_toArray, List.set_cons_succ, List.set_cons_zero]; rfl) ?_; go_big_quiet_on | refine quiet_conv mL5k0 rfl rfl rfl (by simp only [Act.put, List.setIfInBounds_toArray, List.set_cons_succ, List.set_cons_zero]; rfl) ?_; go_big_quiet_on | refine quiet_conv mL27k0 rfl rfl rfl (by simp only [Act.put, List.setIfInBounds_toArray, List.set_cons_succ, List.set_cons_zero]; rfl) ?_; go_big_quiet_on | refine quiet_conv mL31k0 rfl rfl rfl (by simp only [Act.put, List.setIfInBounds_toArray, List.set_cons_succ, List.set_cons_zero]; rfl) ?_; go_big_quiet_on | refine quiet_conv mL39k0 rfl rfl rfl (by simp only [Act.put, List.setIfInBounds_toArray, List.set_cons_succ, List.set_cons_zero]; rfl) ?_; go_big_quiet_on | refine quiet_conv mL44k0 rfl rfl rfl (by simp only [Act.put, List.setIfInBounds_toArray, List.set_cons_succ, List.set_cons_zero]; rfl) ?_; go_big_quiet_on | refine quiet_conv mL62k0 rfl rfl rfl (by simp only [Act.put, List.setIfInBounds_toArray, List.set_cons_succ, List.set_cons_zero]; rfl) ?_; go_big_quiet_on))
    refine wpQuiet_nil ?_
    refine wpMix2_eff (by kernel_rfl) ?_
    go_wp2_with fail
    refine (RHLF.out _ (H1.out.later K14.out) (H3.out.later K14.out)).mono ?_
    rintro e w150 ⟨v15, rfl, o15, k15⟩
    obtain ⟨A150, cap15, rfl, bs15, -⟩ := o15.shape
    have BS15 := Lib.hid bs15
    have K15 : Hid (Keeps (fun b => w.heap.size ≤ b) w w150) := K14.out.trans k15 (fun _ h => h) (fun _ _ h => h.elim)
    have BS14q := Lib.hid (BS14.out.keeps k15 (fun _ _ _ _ _ h => h))
    clear o15 bs15 k15
    go_wp2
    obtain ⟨mL66S, mL66h⟩ : ∃ S : World → Prop, ∀ w', S w' ↔ (((convert 22 9 (.slice A150 zh.length cap15)).run Try.prog w' = .ok (.string sh) w')) := ⟨_, fun _ => Iff.rfl⟩
    have mL66k0 : ∀ x : Memb mL66S, (convert 22 9 (.slice A150 zh.length cap15)).run Try.prog x.at_ = .ok (.string sh) x.at_ := fun x => ((mL66h _).1 x.is)
    have mL66n : Nonempty (Memb mL66S) := ⟨⟨_, (mL66h _).2 (Hsh.out ▸ run_str BS15.out)⟩⟩
    have mL66H := Lib.hid mL66h
    clear mL66h
    refine MixK2.late (D := InS mL66S) (x := 66) (by kernel_rfl) (cls_cons (InS.mk ((mL66H.out _).2 (Hsh.out ▸ run_str BS15.out))) (cls_cons (InS.mk ((mL62H.out _).2 (Hsh.out ▸ run_str BS14q.out))) (cls_skip (by kernel_rfl) (cls_skip (by kernel_rfl) (cls_skip (by kernel_rfl) (cls_skip (by kernel_rfl) (cls_skip (by kernel_rfl) (cls_skip (by kernel_rfl) (cls_base (InS.mk ((mH.out _).2 trivial))))))))))) ?_
    refine wpMix2_seg 1 (InS mL66S) (by kernel_rfl) (by decide) (cl_one rfl) ?_
    simp only [List.append_eq, List.cons_append, List.nil_append, List.take_succ_cons, List.take_zero, List.drop_succ_cons, List.drop_zero]
    repeat (first | go_big_quiet_step (fail) | (go_big_quiet_want; first | refine quiet_conv mL2k0 rfl rfl rfl (by simp only [Act.put, List.setIfInBounds_toArray, List.set_cons_succ, List.set_cons_zero]; rfl) ?_; go_big_quiet_on | refine quiet_conv mL5k0 rfl rfl rfl (by simp only [Act.put, List.setIfInBounds_toArray, List.set_cons_succ, List.set_cons_zero]; rfl) ?_; go_big_quiet_on | refine quiet_conv mL27k0 rfl rfl rfl (by simp only [Act.put, List.setIfInBounds_toArray, List.set_cons_succ, List.set_cons_zero]; rfl) ?_; go_big_quiet_on | refine quiet_conv mL31k0 rfl rfl rfl (by simp only [Act.put, List.setIfInBounds_toArray, List.set_cons_succ, List.set_cons_zero]; rfl) ?_; go_big_quiet_on | refine quiet_conv mL39k0 rfl rfl rfl (by simp only [Act.put, List.setIfInBounds_toArray, List.set_cons_succ, List.set_cons_zero]; rfl) ?_; go_big_quiet_on | refine quiet_conv mL44k0 rfl rfl rfl (by simp only [Act.put, List.setIfInBounds_toArray, List.set_cons_succ, List.set_cons_zero]; rfl) ?_; go_big_quiet_on | refine quiet_conv mL62k0 rfl rfl rfl (by simp only [Act.put, List.setIfInBounds_toArray, List.set_cons_succ, List.set_cons_zero]; rfl) ?_; go_big_quiet_on | refine quiet_conv mL66k0 rfl rfl rfl (by simp only [Act.put, List.setIfInBounds_toArray, List.set_cons_succ, List.set_cons_zero]; rfl) ?_; go_big_quiet_on))
    refine wpQuiet_nil ?_
    refine wpMix2_seg 5 (InS mS) (by kernel_rfl) (by decide) (cl_base [66, 62, 44, 39, 31, 27, 5, 2] rfl (by kernel_rfl)) ?_
    simp only [List.append_eq, List.cons_append, List.nil_append, List.take_succ_cons, List.take_zero, List.drop_succ_cons, List.drop_zero]
    repeat (first | go_big_quiet_step (fail) | (go_big_quiet_want; first | refine quiet_conv mL2k0 rfl rfl rfl (by simp only [Act.put, List.setIfInBounds_toArray, List.set_cons_succ, List.set_cons_zero]; rfl) ?_; go_big_quiet_on | refine quiet_conv mL5k0 rfl rfl rfl (by simp only [Act.put, List.setIfInBounds_toArray, List.set_cons_succ, List.set_cons_zero]; rfl) ?_; go_big_quiet_on | refine quiet_conv mL27k0 rfl rfl rfl (by simp only [Act.put, List.setIfInBounds_toArray, List.set_cons_succ, List.set_cons_zero]; rfl) ?_; go_big_quiet_on | refine quiet_conv mL31k0 rfl rfl rfl (by simp only [Act.put, List.setIfInBounds_toArray, List.set_cons_succ, List.set_cons_zero]; rfl) ?_; go_big_quiet_on | refine quiet_conv mL39k0 rfl rfl rfl (by simp only [Act.put, List.setIfInBounds_toArray, List.set_cons_succ, List.set_cons_zero]; rfl) ?_; go_big_quiet_on | refine quiet_conv mL44k0 rfl rfl rfl (by simp only [Act.put, List.setIfInBounds_toArray, List.set_cons_succ, List.set_cons_zero]; rfl) ?_; go_big_quiet_on | refine quiet_conv mL62k0 rfl rfl rfl (by simp only [Act.put, List.setIfInBounds_toArray, List.set_cons_succ, List.set_cons_zero]; rfl) ?_; go_big_quiet_on | refine quiet_conv mL66k0 rfl rfl rfl (by simp only [Act.put, List.setIfInBounds_toArray, List.set_cons_succ, List.set_cons_zero]; rfl) ?_; go_big_quiet_on))
    refine wpQuiet_nil ?_
    refine wpMix2_eff (by kernel_rfl) ?_
    go_wp2_with fail
    refine (RSN.out _ (H1.out.later K15.out) (H4.out.later K15.out)).mono ?_
    rintro e w160 ⟨rfl, hm16⟩
    have K16 : Hid (Keeps (fun b => w.heap.size ≤ b) w w160) := by obtain ⟨m, hm⟩ := hm16; rw [hm]; exact K15.out.drewN m
    clear hm16
    go_wp2
    refine MixK2.on (cls_skip (by kernel_rfl) (cls_skip (by kernel_rfl) (cls_skip (by kernel_rfl) (cls_skip (by kernel_rfl) (cls_skip (by kernel_rfl) (cls_skip (by kernel_rfl) (cls_skip (by kernel_rfl) (cls_skip (by kernel_rfl) (cls_base (InS.mk ((mH.out _).2 trivial))))))))))) ?_
    refine wpMix2_seg 2 (InS mS) (by kernel_rfl) (by decide) (cl_base [66, 62, 44, 39, 31, 27, 5, 2] rfl (by kernel_rfl)) ?_
    simp only [List.append_eq, List.cons_append, List.nil_append, List.take_succ_cons, List.take_zero, List.drop_succ_cons, List.drop_zero]
    repeat (first | go_big_quiet_step (fail) | (go_big_quiet_want; first | refine quiet_conv mL2k0 rfl rfl rfl (by simp only [Act.put, List.setIfInBounds_toArray, List.set_cons_succ, List.set_cons_zero]; rfl) ?_; go_big_quiet_on | refine quiet_conv mL5k0 rfl rfl rfl (by simp only [Act.put, List.setIfInBounds_toArray, List.set_cons_succ, List.set_cons_zero]; rfl) ?_; go_big_quiet_on | refine quiet_conv mL27k0 rfl rfl rfl (by simp only [Act.put, List.setIfInBounds_toArray, List.set_cons_succ, List.set_cons_zero]; rfl) ?_; go_big_quiet_on | refine quiet_conv mL31k0 rfl rfl rfl (by simp only [Act.put, List.setIfInBounds_toArray, List.set_cons_succ, List.set_cons_zero]; rfl) ?_; go_big_quiet_on | refine quiet_conv mL39k0 rfl rfl rfl (by simp only [Act.put, List.setIfInBounds_toArray, List.set_cons_succ, List.set_cons_zero]; rfl) ?_; go_big_quiet_on | refine quiet_conv mL44k0 rfl rfl rfl (by simp only [Act.put, List.setIfInBounds_toArray, List.set_cons_succ, List.set_cons_zero]; rfl) ?_; go_big_quiet_on | refine quiet_conv mL62k0 rfl rfl rfl (by simp only [Act.put, List.setIfInBounds_toArray, List.set_cons_succ, List.set_cons_zero]; rfl) ?_; go_big_quiet_on | refine quiet_conv mL66k0 rfl rfl rfl (by simp only [Act.put, List.setIfInBounds_toArray, List.set_cons_succ, List.set_cons_zero]; rfl) ?_; go_big_quiet_on))
    refine wpQuiet_nil ?_
    refine wpMix2_eff (by kernel_rfl) ?_
    go_wp2_with fail
    refine (RRSN.out _ (H1.out.later K16.out) (H4.out.later K16.out)).mono ?_
    rintro e w170 ⟨rfl, hm17⟩
    have K17 : Hid (Keeps (fun b => w.heap.size ≤ b) w w170) := by obtain ⟨m, hm⟩ := hm17; rw [hm]; exact K16.out.drewN m
    clear hm17
    go_wp2
    refine MixK2.on (cls_skip (by kernel_rfl) (cls_skip (by kernel_rfl) (cls_skip (by kernel_rfl) (cls_skip (by kernel_rfl) (cls_skip (by kernel_rfl) (cls_skip (by kernel_rfl) (cls_skip (by kernel_rfl) (cls_skip (by kernel_rfl) (cls_base (InS.mk ((mH.out _).2 trivial))))))))))) ?_
    refine wpMix2_seg 3 (InS mS) (by kernel_rfl) (by decide) (cl_base [66, 62, 44, 39, 31, 27, 5, 2] rfl (by kernel_rfl)) ?_
    simp only [List.append_eq, List.cons_append, List.nil_append, List.take_succ_cons, List.take_zero, List.drop_succ_cons, List.drop_zero]
    repeat (first | go_big_quiet_step (fail) | (go_big_quiet_want; first | refine quiet_conv mL2k0 rfl rfl rfl (by simp only [Act.put, List.setIfInBounds_toArray, List.set_cons_succ, List.set_cons_zero]; rfl) ?_; go_big_quiet_on | refine quiet_conv mL5k0 rfl rfl rfl (by simp only [Act.put, List.setIfInBounds_toArray, List.set_cons_succ, List.set_cons_zero]; rfl) ?_; go_big_quiet_on | refine quiet_conv mL27k0 rfl rfl rfl (by simp only [Act.put, List.setIfInBounds_toArray, List.set_cons_succ, List.set_cons_zero]; rfl) ?_; go_big_quiet_on | refine quiet_conv mL31k0 rfl rfl rfl (by simp only [Act.put, List.setIfInBounds_toArray, List.set_cons_succ, List.set_cons_zero]; rfl) ?_; go_big_quiet_on | refine quiet_conv mL39k0 rfl rfl rfl (by simp only [Act.put, List.setIfInBounds_toArray, List.set_cons_succ, List.set_cons_zero]; rfl) ?_; go_big_quiet_on | refine quiet_conv mL44k0 rfl rfl rfl (by simp only [Act.put, List.setIfInBounds_toArray, List.set_cons_succ, List.set_cons_zero]; rfl) ?_; go_big_quiet_on | refine quiet_conv mL62k0 rfl rfl rfl (by simp only [Act.put, List.setIfInBounds_toArray, List.set_cons_succ, List.set_cons_zero]; rfl) ?_; go_big_quiet_on | refine quiet_conv mL66k0 rfl rfl rfl (by simp only [Act.put, List.setIfInBounds_toArray, List.set_cons_succ, List.set_cons_zero]; rfl) ?_; go_big_quiet_on))
    refine wpQuiet_nil ?_
    refine wpMix2_nil ?_
    clear  mn mH mL2k0 mL2n mL2H mL5k0 mL5n mL5H mL27k0 mL27n mL27H mL31k0 mL31n mL31H mL39k0 mL39n mL39H mL44k0 mL44n mL44H mL62k0 mL62n mL62H mL66k0 mL66n mL66H
    go_wp2
    go_ret
    exact ⟨by first | rfl | simp, K17.out.below (fun k hk h => by omega)⟩
set_option maxRecDepth 100000 in
theorem NorTells_lifted (os : Os) (started : os.Started) (H : Type) (enc : TypeId × Value → H) :
    ReturnsInHanded {} Try.checked os 4 .any (Rows.norTellsSpec.pre6 enc Try.prog Try.f4 Rows.norTellsRow.domain false) (Rows.norTellsSpec.post enc Try.prog Try.f4 false true false false) := by
  refine returnsInHanded_of_change (C := Try.checked) Try.own started (by kernel_rfl) Try.func4
    (ChangeSpec.witness6 (enc := enc) (C := Try.checked) false ⟨#[], #[.slice none 0 0, .slice none 0 0, .slice none 0 0, .slice none 0 0, .int .i64 0], []⟩ 8 (by kernel_rfl) (by kernel_rfl) (by kernel_rfl) (by kernel_rfl)) ?_
  intro W base args ds gs before hval0 hW hcnd _
  have hval : ∀ (j : Nat) t v, Try.f4.params[j]? = some t → args[j]? = some v → Value.okWide Try.prog W .any base t v := hval0
  have hW' := hW
  obtain ⟨p, q, hA0, hV, rfl, hfz, hnd⟩ := hW
  have hA : DataW.TrodAll enc Try.prog W 0 (fun _ => true) true Try.f4.params.toList args.toList ds p := hA0
  rw [Try.params4] at hA hval
  obtain ⟨v0, vs0, d0, ds0, p0, q0, hargs, rfl, rfl, h0, r0⟩ := trodAll_cons hA
  obtain ⟨v1, vs1, d1, ds1, p1, q1, rfl, rfl, rfl, h1, r1⟩ := trodAll_cons r0
  obtain ⟨v2, vs2, d2, ds2, p2, q2, rfl, rfl, rfl, h2, r2⟩ := trodAll_cons r1
  obtain ⟨v3, vs3, d3, ds3, p3, q3, rfl, rfl, rfl, h3, r3⟩ := trodAll_cons r2
  obtain ⟨v4, vs4, d4, ds4, p4, q4, rfl, rfl, rfl, h4, r4⟩ := trodAll_cons r3
  obtain ⟨rfl, rfl, rfl⟩ := trodAll_nil r4
  obtain rfl : args = #[v0, v1, v2, v3, v4] := by cases args; simp_all
  obtain ⟨rfl, rfl⟩ := trodVars_none hV
  have k0 := h0
  have lt0 : ∀ x ∈ p0, x.block < W.heap.size := by obtain ⟨m, hm⟩ := k0; exact DataW.trod_lt m _ _ _ hm
  obtain ⟨a0, len0, cap0, rfl⟩ := okWide_slice Try.underlying22 (hval 0 22 v0 rfl rfl)
  obtain ⟨z0, s0⟩ := open_bs h0
  have k1 := h1
  have lt1 : ∀ x ∈ p1, x.block < W.heap.size := by obtain ⟨m, hm⟩ := k1; exact DataW.trod_lt m _ _ _ hm
  obtain ⟨a1, len1, cap1, rfl⟩ := okWide_slice Try.underlying22 (hval 1 22 v1 rfl rfl)
  obtain ⟨z1, s1⟩ := open_bs h1
  have k2 := h2
  have lt2 : ∀ x ∈ p2, x.block < W.heap.size := by obtain ⟨m, hm⟩ := k2; exact DataW.trod_lt m _ _ _ hm
  obtain ⟨a2, len2, cap2, rfl⟩ := okWide_slice Try.underlying22 (hval 2 22 v2 rfl rfl)
  obtain ⟨z2, s2⟩ := open_bs h2
  have k3 := h3
  have lt3 : ∀ x ∈ p3, x.block < W.heap.size := by obtain ⟨m, hm⟩ := k3; exact DataW.trod_lt m _ _ _ hm
  obtain ⟨a3, len3, cap3, rfl⟩ := okWide_slice Try.underlying22 (hval 3 22 v3 rfl rfl)
  obtain ⟨z3, s3⟩ := open_bs h3
  have k4 := h4
  have lt4 : ∀ x ∈ p4, x.block < W.heap.size := by obtain ⟨m, hm⟩ := k4; exact DataW.trod_lt m _ _ _ hm
  obtain ⟨a4, rfl, rfl, rfl, w4⟩ := open_int Try.underlying3 (hval 4 3 v4 rfl rfl) h4
  clear hA0 hval0
  refine (tells1_any a0 a1 a2 a3 len0 cap0 len1 cap1 len2 cap2 len3 cap3 z0 z1 z2 z3 a4 W s0 s1 s2 s3).mono fun e W' ⟨he, bel⟩ => ?_
  subst he
  exact ⟨_, rfl, _, _, _, [], _, [], hW', trodAll_mk1 (shut_bool Try.underlying4 _), (trodAll_cons_mk (Below.trod Try.laidOut (by kernel_rfl) (of_decide_eq_true (by kernel_rfl)) k0 bel lt0) (trodAll_cons_mk (Below.trod Try.laidOut (by kernel_rfl) (of_decide_eq_true (by kernel_rfl)) k1 bel lt1) (trodAll_cons_mk (Below.trod Try.laidOut (by kernel_rfl) (of_decide_eq_true (by kernel_rfl)) k2 bel lt2) (trodAll_cons_mk (Below.trod Try.laidOut (by kernel_rfl) (of_decide_eq_true (by kernel_rfl)) k3 bel lt3) (trodAll_cons_mk (Below.trod Try.laidOut (by kernel_rfl) (of_decide_eq_true (by kernel_rfl)) k4 bel lt4) trodAll_mk0))))), rfl, bel.frame _, fun h => by cases h⟩

set_option maxRecDepth 100000 in
theorem NorTells_closed : joinedFacts Try.checked.prog 4 Try.f4 Rows.norTellsSpec Rows.norTellsRow = true := by
  unfold joinedFacts
  rw [closed_laid, closed_maps, closed_heard, closed_plain, closed_mayEnter, closed_lifts, closed_make]
  kernel_rfl

theorem NorTells_holds : Rows.NorTellsSaid :=
  OpenClaim.holds_of_wide 4 Try.f4 rfl rfl rfl rfl rfl rfl rfl ⟨rfl, rfl, rfl, rfl, rfl⟩ rfl rfl rfl rfl rfl (by kernel_rfl) Try.func4 NorTells_closed
    (of_decide_eq_true (by kernel_rfl)) (by unfold Func.isWrapper; first | (rw [if_pos (by decide +kernel)]; kernel_rfl) | (rw [if_neg (by decide +kernel)]; exact ⟨rfl, rfl⟩))
    (fun os started H enc _ => NorTells_lifted os started H enc)
#print axioms NorTells_holds
end Go.Proofs.Yteogaacdmoafpaa
