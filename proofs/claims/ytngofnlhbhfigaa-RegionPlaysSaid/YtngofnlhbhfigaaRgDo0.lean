/- The law's `do`, where there is no region. -/
import Derived.Test.YtngofnlhbhfigaaRgDo
namespace Go.Proofs.Ytngofnlhbhfigaa
open Go.RowKit

theorem rgread_nil (a m : Int) (w : World) : Calls Try.prog 88 #[.agg #[.pointer none, .int .i64 0, .int .i64 0], .int .i64 a, .int .i64 m] w (Pure (.tuple #[.slice none 0 0, .int .i64 2]) w) := by
  have k0 : Keeps None w (w.alloc (.cells #[.pointer none, .int .i64 0, .int .i64 0] 66)) := (Keeps.refl None w).alloc _
  go_enter Try.func88, Try.ntmps88
  go_wp2
  go_ret2
  exact ⟨rfl, k0⟩
theorem rgblank_nil (k : Int) (w : World) : Calls Try.prog 91 #[.agg #[.pointer none, .int .i64 0, .int .i64 0], .int .i64 k] w (Pure (.tuple #[.bool false, .int .i64 2]) w) := by
  have k0 : Keeps None w (w.alloc (.cells #[.pointer none, .int .i64 0, .int .i64 0] 66)) := (Keeps.refl None w).alloc _
  go_enter Try.func91, Try.ntmps91
  go_wp2
  go_ret2
  exact ⟨rfl, k0⟩
theorem rgerase_nil (k : Int) (w : World) : Calls Try.prog 90 #[.agg #[.pointer none, .int .i64 0, .int .i64 0], .int .i64 k] w (Pure (.int .i64 2) w) := by
  have k0 : Keeps None w (w.alloc (.cells #[.pointer none, .int .i64 0, .int .i64 0] 66)) := (Keeps.refl None w).alloc _
  go_enter Try.func90, Try.ntmps90
  go_wp2
  go_ret
  exact ⟨rfl, k0⟩
theorem rgprogram_nil (a : Int) (A : Option Addr) (m c : Nat) (w : World) : Calls Try.prog 89 #[.agg #[.pointer none, .int .i64 0, .int .i64 0], .int .i64 a, .slice A m c] w (Pure (.int .i64 2) w) := by
  have k0 : Keeps None w (w.alloc (.cells #[.pointer none, .int .i64 0, .int .i64 0] 66)) := (Keeps.refl None w).alloc _
  go_enter Try.func89, Try.ntmps89
  go_wp2
  go_ret
  exact ⟨rfl, k0⟩
set_option maxRecDepth 100000 in
set_option maxHeartbeats 3200000 in
theorem do3none_any {W w : World} {B q : Nat} {L : FL} {s : FS} {Br qr : Nat} {Lr : RL} {r : FS} (h : FR W w B q L s Br qr Lr r) (hs : Sim s r) (m : Nat) (hr : Room s (m + 1101)) (k a n : Int) (A : Option Addr) (bl bc : Nat) (bs : List Int)
    (hb : Bs W A bl bc bs) (hbl : bl ≤ 1100) (hn : n ≤ 9223372036854775807) :
    Calls Try.prog 49 #[.pointer (some ⟨q, 0, none⟩), .pointer (some ⟨qr, 0, none⟩), .agg #[.pointer none, .int .i64 0, .int .i64 0], .agg #[.pointer none, .int .i64 0, .int .i64 0], .agg #[.int .i64 k, .int .i64 a, .int .i64 n, .slice A bl bc]] w (DoTold3 W w B q L Br qr Lr m s.er.length) := by
  have hle := hb.le
  have hmx := hb.max
  have HN := Lib.hid hn
  have HF := Lib.hid h
  have HS := Lib.hid hs
  have HR := Lib.hid hr
  have HB := Lib.hid hb
  have HL := Lib.hid hb.len
  have st1 := hr.st.1
  have st2 := hr.st.2
  clear h hs hr hb hn
  -- none pointer of the region, none of the reference's, 0 first, 0 count
  obtain ⟨wa, hwa⟩ : ∃ x, w.alloc (.cells #[.pointer none, .int .i64 0, .int .i64 0] 27) = x := ⟨_, rfl⟩
  obtain ⟨wb, hwb⟩ : ∃ x, wa.alloc (.cells #[.pointer none, .int .i64 0, .int .i64 0] 66) = x := ⟨_, rfl⟩
  obtain ⟨w1, hw1⟩ : ∃ x, wb.alloc (.cells #[.int .i64 k, .int .i64 a, .int .i64 n, .slice A bl bc] 60) = x := ⟨_, rfl⟩
  have sa : wa.heap.size = w.heap.size + 1 := by rw [← hwa]; simp
  have sb : wb.heap.size = w.heap.size + 1 + 1 := by rw [← hwb]; simp [sa]
  have ka : Keeps None w wa := hwa ▸ (Keeps.refl None w).alloc _
  have kb : Keeps None wa wb := hwb ▸ (Keeps.refl None wa).alloc _
  have k1 : Keeps None wb w1 := hw1 ▸ (Keeps.refl None wb).alloc _
  have bra : Blk wa w.heap.size [.pointer none, .int .i64 0, .int .i64 0] 27 := hwa ▸ Blk.new w [.pointer none, .int .i64 0, .int .i64 0] 27
  have bsb : Blk wb (w.heap.size + 1) [.pointer none, .int .i64 0, .int .i64 0] 66 := by have := Blk.new wa [.pointer none, .int .i64 0, .int .i64 0] 66; rw [sa] at this; exact hwb ▸ this
  have bac : Blk w1 (w.heap.size + 1 + 1) [.int .i64 k, .int .i64 a, .int .i64 n, .slice A bl bc] 60 := by have := Blk.new wb [.int .i64 k, .int .i64 a, .int .i64 n, .slice A bl bc] 60; rw [sb] at this; exact hw1 ▸ this
  have B1 : Hid (Box3 w1 w.heap.size (w.heap.size + 1) (w.heap.size + 1 + 1) none none 0 0 k a n A bl bc) := ⟨k1.blk (kb.blk bra (fun h => h)) (fun h => h), k1.blk bsb (fun h => h), bac⟩
  have K1 : Hid (Keeps None w w1) := (ka.trans kb (T := None) (fun _ h => h) (fun _ _ h => h)).trans k1 (T := None) (fun _ h => h) (fun _ _ h => h)
  have H1 := Lib.hid (HF.out.later K1.out)
  have NPF : Hid (¬ L.O w.heap.size ∧ ¬ L.O (w.heap.size + 1) ∧ ¬ L.O (w.heap.size + 1 + 1)) := ⟨fun hO => by have := HF.out.f.at_.lt _ hO; omega, fun hO => by have := HF.out.f.at_.lt _ hO; omega, fun hO => by have := HF.out.f.at_.lt _ hO; omega⟩
  have NPR : Hid (¬ Lr.O w.heap.size ∧ ¬ Lr.O (w.heap.size + 1) ∧ ¬ Lr.O (w.heap.size + 1 + 1)) := ⟨fun hO => by have := HF.out.g.lt _ hO; omega, fun hO => by have := HF.out.g.lt _ hO; omega, fun hO => by have := HF.out.g.lt _ hO; omega⟩
  have x3 := bac.cellD 3 _ rfl
  clear ka kb k1 bra bsb bac sa sb
  subst hwa hwb
  go_enter Try.func49, Try.ntmps49
  go_wp2_with (at_builtin; refine Hid.out ?_)
  refine Lib.hid ?_
  clear hw1 x3
  generalize w.heap.size + 1 + 1 = pa at *
  generalize w.heap.size + 1 = ps at *
  obtain ⟨pr, hpr⟩ : ∃ x, w.heap.size = x := ⟨_, rfl⟩
  rw [hpr] at B1 NPF NPR ⊢
  clear hpr
  refine wpList_append_bs (Own.nil _ w1.heap.size) (HB.out.keeps H1.out.keeps (fun _ _ _ _ _ h => h)) (by simp; omega) (Nat.le_refl _) rfl rfl rfl rfl rfl ?_
  intro v2 w2 ho2 hk2
  rw [List.nil_append] at ho2
  obtain ⟨A2, c2, rfl, bs2, -⟩ := ho2.shape
  rw [HL.out] at ho2 bs2 ⊢
  have k2 : Keeps None w1 w2 := hk2.mono (fun i hi e => by simp [Value.ownBlock] at e)
  have H2 := Lib.hid (H1.out.later k2)
  have P2 := Lib.hid (B1.out.later k2)
  have LK2 : Hid (FRLink w w2 L L Lr Lr) := FRLink.quiet (K1.out.trans k2 (T := None) (fun _ h => h) (fun _ _ h => h))
  have LB := Lib.hid (Lb.new H1.out.f.at_ ho2)
  have BB := Lib.hid bs2
  have RB := Lib.hid (fun w' Lr' r' (hk : Keeps None W w') (hg : RAt w' Br Lr' r') => Rb.arg HB.out hk hg H2.out.gB)
  clear ho2 hk2 bs2 k2 H1 B1 K1 HF
  -- P2.out a Box3
  have y0 := (P2.out).r.cellD 0 _ rfl
  have y1 := (P2.out).r.cellD 1 _ rfl
  have y2 := (P2.out).r.cellD 2 _ rfl
  have z0 := (P2.out).s.cellD 0 _ rfl
  have z1 := (P2.out).s.cellD 1 _ rfl
  have z2 := (P2.out).s.cellD 2 _ rfl
  have x0 := (P2.out).a.cellD 0 _ rfl
  have x1 := (P2.out).a.cellD 1 _ rfl
  have x2 := (P2.out).a.cellD 2 _ rfl
  have x3 := (P2.out).a.cellD 3 _ rfl
  have hle2 := BB.out.le
  have hmx2 := BB.out.max
  by_cases q1 : k = 1
  · subst q1
    go_wp2_with fail
    refine (gread_nil a n _).mono ?_
    rintro e w3 ⟨rfl, k3⟩
    have H3 := Lib.hid (H2.out.later k3)
    have P3 := Lib.hid (P2.out.later k3)
    have LK3 := Lib.hid (LK2.out.later k3)
    clear k3 x0 x1 x2 x3 y0 y1 y2 z0 z1 z2
    -- P3.out a Box3
    have y0 := (P3.out).r.cellD 0 _ rfl
    have y1 := (P3.out).r.cellD 1 _ rfl
    have y2 := (P3.out).r.cellD 2 _ rfl
    have z0 := (P3.out).s.cellD 0 _ rfl
    have z1 := (P3.out).s.cellD 1 _ rfl
    have z2 := (P3.out).s.cellD 2 _ rfl
    have x0 := (P3.out).a.cellD 0 _ rfl
    have x1 := (P3.out).a.cellD 1 _ rfl
    have x2 := (P3.out).a.cellD 2 _ rfl
    have x3 := (P3.out).a.cellD 3 _ rfl
    go_wp2_with fail
    refine (rgread_nil a n _).mono ?_
    rintro e w4 ⟨rfl, k4⟩
    have H4 := Lib.hid (H3.out.later k4)
    have LK4 := Lib.hid (LK3.out.later k4)
    have s4 := run_str (bsNil w4)
    generalize strOf [] = sz at *
    have qz : (sz.toList == sz.toList) = true := by simp
    clear k4 x0 x1 x2 x3 y0 y1 y2 z0 z1 z2
    go_wp2_with fail
    refine (num3_any _ _).mono ?_
    rintro e w' ⟨rfl, rfl⟩
    go_wp2
    go_ret
    exact ⟨by first | rfl | simp, L, s, Lr, r, H4.out, HS.out, HR.out.less (by omega), rfl, LK4.out⟩
  have e1 : decide (k = 1) = false := decide_eq_false q1
  by_cases q2 : k = 2
  · subst q2
    clear x1 x2 x3 y0 y1 y2 z0 z1 z2
    -- 4,5,11 14 E n, gprogram_nil a A2 bl c2 hle2 hmx2 _ f's contract, rgprogram_nil a A bl bc _ rf's contract
    go_wp2
    obtain ⟨mS, mh⟩ : ∃ S : World → Prop, ∀ w', S w' ↔ (w'.cell? ⟨pr, 0, none⟩ = some (.pointer none) ∧ w'.cell? ⟨pr, 1, none⟩ = some (.int .i64 0) ∧ w'.cell? ⟨pr, 2, none⟩ = some (.int .i64 0) ∧ w'.cell? ⟨ps, 0, none⟩ = some (.pointer none) ∧ w'.cell? ⟨ps, 1, none⟩ = some (.int .i64 0) ∧ w'.cell? ⟨ps, 2, none⟩ = some (.int .i64 0) ∧ w'.cell? ⟨pa, 1, none⟩ = some (.int .i64 a) ∧ w'.cell? ⟨pa, 3, none⟩ = some (.slice A bl bc)) := ⟨_, fun _ => Iff.rfl⟩
    have mk0 : ∀ x : Memb mS, x.at_.cell? ⟨pr, 0, none⟩ = some (.pointer none) := fun x => ((mh _).1 x.is).1
    have mk1 : ∀ x : Memb mS, x.at_.cell? ⟨pr, 1, none⟩ = some (.int .i64 0) := fun x => ((mh _).1 x.is).2.1
    have mk2 : ∀ x : Memb mS, x.at_.cell? ⟨pr, 2, none⟩ = some (.int .i64 0) := fun x => ((mh _).1 x.is).2.2.1
    have mk3 : ∀ x : Memb mS, x.at_.cell? ⟨ps, 0, none⟩ = some (.pointer none) := fun x => ((mh _).1 x.is).2.2.2.1
    have mk4 : ∀ x : Memb mS, x.at_.cell? ⟨ps, 1, none⟩ = some (.int .i64 0) := fun x => ((mh _).1 x.is).2.2.2.2.1
    have mk5 : ∀ x : Memb mS, x.at_.cell? ⟨ps, 2, none⟩ = some (.int .i64 0) := fun x => ((mh _).1 x.is).2.2.2.2.2.1
    have mk6 : ∀ x : Memb mS, x.at_.cell? ⟨pa, 1, none⟩ = some (.int .i64 a) := fun x => ((mh _).1 x.is).2.2.2.2.2.2.1
    have mk7 : ∀ x : Memb mS, x.at_.cell? ⟨pa, 3, none⟩ = some (.slice A bl bc) := fun x => ((mh _).1 x.is).2.2.2.2.2.2.2
    have mn : Nonempty (Memb mS) := ⟨⟨(w2).drew, (mh _).2 ⟨P2.out.r.cellD 0 _ rfl, P2.out.r.cellD 1 _ rfl, P2.out.r.cellD 2 _ rfl, P2.out.s.cellD 0 _ rfl, P2.out.s.cellD 1 _ rfl, P2.out.s.cellD 2 _ rfl, P2.out.a.cellD 1 _ rfl, P2.out.a.cellD 3 _ rfl⟩⟩⟩
    have mH := Lib.hid mh
    clear mh
    refine wp_region_mix [4, 5, 11] (InS mS) (by kernel_rfl) (by kernel_rfl) (InS.mk ((mH.out _).2 ⟨P2.out.r.cellD 0 _ rfl, P2.out.r.cellD 1 _ rfl, P2.out.r.cellD 2 _ rfl, P2.out.s.cellD 0 _ rfl, P2.out.s.cellD 1 _ rfl, P2.out.s.cellD 2 _ rfl, P2.out.a.cellD 1 _ rfl, P2.out.a.cellD 3 _ rfl⟩)) ?_
    refine wpMix_seg 4 (by kernel_rfl) (by decide) ?_
    simp only [List.take_succ_cons, List.take_zero, List.drop_succ_cons, List.drop_zero]
    repeat (go_big_quiet_step (fail))
    refine wpQuiet_nil ?_
    refine wpMix_eff (by kernel_rfl) ?_
    go_wp2_with fail
    refine (gprogram_nil a A2 bl c2 hle2 hmx2 _).mono ?_
    rintro e w3 ⟨rfl, k3⟩
    have H3 := Lib.hid (H2.out.drew.later k3)
    have P3 := Lib.hid ((P2.out.later (Keeps.refl None w2).drew).later k3)
    have LK3 := Lib.hid ((LK2.out.later (Keeps.refl None w2).drew).later k3)
    clear k3
    go_wp2
    refine MixK.on (InS.mk ((mH.out _).2 (P3.out.c))) ?_
    refine wpMix_eff (by kernel_rfl) ?_
    go_wp2_with fail
    refine (num3_any _ _).mono ?_
    rintro e w' ⟨rfl, rfl⟩
    go_wp2
    refine MixK.on (InS.mk ((mH.out _).2 (P3.out.c))) ?_
    refine wpMix_seg 5 (by kernel_rfl) (by decide) ?_
    simp only [List.take_succ_cons, List.take_zero, List.drop_succ_cons, List.drop_zero]
    repeat (go_big_quiet_step (fail))
    refine wpQuiet_nil ?_
    refine wpMix_eff (by kernel_rfl) ?_
    go_wp2_with fail
    refine (rgprogram_nil a A bl bc _).mono ?_
    rintro e w4 ⟨rfl, k4⟩
    have H4 := Lib.hid (H3.out.later k4)
    have P4 := Lib.hid (P3.out.later k4)
    have LK4 := Lib.hid (LK3.out.later k4)
    clear k4
    go_wp2
    refine MixK.on (InS.mk ((mH.out _).2 (P4.out.c))) ?_
    refine wpMix_seg 2 (by kernel_rfl) (by decide) ?_
    simp only [List.take_succ_cons, List.take_zero, List.drop_succ_cons, List.drop_zero]
    repeat (go_big_quiet_step (fail))
    refine wpQuiet_nil ?_
    refine wpMix_nil ?_
    clear mk0 mk1 mk2 mk3 mk4 mk5 mk6 mk7 mn mH
    go_wp2
    go_ret
    exact ⟨by first | rfl | simp, L, s, Lr, r, H4.out, HS.out, HR.out.less (by omega), rfl, LK4.out⟩
  have e2 : decide (k = 2) = false := decide_eq_false q2
  by_cases q3 : k = 3
  · subst q3
    clear x1 x2 x3 y0 y1 y2 z0 z1 z2
    -- 3,4,8 11 E n, gerase_nil a _ f's contract, rgerase_nil a _ rf's contract
    go_wp2
    obtain ⟨mS, mh⟩ : ∃ S : World → Prop, ∀ w', S w' ↔ (w'.cell? ⟨pr, 0, none⟩ = some (.pointer none) ∧ w'.cell? ⟨pr, 1, none⟩ = some (.int .i64 0) ∧ w'.cell? ⟨pr, 2, none⟩ = some (.int .i64 0) ∧ w'.cell? ⟨ps, 0, none⟩ = some (.pointer none) ∧ w'.cell? ⟨ps, 1, none⟩ = some (.int .i64 0) ∧ w'.cell? ⟨ps, 2, none⟩ = some (.int .i64 0) ∧ w'.cell? ⟨pa, 1, none⟩ = some (.int .i64 a) ∧ w'.cell? ⟨pa, 3, none⟩ = some (.slice A bl bc)) := ⟨_, fun _ => Iff.rfl⟩
    have mk0 : ∀ x : Memb mS, x.at_.cell? ⟨pr, 0, none⟩ = some (.pointer none) := fun x => ((mh _).1 x.is).1
    have mk1 : ∀ x : Memb mS, x.at_.cell? ⟨pr, 1, none⟩ = some (.int .i64 0) := fun x => ((mh _).1 x.is).2.1
    have mk2 : ∀ x : Memb mS, x.at_.cell? ⟨pr, 2, none⟩ = some (.int .i64 0) := fun x => ((mh _).1 x.is).2.2.1
    have mk3 : ∀ x : Memb mS, x.at_.cell? ⟨ps, 0, none⟩ = some (.pointer none) := fun x => ((mh _).1 x.is).2.2.2.1
    have mk4 : ∀ x : Memb mS, x.at_.cell? ⟨ps, 1, none⟩ = some (.int .i64 0) := fun x => ((mh _).1 x.is).2.2.2.2.1
    have mk5 : ∀ x : Memb mS, x.at_.cell? ⟨ps, 2, none⟩ = some (.int .i64 0) := fun x => ((mh _).1 x.is).2.2.2.2.2.1
    have mk6 : ∀ x : Memb mS, x.at_.cell? ⟨pa, 1, none⟩ = some (.int .i64 a) := fun x => ((mh _).1 x.is).2.2.2.2.2.2.1
    have mk7 : ∀ x : Memb mS, x.at_.cell? ⟨pa, 3, none⟩ = some (.slice A bl bc) := fun x => ((mh _).1 x.is).2.2.2.2.2.2.2
    have mn : Nonempty (Memb mS) := ⟨⟨(w2).drew, (mh _).2 ⟨P2.out.r.cellD 0 _ rfl, P2.out.r.cellD 1 _ rfl, P2.out.r.cellD 2 _ rfl, P2.out.s.cellD 0 _ rfl, P2.out.s.cellD 1 _ rfl, P2.out.s.cellD 2 _ rfl, P2.out.a.cellD 1 _ rfl, P2.out.a.cellD 3 _ rfl⟩⟩⟩
    have mH := Lib.hid mh
    clear mh
    refine wp_region_mix [3, 4, 8] (InS mS) (by kernel_rfl) (by kernel_rfl) (InS.mk ((mH.out _).2 ⟨P2.out.r.cellD 0 _ rfl, P2.out.r.cellD 1 _ rfl, P2.out.r.cellD 2 _ rfl, P2.out.s.cellD 0 _ rfl, P2.out.s.cellD 1 _ rfl, P2.out.s.cellD 2 _ rfl, P2.out.a.cellD 1 _ rfl, P2.out.a.cellD 3 _ rfl⟩)) ?_
    refine wpMix_seg 3 (by kernel_rfl) (by decide) ?_
    simp only [List.take_succ_cons, List.take_zero, List.drop_succ_cons, List.drop_zero]
    repeat (go_big_quiet_step (fail))
    refine wpQuiet_nil ?_
    refine wpMix_eff (by kernel_rfl) ?_
    go_wp2_with fail
    refine (gerase_nil a _).mono ?_
    rintro e w3 ⟨rfl, k3⟩
    have H3 := Lib.hid (H2.out.drew.later k3)
    have P3 := Lib.hid ((P2.out.later (Keeps.refl None w2).drew).later k3)
    have LK3 := Lib.hid ((LK2.out.later (Keeps.refl None w2).drew).later k3)
    clear k3
    go_wp2
    refine MixK.on (InS.mk ((mH.out _).2 (P3.out.c))) ?_
    refine wpMix_eff (by kernel_rfl) ?_
    go_wp2_with fail
    refine (num3_any _ _).mono ?_
    rintro e w' ⟨rfl, rfl⟩
    go_wp2
    refine MixK.on (InS.mk ((mH.out _).2 (P3.out.c))) ?_
    refine wpMix_seg 3 (by kernel_rfl) (by decide) ?_
    simp only [List.take_succ_cons, List.take_zero, List.drop_succ_cons, List.drop_zero]
    repeat (go_big_quiet_step (fail))
    refine wpQuiet_nil ?_
    refine wpMix_eff (by kernel_rfl) ?_
    go_wp2_with fail
    refine (rgerase_nil a _).mono ?_
    rintro e w4 ⟨rfl, k4⟩
    have H4 := Lib.hid (H3.out.later k4)
    have P4 := Lib.hid (P3.out.later k4)
    have LK4 := Lib.hid (LK3.out.later k4)
    clear k4
    go_wp2
    refine MixK.on (InS.mk ((mH.out _).2 (P4.out.c))) ?_
    refine wpMix_seg 2 (by kernel_rfl) (by decide) ?_
    simp only [List.take_succ_cons, List.take_zero, List.drop_succ_cons, List.drop_zero]
    repeat (go_big_quiet_step (fail))
    refine wpQuiet_nil ?_
    refine wpMix_nil ?_
    clear mk0 mk1 mk2 mk3 mk4 mk5 mk6 mk7 mn mH
    go_wp2
    go_ret
    exact ⟨by first | rfl | simp, L, s, Lr, r, H4.out, HS.out, HR.out.less (by omega), rfl, LK4.out⟩
  have e3 : decide (k = 3) = false := decide_eq_false q3
  by_cases q4 : k = 4
  · subst q4
    go_wp2_with fail
    refine (gisblank_nil a _).mono ?_
    rintro e w3 ⟨rfl, k3⟩
    have H3 := Lib.hid (H2.out.later k3)
    have P3 := Lib.hid (P2.out.later k3)
    have LK3 := Lib.hid (LK2.out.later k3)
    clear k3 x0 x1 x2 x3 y0 y1 y2 z0 z1 z2
    -- P3.out a Box3
    have y0 := (P3.out).r.cellD 0 _ rfl
    have y1 := (P3.out).r.cellD 1 _ rfl
    have y2 := (P3.out).r.cellD 2 _ rfl
    have z0 := (P3.out).s.cellD 0 _ rfl
    have z1 := (P3.out).s.cellD 1 _ rfl
    have z2 := (P3.out).s.cellD 2 _ rfl
    have x0 := (P3.out).a.cellD 0 _ rfl
    have x1 := (P3.out).a.cellD 1 _ rfl
    have x2 := (P3.out).a.cellD 2 _ rfl
    have x3 := (P3.out).a.cellD 3 _ rfl
    go_wp2_with fail
    refine (rgblank_nil a _).mono ?_
    rintro e w4 ⟨rfl, k4⟩
    have H4 := Lib.hid (H3.out.later k4)
    have LK4 := Lib.hid (LK3.out.later k4)
    clear k4 x0 x1 x2 x3 y0 y1 y2 z0 z1 z2
    go_wp2_with fail
    refine (num3_any _ _).mono ?_
    rintro e w' ⟨rfl, rfl⟩
    go_wp2
    go_ret
    exact ⟨by first | rfl | simp, L, s, Lr, r, H4.out, HS.out, HR.out.less (by omega), rfl, LK4.out⟩
  have e4 : decide (k = 4) = false := decide_eq_false q4
  -- Arm, Boot and the rest
  by_cases q5 : k = 5
  · subst q5
    have SI := Lib.hid (HS.out.arm n bs st1)
    have RM := Lib.hid (HR.out.armF n bs)
    have EL : Hid ((s.armF n bs).er.length = s.er.length) := by show _ = _; unfold FS.armF; split <;> rfl
    go_wp2_with fail
    refine (larm H2.out.f BB.out (by omega) n HN.out).mono ?_
    rintro e w3 ⟨rfl, L3, -, t3⟩
    have H3 := Lib.hid (H2.out.turnF t3)
    have P3 := Lib.hid (P2.out.keeps t3.keeps NPF.out)
    have LK3 := Lib.hid (LK2.out.turnF t3)
    clear x0 x1 x2 x3 y0 y1 y2 z0 z1 z2 t3
    -- P3.out a Box3
    have y0 := (P3.out).r.cellD 0 _ rfl
    have y1 := (P3.out).r.cellD 1 _ rfl
    have y2 := (P3.out).r.cellD 2 _ rfl
    have z0 := (P3.out).s.cellD 0 _ rfl
    have z1 := (P3.out).s.cellD 1 _ rfl
    have z2 := (P3.out).s.cellD 2 _ rfl
    have x0 := (P3.out).a.cellD 0 _ rfl
    have x1 := (P3.out).a.cellD 1 _ rfl
    have x2 := (P3.out).a.cellD 2 _ rfl
    have x3 := (P3.out).a.cellD 3 _ rfl
    go_wp2_with fail
    refine (rfarm_any Br Lr r qr n A bl bc bs w3 H3.out.g H3.out.gq (RB.out w3 Lr r H3.out.keeps H3.out.g) (by omega)).mono ?_
    rintro e w4 ⟨rfl, Lr4, t4⟩
    have H4 := Lib.hid (H3.out.turnR t4)
    have LK4 := Lib.hid (LK3.out.turnR t4)
    clear t4
    go_wp2
    go_ret
    exact ⟨rfl, L3, _, Lr4, _, H4.out, SI.out, RM.out, EL.out, LK4.out⟩
  have e5 : decide (k = 5) = false := decide_eq_false q5
  by_cases q6 : k = 6
  · subst q6
    have SI := Lib.hid HS.out.boot
    have RM := Lib.hid HR.out.bootF
    have EL : Hid (s.bootF.er.length = s.er.length) := rfl
    go_wp2_with fail
    refine (lboot H2.out.f).mono ?_
    rintro e w3 ⟨rfl, L3, -, t3⟩
    have H3 := Lib.hid (H2.out.turnF t3)
    have LK3 := Lib.hid (LK2.out.turnF t3)
    clear x0 x1 x2 x3 y0 y1 y2 z0 z1 z2 t3
    go_wp2_with fail
    refine (rfboot_any Br Lr r qr w3 H3.out.g H3.out.gq).mono ?_
    rintro e w4 ⟨rfl, Lr4, t4⟩
    have H4 := Lib.hid (H3.out.turnR t4)
    have LK4 := Lib.hid (LK3.out.turnR t4)
    clear t4
    go_wp2
    go_ret
    exact ⟨rfl, L3, _, Lr4, _, H4.out, SI.out, RM.out, EL.out, LK4.out⟩
  have e6 : decide (k = 6) = false := decide_eq_false q6
  go_wp2
  go_ret
  exact ⟨rfl, L, s, Lr, r, H2.out, HS.out, HR.out.less (by omega), rfl, LK2.out⟩
end Go.Proofs.Ytngofnlhbhfigaa
