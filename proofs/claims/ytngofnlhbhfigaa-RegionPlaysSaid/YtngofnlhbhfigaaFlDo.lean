/- The law's `do`: a call on both flashes. -/
import Derived.Test.YtngofnlhbhfigaaRfLaw
namespace Go.Proofs.Ytngofnlhbhfigaa
open Go.RowKit

def DoTold (W : World) (B q Br qr m el : Nat) (e : Ending) (w' : World) : Prop :=
  e = .returned (.bool true) ∧ ∃ L' s' Lr' r', FR W w' B q L' s' Br qr Lr' r' ∧ Sim s' r' ∧ Room s' m ∧ s'.er.length = el
set_option maxRecDepth 100000 in
set_option maxHeartbeats 3200000 in
theorem do2_any {W w : World} {B q : Nat} {L : FL} {s : FS} {Br qr : Nat} {Lr : RL} {r : FS} (h : FR W w B q L s Br qr Lr r) (hs : Sim s r) (m : Nat) (hr : Room s (m + 1101)) (k a n : Int) (A : Option Addr) (bl bc : Nat) (bs : List Int)
    (hb : Bs W A bl bc bs) (hbl : bl ≤ 1100) (hn : n ≤ 9223372036854775807) :
    Calls Try.prog 36 #[.pointer (some ⟨q, 0, none⟩), .pointer (some ⟨qr, 0, none⟩), .agg #[.int .i64 k, .int .i64 a, .int .i64 n, .slice A bl bc]] w (DoTold W B q Br qr m s.er.length) := by
  have hle := hb.le
  have hmx := hb.max
  have HN := Lib.hid hn
  have HF := Lib.hid h
  have HS := Lib.hid hs
  have HR := Lib.hid hr
  have HB := Lib.hid hb
  have HL := Lib.hid hb.len
  have st1 := hr.st.1
  have st2 := hr.st.2
  clear h hs hr hb hn
  go_enter Try.func36, Try.ntmps36
  go_wp2_with (at_builtin; refine Hid.out ?_)
  refine Lib.hid ?_
  have PB := Lib.hid (Blk.new w [.int .i64 k, .int .i64 a, .int .i64 n, .slice A bl bc] 48)
  have H1 := Lib.hid (HF.out.alloc (.cells #[.int .i64 k, .int .i64 a, .int .i64 n, .slice A bl bc] 48))
  have NPF : Hid (¬ L.O w.heap.size) := fun hO => by have := HF.out.f.at_.lt _ hO; omega
  have NPR : Hid (¬ Lr.O w.heap.size) := fun hO => by have := HF.out.g.lt _ hO; omega
  simp only [List.size_toArray, List.toArray] at PB H1
  generalize w.alloc (.cells #[.int .i64 k, .int .i64 a, .int .i64 n, .slice A bl bc] 48) = w1 at *
  generalize w.heap.size = pb at *
  clear HF
  refine wpList_append_bs (Own.nil _ w1.heap.size) (HB.out.keeps H1.out.keeps (fun _ _ _ _ _ h => h)) (by simp; omega) (Nat.le_refl _) rfl rfl rfl rfl rfl ?_
  intro v2 w2 ho2 hk2
  rw [List.nil_append] at ho2
  obtain ⟨A2, c2, rfl, bs2, -⟩ := ho2.shape
  rw [HL.out] at ho2 bs2 ⊢
  have k2 : Keeps None w1 w2 := hk2.mono (fun i hi e => by simp [Value.ownBlock] at e)
  have H2 := Lib.hid (H1.out.later k2)
  have P2 := Lib.hid (k2.blk PB.out (fun h => h))
  have LB := Lib.hid (Lb.new H1.out.f.at_ ho2)
  have BB := Lib.hid bs2
  have RB := Lib.hid (fun w' Lr' r' (hk : Keeps None W w') (hg : RAt w' Br Lr' r') => Rb.arg HB.out hk hg H2.out.gB)
  clear ho2 hk2 bs2 k2 H1 PB
  have x0 := P2.out.cellD 0 _ rfl
  have x1 := P2.out.cellD 1 _ rfl
  have x2 := P2.out.cellD 2 _ rfl
  have x3 := P2.out.cellD 3 _ rfl
  by_cases q1 : k = 1
  · subst q1
    obtain ⟨zs, er, hrd⟩ : ∃ zs er, s.readF a n = (zs, er) := ⟨_, _, rfl⟩
    have RD : Hid (∀ w', FR W w' B q L s Br qr Lr r → Calls Try.prog 78 #[.pointer (some ⟨qr, 0, none⟩), .int .i64 a, .int .i64 n] w' (ReadTold w' (zs, er))) := fun w' h' => by
      have := rfread_any Br Lr r qr a n w' h'.g h'.gq
      rwa [HS.out.read, hrd] at this
    have RF : Hid (∀ w', FR W w' B q L s Br qr Lr r → Calls Try.prog 31 #[.pointer (some ⟨q, 0, none⟩), .int .i64 a, .int .i64 n] w' (ReadTold w' (zs, er))) := fun w' h' => by
      have := lread h'.f a n
      rwa [hrd] at this
    clear hrd
    go_wp2_with fail
    refine (RF.out _ H2.out).mono ?_
    rintro e w3 ⟨v3, rfl, o3, k3⟩
    obtain ⟨A3, c3, rfl, b3⟩ := slice_of_own o3
    have H3 := Lib.hid (H2.out.later k3)
    have P3 := Lib.hid (k3.blk P2.out (fun h => h))
    have B3 := Lib.hid b3
    clear o3 k3 b3 x0 x1 x2 x3 RF
    have x1 := P3.out.cellD 1 _ rfl
    have x2 := P3.out.cellD 2 _ rfl
    go_wp2_with fail
    refine (RD.out _ H3.out).mono ?_
    rintro e w4 ⟨v4, rfl, o4, k4⟩
    obtain ⟨A4, c4, rfl, b4⟩ := slice_of_own o4
    have H4 := Lib.hid (H3.out.later k4)
    obtain ⟨sz, hsz⟩ : ∃ sz, strOf zs = sz := ⟨_, rfl⟩
    have s3 := run_str (B3.out.keeps k4 (fun _ _ _ _ _ h => h))
    have s4 := run_str b4
    rw [hsz] at s3 s4
    have qz : (sz.toList == sz.toList) = true := by simp
    clear o4 k4 b4 x1 x2 RD hsz
    go_wp2_with fail
    refine (num2_any _ _).mono ?_
    rintro e w' ⟨rfl, rfl⟩
    go_wp2
    go_ret
    exact ⟨by first | rfl | simp, L, s, Lr, r, H4.out, HS.out, HR.out.less (by omega), rfl⟩
  have e1 : decide (k = 1) = false := decide_eq_false q1
  by_cases q2 : k = 2
  · subst q2
    have SI := Lib.hid (HS.out.prog a bs (by rw [HL.out]; omega))
    have RM := Lib.hid (HR.out.progF a (zs := bs) (by rw [HL.out]; exact hbl))
    have EL : Hid ((s.progF a bs).1.er.length = s.er.length) := by show _ = _; rw [(prog_more s a bs).1]
    clear x0 x1 x2 x3
    have x0 := P2.out.cellD 0 _ rfl
    -- 4,5,11 14 region: E n, lprogram H2.out.drew.f (LB.out.later (Keeps.refl None w2).drew) a (by omega) f's contract at H, rfprogram_any Br Lr r qr a A bl bc bs w3 H3.out.g H3.out.gq (RB.out w3 Lr r H3.out.keeps H3.out.g) (by rw [HS.out.steps]; omega) rf's contract at H3
    go_wp2
    obtain ⟨mS, mh⟩ : ∃ S : World → Prop, ∀ w', S w' ↔ (w'.cell? ⟨pb, 1, none⟩ = some (.int .i64 a) ∧ w'.cell? ⟨pb, 3, none⟩ = some (.slice A bl bc)) := ⟨_, fun _ => Iff.rfl⟩
    have mk0 : ∀ x : Memb mS, x.at_.cell? ⟨pb, 1, none⟩ = some (.int .i64 a) := fun x => ((mh _).1 x.is).1
    have mk1 : ∀ x : Memb mS, x.at_.cell? ⟨pb, 3, none⟩ = some (.slice A bl bc) := fun x => ((mh _).1 x.is).2
    have mn : Nonempty (Memb mS) := ⟨⟨(w2).drew, (mh _).2 ⟨P2.out.cellD 1 _ rfl, P2.out.cellD 3 _ rfl⟩⟩⟩
    have mH := Lib.hid mh
    clear mh
    refine wp_region_mix [4, 5, 11] (InS mS) (by kernel_rfl) (by kernel_rfl) (InS.mk ((mH.out _).2 ⟨P2.out.cellD 1 _ rfl, P2.out.cellD 3 _ rfl⟩)) ?_
    refine wpMix_seg 4 (by kernel_rfl) (by decide) ?_
    simp only [List.take_succ_cons, List.take_zero, List.drop_succ_cons, List.drop_zero]
    repeat (go_big_quiet_step (fail))
    refine wpQuiet_nil ?_
    refine wpMix_eff (by kernel_rfl) ?_
    go_wp2_with fail
    refine (lprogram H2.out.drew.f (LB.out.later (Keeps.refl None w2).drew) a (by omega)).mono ?_
    rintro e w3 ⟨rfl, L3, -, t3⟩
    have H3 := Lib.hid (H2.out.drew.turnF t3)
    have P3 := Lib.hid (t3.keeps.blk P2.out.drew NPF.out)
    go_wp2
    refine MixK.on (InS.mk ((mH.out _).2 (⟨P3.out.cellD 1 _ rfl, P3.out.cellD 3 _ rfl⟩))) ?_
    refine wpMix_eff (by kernel_rfl) ?_
    go_wp2_with fail
    refine (num2_any _ _).mono ?_
    rintro e w' ⟨rfl, rfl⟩
    go_wp2
    refine MixK.on (InS.mk ((mH.out _).2 (⟨P3.out.cellD 1 _ rfl, P3.out.cellD 3 _ rfl⟩))) ?_
    refine wpMix_seg 5 (by kernel_rfl) (by decide) ?_
    simp only [List.take_succ_cons, List.take_zero, List.drop_succ_cons, List.drop_zero]
    repeat (go_big_quiet_step (fail))
    refine wpQuiet_nil ?_
    refine wpMix_eff (by kernel_rfl) ?_
    go_wp2_with fail
    refine (rfprogram_any Br Lr r qr a A bl bc bs w3 H3.out.g H3.out.gq (RB.out w3 Lr r H3.out.keeps H3.out.g) (by rw [HS.out.steps]; omega)).mono ?_
    rintro e w4 ⟨rfl, Lr4, t4⟩
    rw [SI.out.2]
    have H4 := Lib.hid (H3.out.turnR t4)
    have P4 := Lib.hid (t4.keeps.blk P3.out NPR.out)
    go_wp2
    refine MixK.on (InS.mk ((mH.out _).2 (⟨P4.out.cellD 1 _ rfl, P4.out.cellD 3 _ rfl⟩))) ?_
    refine wpMix_seg 2 (by kernel_rfl) (by decide) ?_
    simp only [List.take_succ_cons, List.take_zero, List.drop_succ_cons, List.drop_zero]
    repeat (go_big_quiet_step (fail))
    refine wpQuiet_nil ?_
    refine wpMix_nil ?_
    clear mk0 mk1 mn mH
    go_wp2
    go_ret
    exact ⟨by first | rfl | simp, L3, _, Lr4, _, H4.out, SI.out.1, RM.out, EL.out⟩
  have e2 : decide (k = 2) = false := decide_eq_false q2
  by_cases q3 : k = 3
  · subst q3
    have SI := Lib.hid (HS.out.erase a (by omega))
    have RM := Lib.hid (HR.out.eraseF a)
    have EL := Lib.hid (erase_more s a).1
    have ER := Lib.hid HR.out.er
    clear x0 x1 x2 x3
    have x0 := P2.out.cellD 0 _ rfl
    -- 3,4,8 11 region: E n, lerase H2.out.drew.f a (by omega) (fun i => by have := ER.out i; omega) f's contract at H, rferase_any Br Lr r qr a w3 H3.out.g H3.out.gq (by rw [HS.out.steps]; omega) (fun i => by rw [HS.out.er]; have := ER.out i; omega) rf's contract at H3
    go_wp2
    obtain ⟨mS, mh⟩ : ∃ S : World → Prop, ∀ w', S w' ↔ (w'.cell? ⟨pb, 1, none⟩ = some (.int .i64 a) ∧ w'.cell? ⟨pb, 3, none⟩ = some (.slice A bl bc)) := ⟨_, fun _ => Iff.rfl⟩
    have mk0 : ∀ x : Memb mS, x.at_.cell? ⟨pb, 1, none⟩ = some (.int .i64 a) := fun x => ((mh _).1 x.is).1
    have mk1 : ∀ x : Memb mS, x.at_.cell? ⟨pb, 3, none⟩ = some (.slice A bl bc) := fun x => ((mh _).1 x.is).2
    have mn : Nonempty (Memb mS) := ⟨⟨(w2).drew, (mh _).2 ⟨P2.out.cellD 1 _ rfl, P2.out.cellD 3 _ rfl⟩⟩⟩
    have mH := Lib.hid mh
    clear mh
    refine wp_region_mix [3, 4, 8] (InS mS) (by kernel_rfl) (by kernel_rfl) (InS.mk ((mH.out _).2 ⟨P2.out.cellD 1 _ rfl, P2.out.cellD 3 _ rfl⟩)) ?_
    refine wpMix_seg 3 (by kernel_rfl) (by decide) ?_
    simp only [List.take_succ_cons, List.take_zero, List.drop_succ_cons, List.drop_zero]
    repeat (go_big_quiet_step (fail))
    refine wpQuiet_nil ?_
    refine wpMix_eff (by kernel_rfl) ?_
    go_wp2_with fail
    refine (lerase H2.out.drew.f a (by omega) (fun i => by have := ER.out i; omega)).mono ?_
    rintro e w3 ⟨rfl, L3, -, t3⟩
    have H3 := Lib.hid (H2.out.drew.turnF t3)
    have P3 := Lib.hid (t3.keeps.blk P2.out.drew NPF.out)
    go_wp2
    refine MixK.on (InS.mk ((mH.out _).2 (⟨P3.out.cellD 1 _ rfl, P3.out.cellD 3 _ rfl⟩))) ?_
    refine wpMix_eff (by kernel_rfl) ?_
    go_wp2_with fail
    refine (num2_any _ _).mono ?_
    rintro e w' ⟨rfl, rfl⟩
    go_wp2
    refine MixK.on (InS.mk ((mH.out _).2 (⟨P3.out.cellD 1 _ rfl, P3.out.cellD 3 _ rfl⟩))) ?_
    refine wpMix_seg 3 (by kernel_rfl) (by decide) ?_
    simp only [List.take_succ_cons, List.take_zero, List.drop_succ_cons, List.drop_zero]
    repeat (go_big_quiet_step (fail))
    refine wpQuiet_nil ?_
    refine wpMix_eff (by kernel_rfl) ?_
    go_wp2_with fail
    refine (rferase_any Br Lr r qr a w3 H3.out.g H3.out.gq (by rw [HS.out.steps]; omega) (fun i => by rw [HS.out.er]; have := ER.out i; omega)).mono ?_
    rintro e w4 ⟨rfl, Lr4, t4⟩
    rw [SI.out.2]
    have H4 := Lib.hid (H3.out.turnR t4)
    have P4 := Lib.hid (t4.keeps.blk P3.out NPR.out)
    go_wp2
    refine MixK.on (InS.mk ((mH.out _).2 (⟨P4.out.cellD 1 _ rfl, P4.out.cellD 3 _ rfl⟩))) ?_
    refine wpMix_seg 2 (by kernel_rfl) (by decide) ?_
    simp only [List.take_succ_cons, List.take_zero, List.drop_succ_cons, List.drop_zero]
    repeat (go_big_quiet_step (fail))
    refine wpQuiet_nil ?_
    refine wpMix_nil ?_
    clear mk0 mk1 mn mH
    go_wp2
    go_ret
    exact ⟨by first | rfl | simp, L3, _, Lr4, _, H4.out, SI.out.1, RM.out, EL.out⟩
  have e3 : decide (k = 3) = false := decide_eq_false q3
  by_cases q4 : k = 4
  · subst q4
    have SI := Lib.hid (HS.out.arm n bs st1)
    have RM := Lib.hid (HR.out.armF n bs)
    have EL : Hid ((s.armF n bs).er.length = s.er.length) := by show _ = _; unfold FS.armF; split <;> rfl
    go_wp2_with fail
    refine (larm H2.out.f BB.out (by omega) n HN.out).mono ?_
    rintro e w3 ⟨rfl, L3, -, t3⟩
    have H3 := Lib.hid (H2.out.turnF t3)
    have P3 := Lib.hid (t3.keeps.blk P2.out NPF.out)
    clear x0 x1 x2 x3 t3
    have x2 := P3.out.cellD 2 _ rfl
    have x3 := P3.out.cellD 3 _ rfl
    go_wp2_with fail
    refine (rfarm_any Br Lr r qr n A bl bc bs w3 H3.out.g H3.out.gq (RB.out w3 Lr r H3.out.keeps H3.out.g) (by omega)).mono ?_
    rintro e w4 ⟨rfl, Lr4, t4⟩
    have H4 := Lib.hid (H3.out.turnR t4)
    clear t4
    go_wp2
    go_ret
    exact ⟨rfl, L3, _, Lr4, _, H4.out, SI.out, RM.out, EL.out⟩
  have e4 : decide (k = 4) = false := decide_eq_false q4
  by_cases q5 : k = 5
  · subst q5
    have SI := Lib.hid HS.out.boot
    have RM := Lib.hid HR.out.bootF
    have EL : Hid (s.bootF.er.length = s.er.length) := rfl
    go_wp2_with fail
    refine (lboot H2.out.f).mono ?_
    rintro e w3 ⟨rfl, L3, -, t3⟩
    have H3 := Lib.hid (H2.out.turnF t3)
    clear x0 x1 x2 x3 t3
    go_wp2_with fail
    refine (rfboot_any Br Lr r qr w3 H3.out.g H3.out.gq).mono ?_
    rintro e w4 ⟨rfl, Lr4, t4⟩
    have H4 := Lib.hid (H3.out.turnR t4)
    clear t4
    go_wp2
    go_ret
    exact ⟨rfl, L3, _, Lr4, _, H4.out, SI.out, RM.out, EL.out⟩
  have e5 : decide (k = 5) = false := decide_eq_false q5
  by_cases q6 : k = 6
  · subst q6
    have SI := Lib.hid (HS.out.spoil a bs)
    have RM := Lib.hid (HR.out.spoilF a bs)
    have EL : Hid ((s.spoilF a bs).1.er.length = s.er.length) := by show _ = _; unfold FS.spoilF; split <;> rfl
    clear x0 x1 x2 x3
    have x0 := P2.out.cellD 0 _ rfl
    -- 4,5,11 14 region: E n, lspoil H2.out.drew.f (BB.out.keeps (Keeps.refl None w2).drew (fun _ _ _ _ _ h => h)) a f's contract at H, rfspoil_any Br Lr r qr a A bl bc bs w3 H3.out.g H3.out.gq (RB.out w3 Lr r H3.out.keeps H3.out.g) rf's contract at H3
    go_wp2
    obtain ⟨mS, mh⟩ : ∃ S : World → Prop, ∀ w', S w' ↔ (w'.cell? ⟨pb, 1, none⟩ = some (.int .i64 a) ∧ w'.cell? ⟨pb, 3, none⟩ = some (.slice A bl bc)) := ⟨_, fun _ => Iff.rfl⟩
    have mk0 : ∀ x : Memb mS, x.at_.cell? ⟨pb, 1, none⟩ = some (.int .i64 a) := fun x => ((mh _).1 x.is).1
    have mk1 : ∀ x : Memb mS, x.at_.cell? ⟨pb, 3, none⟩ = some (.slice A bl bc) := fun x => ((mh _).1 x.is).2
    have mn : Nonempty (Memb mS) := ⟨⟨(w2).drew, (mh _).2 ⟨P2.out.cellD 1 _ rfl, P2.out.cellD 3 _ rfl⟩⟩⟩
    have mH := Lib.hid mh
    clear mh
    refine wp_region_mix [4, 5, 11] (InS mS) (by kernel_rfl) (by kernel_rfl) (InS.mk ((mH.out _).2 ⟨P2.out.cellD 1 _ rfl, P2.out.cellD 3 _ rfl⟩)) ?_
    refine wpMix_seg 4 (by kernel_rfl) (by decide) ?_
    simp only [List.take_succ_cons, List.take_zero, List.drop_succ_cons, List.drop_zero]
    repeat (go_big_quiet_step (fail))
    refine wpQuiet_nil ?_
    refine wpMix_eff (by kernel_rfl) ?_
    go_wp2_with fail
    refine (lspoil H2.out.drew.f (BB.out.keeps (Keeps.refl None w2).drew (fun _ _ _ _ _ h => h)) a).mono ?_
    rintro e w3 ⟨rfl, L3, -, t3⟩
    have H3 := Lib.hid (H2.out.drew.turnF t3)
    have P3 := Lib.hid (t3.keeps.blk P2.out.drew NPF.out)
    go_wp2
    refine MixK.on (InS.mk ((mH.out _).2 (⟨P3.out.cellD 1 _ rfl, P3.out.cellD 3 _ rfl⟩))) ?_
    refine wpMix_eff (by kernel_rfl) ?_
    go_wp2_with fail
    refine (num2_any _ _).mono ?_
    rintro e w' ⟨rfl, rfl⟩
    go_wp2
    refine MixK.on (InS.mk ((mH.out _).2 (⟨P3.out.cellD 1 _ rfl, P3.out.cellD 3 _ rfl⟩))) ?_
    refine wpMix_seg 5 (by kernel_rfl) (by decide) ?_
    simp only [List.take_succ_cons, List.take_zero, List.drop_succ_cons, List.drop_zero]
    repeat (go_big_quiet_step (fail))
    refine wpQuiet_nil ?_
    refine wpMix_eff (by kernel_rfl) ?_
    go_wp2_with fail
    refine (rfspoil_any Br Lr r qr a A bl bc bs w3 H3.out.g H3.out.gq (RB.out w3 Lr r H3.out.keeps H3.out.g)).mono ?_
    rintro e w4 ⟨rfl, Lr4, t4⟩
    rw [SI.out.2]
    have H4 := Lib.hid (H3.out.turnR t4)
    have P4 := Lib.hid (t4.keeps.blk P3.out NPR.out)
    go_wp2
    refine MixK.on (InS.mk ((mH.out _).2 (⟨P4.out.cellD 1 _ rfl, P4.out.cellD 3 _ rfl⟩))) ?_
    refine wpMix_seg 2 (by kernel_rfl) (by decide) ?_
    simp only [List.take_succ_cons, List.take_zero, List.drop_succ_cons, List.drop_zero]
    repeat (go_big_quiet_step (fail))
    refine wpQuiet_nil ?_
    refine wpMix_nil ?_
    clear mk0 mk1 mn mH
    go_wp2
    go_ret
    exact ⟨by first | rfl | simp, L3, _, Lr4, _, H4.out, SI.out.1, RM.out, EL.out⟩
  have e6 : decide (k = 6) = false := decide_eq_false q6
  by_cases q7 : k = 7
  · subst q7
    go_wp2_with fail
    refine (rfcopy_any Br Lr r qr w2 H2.out.g H2.out.gq).mono ?_
    rintro e w3 ⟨b, v0, v1, v4, rfl, hb3, k3, f3, o3, nb⟩
    rw [HS.out.b] at o3
    obtain ⟨A0, c0, rfl, b0, -⟩ := o3.shape
    have hbl2 := H2.out.f.at_.bl
    have hN1 : 1 ≤ s.b.length := by rw [hbl2]; have := H2.out.f.at_.nN; have := H2.out.f.at_.n0; omega
    have hN9 : s.b.length ≤ 262144 := by rw [hbl2]; have := H2.out.f.at_.nN; have := H2.out.f.at_.n9; omega
    obtain ⟨gb, rfl, -⟩ := o3.at_ (k := 0) hN1
    have H3 := Lib.hid (H2.out.later k3)
    have P3 := Lib.hid (k3.blk P2.out (fun h => h))
    have hpb : b ≠ pb := fun e => by have := P2.out.lt; omega
    have hgb : gb ≠ b := fun e => nb (by rw [e]; rfl)
    have kk : Keeps (fun k => k = b) w3 (w3.setCell ⟨b, 5, none⟩ (.bool false)) := (Keeps.self b w3).put 5 _
    have K4 := Lib.hid (k3.trans kk (T := fun k => k = b) (fun _ h => h.elim) (fun i hi e => e))
    have P4 := Lib.hid (kk.blk P3.out (fun e => hpb e.symm))
    have F4 := Lib.hid (f3.set 5 (.bool false))
    have H4 : Hid (FR W (w3.setCell ⟨b, 5, none⟩ (.bool false)) B q L s Br qr Lr r) := H2.out.later (k3.trans kk (T := None) (fun _ h => h) (fun i hi e => by omega))
    have B4 := Lib.hid (b0.keeps kk (fun b' off' _ _ e e2 => by cases e; exact hgb e2))
    have y5 := f3.cellD 5 _ rfl
    have z5 := f3.frozen 5
    clear hb3 k3 o3 b0 kk x0 x1 x2 x3 nb hpb hgb H3 P3 K4
    clear f3
    obtain ⟨zs, hzs⟩ : ∃ zs, s.peekF a n = zs := ⟨_, rfl⟩
    obtain ⟨er, her⟩ : ∃ er : Int, (if withinB a n s.b.length = true then ((s.b.drop a.toNat).take n.toNat, (0 : Int)) else ([], 2)) = (zs, er) := by
      rw [← hzs]
      unfold FS.peekF
      split
      · exact ⟨0, rfl⟩
      · exact ⟨2, rfl⟩
    have RC := Lib.hid (fun w' hf hb => rfreadc_any b gb s.b.length c0 s.b v1 v4 r.steps r.left a n w' hf hb hN9)
    rw [her] at RC
    have PK := Lib.hid (fun w' (h' : FR W w' B q L s Br qr Lr r) => lpeek h'.f a n)
    rw [hzs] at PK
    clear hzs her hbl2
    have x1 := P4.out.cellD 1 _ rfl
    have x2 := P4.out.cellD 2 _ rfl
    go_wp2_with fail
    refine (RC.out _ F4.out B4.out).mono ?_
    rintro e w5 ⟨v5, rfl, o5, k5⟩
    obtain ⟨A5, c5, rfl, b5⟩ := slice_of_own o5
    have H5 := Lib.hid (H4.out.later k5)
    have P5 := Lib.hid (k5.blk P4.out (fun h => h))
    have B5 := Lib.hid b5
    clear o5 k5 b5 x1 x2 RC F4 B4 H4 P4
    obtain ⟨sz, hsz⟩ : ∃ sz, strOf zs = sz := ⟨_, rfl⟩
    have HSZ := Lib.hid hsz
    have qz : (sz.toList == sz.toList) = true := by simp
    clear hsz
    go_wp2
    obtain ⟨mS, mh⟩ : ∃ S : World → Prop, ∀ w', S w' ↔ (w'.cell? ⟨pb, 1, none⟩ = some (.int .i64 a) ∧ w'.cell? ⟨pb, 2, none⟩ = some (.int .i64 n) ∧ ((convert 22 9 (.slice A5 zs.length c5)).run Try.prog w' = .ok (.string sz) w')) := ⟨_, fun _ => Iff.rfl⟩
    have mk0 : ∀ x : Memb mS, x.at_.cell? ⟨pb, 1, none⟩ = some (.int .i64 a) := fun x => ((mh _).1 x.is).1
    have mk1 : ∀ x : Memb mS, x.at_.cell? ⟨pb, 2, none⟩ = some (.int .i64 n) := fun x => ((mh _).1 x.is).2.1
    have mk2 : ∀ x : Memb mS, (convert 22 9 (.slice A5 zs.length c5)).run Try.prog x.at_ = .ok (.string sz) x.at_ := fun x => ((mh _).1 x.is).2.2
    have mn : Nonempty (Memb mS) := ⟨⟨(w5).drew, (mh _).2 ⟨P5.out.cellD 1 _ rfl, P5.out.cellD 2 _ rfl, (HSZ.out ▸ run_str B5.out.drew)⟩⟩⟩
    have mH := Lib.hid mh
    clear mh
    refine wp_region_mix [5, 6] (InS mS) (by kernel_rfl) (by kernel_rfl) (InS.mk ((mH.out _).2 ⟨P5.out.cellD 1 _ rfl, P5.out.cellD 2 _ rfl, (HSZ.out ▸ run_str B5.out.drew)⟩)) ?_
    refine wpMix_seg 5 (by kernel_rfl) (by decide) ?_
    simp only [List.take_succ_cons, List.take_zero, List.drop_succ_cons, List.drop_zero]
    repeat (first | go_big_quiet_step (fail) | (go_big_quiet_want; first | refine quiet_conv mk2 rfl rfl rfl (by simp only [Act.put, List.setIfInBounds_toArray, List.set_cons_succ, List.set_cons_zero]; rfl) ?_; go_big_quiet_on))
    refine wpQuiet_nil ?_
    refine wpMix_eff (by kernel_rfl) ?_
    go_wp2_with fail
    refine (PK.out _ H5.out.drew).mono ?_
    rintro e w6 ⟨v6, rfl, o6, k6⟩
    obtain ⟨A6, c6, rfl, b6⟩ := slice_of_own o6
    have H6 := Lib.hid (H5.out.drew.later k6)
    have P6 := Lib.hid (k6.blk P5.out.drew (fun h => h))
    have B6 := Lib.hid (B5.out.drew.keeps k6 (fun _ _ _ _ _ h => h))
    have sd := run_str b6
    rw [HSZ.out] at sd
    clear o6 b6 k6
    go_wp2
    refine MixK.on (InS.mk ((mH.out _).2 (⟨P6.out.cellD 1 _ rfl, P6.out.cellD 2 _ rfl, HSZ.out ▸ run_str B6.out⟩))) ?_
    refine wpMix_eff (by kernel_rfl) ?_
    go_wp2
    refine MixK.on (InS.mk ((mH.out _).2 (⟨P6.out.cellD 1 _ rfl, P6.out.cellD 2 _ rfl, HSZ.out ▸ run_str B6.out⟩))) ?_
    refine wpMix_seg 4 (by kernel_rfl) (by decide) ?_
    simp only [List.take_succ_cons, List.take_zero, List.drop_succ_cons, List.drop_zero]
    repeat (first | go_big_quiet_step (fail) | (go_big_quiet_want; first | refine quiet_conv mk2 rfl rfl rfl (by simp only [Act.put, List.setIfInBounds_toArray, List.set_cons_succ, List.set_cons_zero]; rfl) ?_; go_big_quiet_on))
    refine wpQuiet_nil ?_
    refine wpMix_nil ?_
    clear mk0 mk1 mk2 mn mH
    go_wp2
    go_ret
    exact ⟨by first | rfl | simp, L, s, Lr, r, H6.out, HS.out, HR.out.less (by omega), rfl⟩
  have e7 : decide (k = 7) = false := decide_eq_false q7
  go_wp2
  go_ret
  exact ⟨rfl, L, s, Lr, r, H2.out, HS.out, HR.out.less (by omega), rfl⟩
end Go.Proofs.Ytngofnlhbhfigaa
