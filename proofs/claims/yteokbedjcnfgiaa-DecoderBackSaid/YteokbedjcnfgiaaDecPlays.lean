/-
  For every row of calls, the law DecoderPlays returns true: a decoder tells what the reference's decoder tells. No condition.
-/
import Derived.Test.YteokbedjcnfgiaaDec
import Derived.Test.YteokbedjcnfgiaaFrame
import Derived.Test.YteokbedjcnfgiaaInit
namespace Go.Proofs.Yteokbedjcnfgiaa
open Go.RowKit Go.ChangeShapes Go.WideShapes Go.ChangeAt

set_option maxRecDepth 100000 in
set_option maxHeartbeats 800000 in
theorem alive17_any (w : World) : Calls Try.prog 22 #[] w fun e w' => e = .returned (.bool true) ∧ Below w.heap.size w w' := by
  go_enter Try.func22, Try.ntmps22
  go_wp2_with (go_at_call 23; refine (dnew_any _).mono ?_; rintro e w1 ⟨rfl, h1, k1⟩)
  obtain ⟨b, hb⟩ : ∃ b, b = w.heap.size := ⟨_, rfl⟩
  rw [← hb] at h1 ⊢
  have hb2 : w.heap.size ≤ b := by omega
  have H1 := Lib.hid h1
  have K1 := Lib.hid (k1.ofNone (S := fun i => w.heap.size ≤ i))
  clear h1 k1 hb
  go_loopw [2] (fun i wr => ∃ k : Nat, k ≤ 4 ∧ i = .int .i64 k ∧ DAt wr b 90 ⟨0, 4294967295, 4 - k⟩ ∧ Keeps (fun i => w.heap.size ≤ i) w wr) (fun i _ => 4 - (intOf i).toNat)
  case atStart => exact ⟨0, Nat.zero_le _, rfl, H1.out, K1.out⟩
  case round =>
    obtain ⟨k, hk4, rfl, hd, hk⟩ := hrel
    clear H1 K1
    by_cases hlt : k < 4
    · have N := Lib.hid (dneed_any b _ wr hd)
      have e1 : dNeedB ⟨0, 4294967295, 4 - k⟩ = true := by simp [dNeedB]; omega
      have e2 : dByteS ⟨0, 4294967295, 4 - (k : Int)⟩ 0 = ⟨0, 4294967295, 4 - ((k + 1 : Nat) : Int)⟩ := by
        have h0 : (0 : Int) < 4 - k := by omega
        have h1 : (4 : Int) - k - 1 = 4 - ((k + 1 : Nat) : Int) := by omega
        show (if (0 : Int) < 4 - k then (⟨0, 4294967295, 4 - k - 1⟩ : DSt) else _) = _
        rw [if_pos h0, h1]
      have Y := Lib.hid (dbyte_any b _ 0 wr hd ⟨by simp, by simp, by simp, by simp, by simp only; omega, by simp only; omega, fun _ => rfl, fun _ => by simp, fun _ => by simp, fun _ => by simp⟩ (by decide))
      rw [e1] at N Y
      rw [e2] at Y
      have HK := Lib.hid hk
      clear e1 e2 hd hk
      go_wp2_with (first | (go_at_call 31; refine N.out.mono ?_; rintro e w' ⟨rfl, rfl⟩) | (go_at_call 25; refine Y.out.mono ?_; rintro e w3 ⟨rfl, h3, k3⟩))
      go_roundw
      case rel => exact ⟨k + 1, by omega, by go_num, h3, HK.out.start k3 hb2⟩
      case measure => simp [intOf]; omega
    · obtain rfl : k = 4 := by omega
      have hd' : DAt wr b 90 ⟨0, 4294967295, 0⟩ := hd
      have B := Lib.hid (dbit_any b _ 1024 wr hd' ⟨by decide, by decide, by decide, by decide, by decide, by decide, fun _ => rfl, fun _ => by simp, fun _ => by simp, fun _ => by simp⟩)
      have e1 : dBitB ⟨0, 4294967295, 0⟩ 1024 = 0 := by decide
      have e2 : dBitP ⟨0, 4294967295, 0⟩ 1024 = 1056 := by decide
      have e3 : dBitS ⟨0, 4294967295, 0⟩ 1024 = ⟨0, 2147482624, 0⟩ := by kernel_rfl
      rw [e1, e2, e3] at B
      have HK := Lib.hid hk
      clear e1 e2 e3 hd hk hd'
      go_wp2_with fail
      refine B.out.mono ?_
      rintro e w3 ⟨rfl, h3, k3⟩
      have L := Lib.hid (dlost_any b _ w3 h3)
      have e4 : dLostB ⟨0, 2147482624, 0⟩ = false := by decide
      rw [e4] at L
      clear e4 h3
      go_wp2_with (go_at_call 32; refine L.out.mono ?_; rintro e w4 ⟨rfl, n, rfl⟩)
      go_ret
      exact ⟨rfl, ((HK.out.start k3 hb2).drewN n).below (fun i hi h => by omega)⟩

/-- What the loop keeps. -/
structure DPlay (W w : World) (b rb : Nat) (s : DSt) : Prop where
  m : DAt w b 90 s
  r : DAt w rb 50 s
  ok : DOk s
  keeps : Keeps (fun k => W.heap.size ≤ k) W w
  fresh : W.heap.size ≤ b ∧ W.heap.size ≤ rb
  apart : b ≠ rb
theorem DPlay.drewN {W w : World} {b rb : Nat} {s : DSt} (p : DPlay W w b rb s) (k : Nat) : DPlay W (w.drewN k) b rb s := ⟨p.m, p.r, p.ok, p.keeps.drewN k, p.fresh, p.apart⟩
/-- Both take the same step. -/
theorem DPlay.step {W w w1 w2 : World} {b rb : Nat} {s s' : DSt} (p : DPlay W w b rb s) (h1 : DAt w1 b 90 s') (k1 : Keeps (fun k => k = b) w w1) (h2 : DAt w2 rb 50 s') (k2 : Keeps (fun k => k = rb) w1 w2) (ok : DOk s') : DPlay W w2 b rb s' :=
  ⟨h1.keeps k2 p.apart, h2, ok, (p.keeps.start k1 p.fresh.1).start k2 p.fresh.2, p.fresh, p.apart⟩


set_option maxRecDepth 100000 in
set_option maxHeartbeats 1600000 in
theorem plays17_any (A : Option Addr) (n cap : Nat) (xs : List Value) (W : World) (hs : IsSl W A n cap 3 xs)
    (hf : ∀ i, i < n → ∃ z0 z1 z2, xs[i * 3]? = some (.int .i64 z0) ∧ xs[i * 3 + 1]? = some (.int .i64 z1) ∧ xs[i * 3 + 2]? = some (.int .u8 z2) ∧ 0 ≤ z2 ∧ z2 ≤ 255) :
    Calls Try.prog 4 #[.slice A n cap] W fun e w' => e = .returned (.bool true) ∧ Below W.heap.size W w' := by
  obtain ⟨_, hcap, hmax, hcell⟩ := hs
  have HF := Lib.hid hf
  have HC := Lib.hid hcell
  clear hf hcell
  by_cases hbig : 300 < n
  · have d1 : decide (300 < (n : Int)) = true := by simp; omega
    go_enter Try.func4, Try.ntmps4
    go_wp2_with (go_at_call 22; refine (alive17_any _).mono ?_; rintro e w1 ⟨rfl, hk⟩)
    go_ret
    exact ⟨rfl, hk⟩
  have d1 : decide (300 < (n : Int)) = false := by simp; omega
  go_enter Try.func4, Try.ntmps4
  go_wp2_with (first | (go_at_call 22; refine (alive17_any _).mono ?_; rintro e w1 ⟨rfl, hk⟩) | (go_at_call 23; refine (dnew_any _).mono ?_; rintro e w2 ⟨rfl, h2, k2⟩) | (go_at_call 24; refine (rdnew_any _).mono ?_; rintro e w3 ⟨rfl, h3, k3⟩))
  have key : DPlay W w3 w1.heap.size w2.heap.size ⟨0, 4294967295, 4⟩ := by
    have s1 := hk.size
    have s2 := k2.size
    have l1 := Blk.lt h2
    have kk : Keeps (fun k => W.heap.size ≤ k) W w3 := ((show Keeps None W w1 from ⟨hk.os, hk.tape, hk.output, hk.size, fun i hi _ => hk.block i hi⟩).trans k2 (fun _ h => h.elim) (fun _ _ h => h.elim)).trans k3 (fun _ h => h) (fun _ _ h => h.elim)
    exact ⟨h2.keeps k3 (fun h => h), h3, DOk.new, kk, by omega, by omega⟩
  have KEY := Lib.hid key
  clear key hk h2 k2 h3 k3
  generalize w1.heap.size = b at *
  generalize w2.heap.size = rb at *
  go_loopw [6] (fun i wr => ∃ (k : Nat) (s : DSt), k ≤ n ∧ i = .int .i64 k ∧ DPlay W wr b rb s) (fun i _ => n - (intOf i).toNat)
  case atStart => exact ⟨0, _, Nat.zero_le _, rfl, KEY.out⟩
  case round =>
    obtain ⟨k, s, hkn, rfl, hP⟩ := hrel
    clear KEY
    by_cases hlt : k < n
    · obtain ⟨bl, off, rfl, hb, hc⟩ := HC.out (by omega)
      obtain ⟨z0, z1, z2, x0, x1, x2, hz⟩ := HF.out k hlt
      have hcw : ∀ w', Keeps (fun k => W.heap.size ≤ k) W w' → w'.cell? ⟨bl, off + k * 3, none⟩ = some (.int .i64 z0) ∧ w'.cell? ⟨bl, off + k * 3 + 1, none⟩ = some (.int .i64 z1) ∧ w'.cell? ⟨bl, off + k * 3 + 2, none⟩ = some (.int .u8 z2) := fun w' hk => by
        have hcc : ∀ i, i < n * 3 → w'.cell? ⟨bl, off + i, none⟩ = xs[i]? := fun i hi => (hk.cell (p := ⟨bl, off + i, none⟩) hb (by simp; exact hb)).trans (hc i hi)
        exact ⟨(hcc (k * 3) (by omega)).trans x0, (hcc (k * 3 + 1) (by omega)).trans x1, (hcc (k * 3 + 2) (by omega)).trans x2⟩
      have HCW := Lib.hid hcw
      have HZ := Lib.hid hz
      clear x0 x1 x2 hc hcw hz
      obtain ⟨c0, c1, c2⟩ := HCW.out wr hP.keeps
      have HP := Lib.hid hP
      clear hP
      by_cases t1 : z0 = 1
      · subst t1
        have Y := Lib.hid (dbyte_any b s z2 wr.drew HP.out.m HP.out.ok.inv HZ.out)
        have RY := Lib.hid (fun w h => rdbyte_any rb s z2 w h HP.out.ok.inv HZ.out)
        generalize dNeedB s = nb at *
        go_wp2
        obtain ⟨mS, mh⟩ : ∃ S : World → Prop, ∀ w', S w' ↔ (w'.cell? ⟨bl, off + k * 3 + 2, none⟩ = some (.int .u8 z2)) := ⟨_, fun _ => Iff.rfl⟩
        have mk0 : ∀ x : Memb mS, x.at_.cell? ⟨bl, off + k * 3 + 2, none⟩ = some (.int .u8 z2) := fun x => ((mh _).1 x.is)
        have mn : Nonempty (Memb mS) := ⟨⟨(wr).drew, (mh _).2 (c2)⟩⟩
        have mH := Lib.hid mh
        clear mh
        refine wp_region_mix [6, 13] (InS mS) (by kernel_rfl) (by kernel_rfl) (InS.mk ((mH.out _).2 (c2))) ?_
        refine wpMix_seg 6 (by kernel_rfl) (by decide) ?_
        simp only [List.take_succ_cons, List.take_zero, List.drop_succ_cons, List.drop_zero]
        repeat (go_big_quiet_step (fail))
        refine wpQuiet_nil ?_
        refine wpMix_eff (by kernel_rfl) ?_
        go_wp2_with fail
        refine Y.out.mono ?_
        rintro e w4 ⟨rfl, h4, k4⟩
        go_wp2
        refine MixK.on (InS.mk ((mH.out _).2 ((HCW.out w4 ((HP.out.keeps.drew).start k4 HP.out.fresh.1)).2.2))) ?_
        refine wpMix_seg 6 (by kernel_rfl) (by decide) ?_
        simp only [List.take_succ_cons, List.take_zero, List.drop_succ_cons, List.drop_zero]
        repeat (go_big_quiet_step (fail))
        refine wpQuiet_nil ?_
        refine wpMix_eff (by kernel_rfl) ?_
        go_wp2_with fail
        refine (RY.out _ (DAt.keeps HP.out.r.drew k4 HP.out.apart.symm)).mono ?_
        rintro e w5 ⟨rfl, h5, k5⟩
        go_wp2
        refine MixK.on (InS.mk ((mH.out _).2 ((HCW.out w5 (((HP.out.keeps.drew).start k4 HP.out.fresh.1).start k5 HP.out.fresh.2)).2.2))) ?_
        refine wpMix_seg 1 (by kernel_rfl) (by decide) ?_
        simp only [List.take_succ_cons, List.take_zero, List.drop_succ_cons, List.drop_zero]
        repeat (go_big_quiet_step (fail))
        refine wpQuiet_nil ?_
        refine wpMix_nil ?_
        clear mk0 mn mH
        go_wp2
        have HP5 := Lib.hid ((HP.out.drewN 1).step h4 k4 h5 k5 (HP.out.ok.byte z2 HZ.out))
        clear c0 c1 c2 Y RY h4 k4 h5 k5 HP
        obtain ⟨s, HP⟩ : ∃ s, Hid (DPlay W w5 b rb s) := ⟨_, HP5⟩
        have N := Lib.hid (dneed_any b s (World.drew w5) HP.out.m)
        have L := Lib.hid (fun w h => dlost_any b s w h)
        have RL := Lib.hid (fun w h => rdlost_any rb s w h)
        have C := Lib.hid (fun w h => dclean_any b s w h)
        have RC := Lib.hid (fun w h => rdclean_any rb s w h)
        have g2 := Blk.cellD HP.out.r 2 _ rfl
        have HM := Lib.hid HP.out.m
        have HR := Lib.hid HP.out.r
        unfold dNeedB at N
        generalize dLostB s = lo at *
        generalize dCleanB s = cl at *
        generalize s.n = nn at g2 N
        obtain ⟨mS, mh⟩ : ∃ S : World → Prop, ∀ w', S w' ↔ (w'.cell? ⟨rb, 2, none⟩ = some (.int .i64 nn)) := ⟨_, fun _ => Iff.rfl⟩
        have mk0 : ∀ x : Memb mS, x.at_.cell? ⟨rb, 2, none⟩ = some (.int .i64 nn) := fun x => ((mh _).1 x.is)
        have mn : Nonempty (Memb mS) := ⟨⟨(w5).drew, (mh _).2 (g2)⟩⟩
        have mH := Lib.hid mh
        clear mh
        refine wp_region_mix [1, 10, 12, 17, 19] (InS mS) (by kernel_rfl) (by kernel_rfl) (InS.mk ((mH.out _).2 (g2))) ?_
        refine wpMix_seg 1 (by kernel_rfl) (by decide) ?_
        simp only [List.take_succ_cons, List.take_zero, List.drop_succ_cons, List.drop_zero]
        repeat (go_big_quiet_step (fail))
        refine wpQuiet_nil ?_
        refine wpMix_eff (by kernel_rfl) ?_
        go_wp2_with fail
        refine N.out.mono ?_
        rintro e w' ⟨rfl, rfl⟩
        go_wp2
        refine MixK.on (InS.mk ((mH.out _).2 (g2))) ?_
        refine wpMix_seg 8 (by kernel_rfl) (by decide) ?_
        simp only [List.take_succ_cons, List.take_zero, List.drop_succ_cons, List.drop_zero]
        repeat (go_big_quiet_step (fail))
        refine wpQuiet_nil ?_
        refine wpMix_eff (by kernel_rfl) ?_
        go_wp2_with fail
        refine (L.out _ (HM.out.drewN 1)).mono ?_
        rintro e w' ⟨rfl, n1, rfl⟩
        go_wp2
        refine MixK.on (InS.mk ((mH.out _).2 (g2))) ?_
        refine wpMix_seg 1 (by kernel_rfl) (by decide) ?_
        simp only [List.take_succ_cons, List.take_zero, List.drop_succ_cons, List.drop_zero]
        repeat (go_big_quiet_step (fail))
        refine wpQuiet_nil ?_
        refine wpMix_eff (by kernel_rfl) ?_
        go_wp2_with fail
        refine (RL.out _ (HR.out.drewN _)).mono ?_
        rintro e w' ⟨rfl, n2, rfl⟩
        go_wp2
        refine MixK.on (InS.mk ((mH.out _).2 (g2))) ?_
        refine wpMix_seg 4 (by kernel_rfl) (by decide) ?_
        simp only [List.take_succ_cons, List.take_zero, List.drop_succ_cons, List.drop_zero]
        repeat (go_big_quiet_step (fail))
        refine wpQuiet_nil ?_
        refine wpMix_eff (by kernel_rfl) ?_
        go_wp2_with fail
        refine (C.out _ (HM.out.drewN _)).mono ?_
        rintro e w' ⟨rfl, rfl⟩
        go_wp2
        refine MixK.on (InS.mk ((mH.out _).2 (g2))) ?_
        refine wpMix_seg 1 (by kernel_rfl) (by decide) ?_
        simp only [List.take_succ_cons, List.take_zero, List.drop_succ_cons, List.drop_zero]
        repeat (go_big_quiet_step (fail))
        refine wpQuiet_nil ?_
        refine wpMix_eff (by kernel_rfl) ?_
        go_wp2_with fail
        refine (RC.out _ (HR.out.drewN _)).mono ?_
        rintro e w' ⟨rfl, rfl⟩
        go_wp2
        refine MixK.on (InS.mk ((mH.out _).2 (g2))) ?_
        refine wpMix_seg 2 (by kernel_rfl) (by decide) ?_
        simp only [List.take_succ_cons, List.take_zero, List.drop_succ_cons, List.drop_zero]
        repeat (go_big_quiet_step (fail))
        refine wpQuiet_nil ?_
        refine wpMix_nil ?_
        clear mk0 mn mH
        go_wp2
        go_roundw
        case rel => exact ⟨k + 1, s, by omega, by go_num, HP.out.drewN _⟩
        case measure => simp [intOf]; omega
      · have q1 : (z0 == 1) = false := by simpa using t1
        by_cases t2 : z0 = 2
        · subst t2
          have Y := Lib.hid (dbit_any b s z1 wr HP.out.m HP.out.ok.inv)
          have RY := Lib.hid (fun w h => rdbit_any rb s z1 w h HP.out.ok.inv)
          generalize dBitB s z1 = bit at *
          generalize dBitP s z1 = nx at *
          go_wp2_with fail
          refine Y.out.mono ?_
          rintro e w4 ⟨rfl, h4, k4⟩
          obtain ⟨-, d1', -⟩ := HCW.out w4 (HP.out.keeps.start k4 HP.out.fresh.1)
          have R4 := Lib.hid (DAt.keeps HP.out.r k4 HP.out.apart.symm)
          go_wp2_with fail
          refine (RY.out _ R4.out).mono ?_
          rintro e w5 ⟨rfl, h5, k5⟩
          have HP5 := Lib.hid (HP.out.step h4 k4 h5 k5 (HP.out.ok.bit z1))
          clear c0 c1 c2 Y RY R4 d1' h4 k4 h5 k5 HP
          go_wp2
          obtain ⟨s, HP⟩ : ∃ s, Hid (DPlay W w5 b rb s) := ⟨_, HP5⟩
          have N := Lib.hid (dneed_any b s (World.drew w5) HP.out.m)
          have L := Lib.hid (fun w h => dlost_any b s w h)
          have RL := Lib.hid (fun w h => rdlost_any rb s w h)
          have C := Lib.hid (fun w h => dclean_any b s w h)
          have RC := Lib.hid (fun w h => rdclean_any rb s w h)
          have g2 := Blk.cellD HP.out.r 2 _ rfl
          have HM := Lib.hid HP.out.m
          have HR := Lib.hid HP.out.r
          unfold dNeedB at N
          generalize dLostB s = lo at *
          generalize dCleanB s = cl at *
          generalize s.n = nn at g2 N
          obtain ⟨mS, mh⟩ : ∃ S : World → Prop, ∀ w', S w' ↔ (w'.cell? ⟨rb, 2, none⟩ = some (.int .i64 nn)) := ⟨_, fun _ => Iff.rfl⟩
          have mk0 : ∀ x : Memb mS, x.at_.cell? ⟨rb, 2, none⟩ = some (.int .i64 nn) := fun x => ((mh _).1 x.is)
          have mn : Nonempty (Memb mS) := ⟨⟨(w5).drew, (mh _).2 (g2)⟩⟩
          have mH := Lib.hid mh
          clear mh
          refine wp_region_mix [1, 10, 12, 17, 19] (InS mS) (by kernel_rfl) (by kernel_rfl) (InS.mk ((mH.out _).2 (g2))) ?_
          refine wpMix_seg 1 (by kernel_rfl) (by decide) ?_
          simp only [List.take_succ_cons, List.take_zero, List.drop_succ_cons, List.drop_zero]
          repeat (go_big_quiet_step (fail))
          refine wpQuiet_nil ?_
          refine wpMix_eff (by kernel_rfl) ?_
          go_wp2_with fail
          refine N.out.mono ?_
          rintro e w' ⟨rfl, rfl⟩
          go_wp2
          refine MixK.on (InS.mk ((mH.out _).2 (g2))) ?_
          refine wpMix_seg 8 (by kernel_rfl) (by decide) ?_
          simp only [List.take_succ_cons, List.take_zero, List.drop_succ_cons, List.drop_zero]
          repeat (go_big_quiet_step (fail))
          refine wpQuiet_nil ?_
          refine wpMix_eff (by kernel_rfl) ?_
          go_wp2_with fail
          refine (L.out _ (HM.out.drewN 1)).mono ?_
          rintro e w' ⟨rfl, n1, rfl⟩
          go_wp2
          refine MixK.on (InS.mk ((mH.out _).2 (g2))) ?_
          refine wpMix_seg 1 (by kernel_rfl) (by decide) ?_
          simp only [List.take_succ_cons, List.take_zero, List.drop_succ_cons, List.drop_zero]
          repeat (go_big_quiet_step (fail))
          refine wpQuiet_nil ?_
          refine wpMix_eff (by kernel_rfl) ?_
          go_wp2_with fail
          refine (RL.out _ (HR.out.drewN _)).mono ?_
          rintro e w' ⟨rfl, n2, rfl⟩
          go_wp2
          refine MixK.on (InS.mk ((mH.out _).2 (g2))) ?_
          refine wpMix_seg 4 (by kernel_rfl) (by decide) ?_
          simp only [List.take_succ_cons, List.take_zero, List.drop_succ_cons, List.drop_zero]
          repeat (go_big_quiet_step (fail))
          refine wpQuiet_nil ?_
          refine wpMix_eff (by kernel_rfl) ?_
          go_wp2_with fail
          refine (C.out _ (HM.out.drewN _)).mono ?_
          rintro e w' ⟨rfl, rfl⟩
          go_wp2
          refine MixK.on (InS.mk ((mH.out _).2 (g2))) ?_
          refine wpMix_seg 1 (by kernel_rfl) (by decide) ?_
          simp only [List.take_succ_cons, List.take_zero, List.drop_succ_cons, List.drop_zero]
          repeat (go_big_quiet_step (fail))
          refine wpQuiet_nil ?_
          refine wpMix_eff (by kernel_rfl) ?_
          go_wp2_with fail
          refine (RC.out _ (HR.out.drewN _)).mono ?_
          rintro e w' ⟨rfl, rfl⟩
          go_wp2
          refine MixK.on (InS.mk ((mH.out _).2 (g2))) ?_
          refine wpMix_seg 2 (by kernel_rfl) (by decide) ?_
          simp only [List.take_succ_cons, List.take_zero, List.drop_succ_cons, List.drop_zero]
          repeat (go_big_quiet_step (fail))
          refine wpQuiet_nil ?_
          refine wpMix_nil ?_
          clear mk0 mn mH
          go_wp2
          go_roundw
          case rel => exact ⟨k + 1, s, by omega, by go_num, HP.out.drewN _⟩
          case measure => simp [intOf]; omega
        · have q2 : (z0 == 2) = false := by simpa using t2
          by_cases t3 : z0 = 3
          · subst t3
            have Y := Lib.hid (dhalf_any b s wr HP.out.m HP.out.ok.inv)
            have RY := Lib.hid (fun w h => rdhalf_any rb s w h HP.out.ok.inv)
            generalize dHalfB s = bit at *
            go_wp2_with fail
            refine Y.out.mono ?_
            rintro e w4 ⟨rfl, h4, k4⟩
            have R4 := Lib.hid (DAt.keeps HP.out.r k4 HP.out.apart.symm)
            go_wp2_with fail
            refine (RY.out _ R4.out).mono ?_
            rintro e w5 ⟨rfl, h5, k5⟩
            have HP5 := Lib.hid (HP.out.step h4 k4 h5 k5 HP.out.ok.half)
            clear c0 c1 c2 Y RY R4 h4 k4 h5 k5 HP
            go_wp2
            obtain ⟨s, HP⟩ : ∃ s, Hid (DPlay W w5 b rb s) := ⟨_, HP5⟩
            have N := Lib.hid (dneed_any b s (World.drew w5) HP.out.m)
            have L := Lib.hid (fun w h => dlost_any b s w h)
            have RL := Lib.hid (fun w h => rdlost_any rb s w h)
            have C := Lib.hid (fun w h => dclean_any b s w h)
            have RC := Lib.hid (fun w h => rdclean_any rb s w h)
            have g2 := Blk.cellD HP.out.r 2 _ rfl
            have HM := Lib.hid HP.out.m
            have HR := Lib.hid HP.out.r
            unfold dNeedB at N
            generalize dLostB s = lo at *
            generalize dCleanB s = cl at *
            generalize s.n = nn at g2 N
            obtain ⟨mS, mh⟩ : ∃ S : World → Prop, ∀ w', S w' ↔ (w'.cell? ⟨rb, 2, none⟩ = some (.int .i64 nn)) := ⟨_, fun _ => Iff.rfl⟩
            have mk0 : ∀ x : Memb mS, x.at_.cell? ⟨rb, 2, none⟩ = some (.int .i64 nn) := fun x => ((mh _).1 x.is)
            have mn : Nonempty (Memb mS) := ⟨⟨(w5).drew, (mh _).2 (g2)⟩⟩
            have mH := Lib.hid mh
            clear mh
            refine wp_region_mix [1, 10, 12, 17, 19] (InS mS) (by kernel_rfl) (by kernel_rfl) (InS.mk ((mH.out _).2 (g2))) ?_
            refine wpMix_seg 1 (by kernel_rfl) (by decide) ?_
            simp only [List.take_succ_cons, List.take_zero, List.drop_succ_cons, List.drop_zero]
            repeat (go_big_quiet_step (fail))
            refine wpQuiet_nil ?_
            refine wpMix_eff (by kernel_rfl) ?_
            go_wp2_with fail
            refine N.out.mono ?_
            rintro e w' ⟨rfl, rfl⟩
            go_wp2
            refine MixK.on (InS.mk ((mH.out _).2 (g2))) ?_
            refine wpMix_seg 8 (by kernel_rfl) (by decide) ?_
            simp only [List.take_succ_cons, List.take_zero, List.drop_succ_cons, List.drop_zero]
            repeat (go_big_quiet_step (fail))
            refine wpQuiet_nil ?_
            refine wpMix_eff (by kernel_rfl) ?_
            go_wp2_with fail
            refine (L.out _ (HM.out.drewN 1)).mono ?_
            rintro e w' ⟨rfl, n1, rfl⟩
            go_wp2
            refine MixK.on (InS.mk ((mH.out _).2 (g2))) ?_
            refine wpMix_seg 1 (by kernel_rfl) (by decide) ?_
            simp only [List.take_succ_cons, List.take_zero, List.drop_succ_cons, List.drop_zero]
            repeat (go_big_quiet_step (fail))
            refine wpQuiet_nil ?_
            refine wpMix_eff (by kernel_rfl) ?_
            go_wp2_with fail
            refine (RL.out _ (HR.out.drewN _)).mono ?_
            rintro e w' ⟨rfl, n2, rfl⟩
            go_wp2
            refine MixK.on (InS.mk ((mH.out _).2 (g2))) ?_
            refine wpMix_seg 4 (by kernel_rfl) (by decide) ?_
            simp only [List.take_succ_cons, List.take_zero, List.drop_succ_cons, List.drop_zero]
            repeat (go_big_quiet_step (fail))
            refine wpQuiet_nil ?_
            refine wpMix_eff (by kernel_rfl) ?_
            go_wp2_with fail
            refine (C.out _ (HM.out.drewN _)).mono ?_
            rintro e w' ⟨rfl, rfl⟩
            go_wp2
            refine MixK.on (InS.mk ((mH.out _).2 (g2))) ?_
            refine wpMix_seg 1 (by kernel_rfl) (by decide) ?_
            simp only [List.take_succ_cons, List.take_zero, List.drop_succ_cons, List.drop_zero]
            repeat (go_big_quiet_step (fail))
            refine wpQuiet_nil ?_
            refine wpMix_eff (by kernel_rfl) ?_
            go_wp2_with fail
            refine (RC.out _ (HR.out.drewN _)).mono ?_
            rintro e w' ⟨rfl, rfl⟩
            go_wp2
            refine MixK.on (InS.mk ((mH.out _).2 (g2))) ?_
            refine wpMix_seg 2 (by kernel_rfl) (by decide) ?_
            simp only [List.take_succ_cons, List.take_zero, List.drop_succ_cons, List.drop_zero]
            repeat (go_big_quiet_step (fail))
            refine wpQuiet_nil ?_
            refine wpMix_nil ?_
            clear mk0 mn mH
            go_wp2
            go_roundw
            case rel => exact ⟨k + 1, s, by omega, by go_num, HP.out.drewN _⟩
            case measure => simp [intOf]; omega
          · have q3 : (z0 == 3) = false := by simpa using t3
            clear t1 t2 t3
            go_wp2
            obtain ⟨s, HP⟩ : ∃ s, Hid (DPlay W wr b rb s) := ⟨_, HP⟩
            have N := Lib.hid (dneed_any b s (World.drew wr) HP.out.m)
            have L := Lib.hid (fun w h => dlost_any b s w h)
            have RL := Lib.hid (fun w h => rdlost_any rb s w h)
            have C := Lib.hid (fun w h => dclean_any b s w h)
            have RC := Lib.hid (fun w h => rdclean_any rb s w h)
            have g2 := Blk.cellD HP.out.r 2 _ rfl
            have HM := Lib.hid HP.out.m
            have HR := Lib.hid HP.out.r
            unfold dNeedB at N
            generalize dLostB s = lo at *
            generalize dCleanB s = cl at *
            generalize s.n = nn at g2 N
            obtain ⟨mS, mh⟩ : ∃ S : World → Prop, ∀ w', S w' ↔ (w'.cell? ⟨rb, 2, none⟩ = some (.int .i64 nn)) := ⟨_, fun _ => Iff.rfl⟩
            have mk0 : ∀ x : Memb mS, x.at_.cell? ⟨rb, 2, none⟩ = some (.int .i64 nn) := fun x => ((mh _).1 x.is)
            have mn : Nonempty (Memb mS) := ⟨⟨(wr).drew, (mh _).2 (g2)⟩⟩
            have mH := Lib.hid mh
            clear mh
            refine wp_region_mix [1, 10, 12, 17, 19] (InS mS) (by kernel_rfl) (by kernel_rfl) (InS.mk ((mH.out _).2 (g2))) ?_
            refine wpMix_seg 1 (by kernel_rfl) (by decide) ?_
            simp only [List.take_succ_cons, List.take_zero, List.drop_succ_cons, List.drop_zero]
            repeat (go_big_quiet_step (fail))
            refine wpQuiet_nil ?_
            refine wpMix_eff (by kernel_rfl) ?_
            go_wp2_with fail
            refine N.out.mono ?_
            rintro e w' ⟨rfl, rfl⟩
            go_wp2
            refine MixK.on (InS.mk ((mH.out _).2 (g2))) ?_
            refine wpMix_seg 8 (by kernel_rfl) (by decide) ?_
            simp only [List.take_succ_cons, List.take_zero, List.drop_succ_cons, List.drop_zero]
            repeat (go_big_quiet_step (fail))
            refine wpQuiet_nil ?_
            refine wpMix_eff (by kernel_rfl) ?_
            go_wp2_with fail
            refine (L.out _ (HM.out.drewN 1)).mono ?_
            rintro e w' ⟨rfl, n1, rfl⟩
            go_wp2
            refine MixK.on (InS.mk ((mH.out _).2 (g2))) ?_
            refine wpMix_seg 1 (by kernel_rfl) (by decide) ?_
            simp only [List.take_succ_cons, List.take_zero, List.drop_succ_cons, List.drop_zero]
            repeat (go_big_quiet_step (fail))
            refine wpQuiet_nil ?_
            refine wpMix_eff (by kernel_rfl) ?_
            go_wp2_with fail
            refine (RL.out _ (HR.out.drewN _)).mono ?_
            rintro e w' ⟨rfl, n2, rfl⟩
            go_wp2
            refine MixK.on (InS.mk ((mH.out _).2 (g2))) ?_
            refine wpMix_seg 4 (by kernel_rfl) (by decide) ?_
            simp only [List.take_succ_cons, List.take_zero, List.drop_succ_cons, List.drop_zero]
            repeat (go_big_quiet_step (fail))
            refine wpQuiet_nil ?_
            refine wpMix_eff (by kernel_rfl) ?_
            go_wp2_with fail
            refine (C.out _ (HM.out.drewN _)).mono ?_
            rintro e w' ⟨rfl, rfl⟩
            go_wp2
            refine MixK.on (InS.mk ((mH.out _).2 (g2))) ?_
            refine wpMix_seg 1 (by kernel_rfl) (by decide) ?_
            simp only [List.take_succ_cons, List.take_zero, List.drop_succ_cons, List.drop_zero]
            repeat (go_big_quiet_step (fail))
            refine wpQuiet_nil ?_
            refine wpMix_eff (by kernel_rfl) ?_
            go_wp2_with fail
            refine (RC.out _ (HR.out.drewN _)).mono ?_
            rintro e w' ⟨rfl, rfl⟩
            go_wp2
            refine MixK.on (InS.mk ((mH.out _).2 (g2))) ?_
            refine wpMix_seg 2 (by kernel_rfl) (by decide) ?_
            simp only [List.take_succ_cons, List.take_zero, List.drop_succ_cons, List.drop_zero]
            repeat (go_big_quiet_step (fail))
            refine wpQuiet_nil ?_
            refine wpMix_nil ?_
            clear mk0 mn mH
            go_wp2
            go_roundw
            case rel => exact ⟨k + 1, s, by omega, by go_num, HP.out.drewN _⟩
            case measure => simp [intOf]; omega
    · have fin : Below W.heap.size W wr := hP.keeps.below fun k hk h => by omega
      clear hP
      go_wp2
      go_ret
      exact ⟨rfl, fin⟩

set_option maxRecDepth 100000 in
theorem DecoderPlays_lifted (os : Os) (started : os.Started) (H : Type) (enc : TypeId × Value → H) :
    ReturnsInHanded {} Try.checked os 4 .any (Rows.decoderPlaysSpec.pre6 enc Try.prog Try.f4 Rows.decoderPlaysRow.domain false) (Rows.decoderPlaysSpec.post enc Try.prog Try.f4 false true false false) := by
  refine returnsInHanded_of_change (C := Try.checked) Try.own started (by kernel_rfl) Try.func4
    (ChangeSpec.witness6 (enc := enc) (C := Try.checked) false ⟨#[], #[.slice none 0 0], []⟩ 8 (by kernel_rfl) (by kernel_rfl) (by kernel_rfl) (by kernel_rfl)) ?_
  intro W base args ds gs before hval0 hW hcnd _
  have hval : ∀ (j : Nat) t v, Try.f4.params[j]? = some t → args[j]? = some v → Value.okWide Try.prog W .any base t v := hval0
  have hW' := hW
  obtain ⟨p, q, hA0, hV, rfl, hfz, hnd⟩ := hW
  have hA : DataW.TrodAll enc Try.prog W 0 (fun _ => true) true Try.f4.params.toList args.toList ds p := hA0
  rw [Try.params4] at hA hval
  obtain ⟨v0, vs0, d0, ds0, p0, q0, hargs, rfl, rfl, h0, r0⟩ := trodAll_cons hA
  obtain ⟨rfl, rfl, rfl⟩ := trodAll_nil r0
  obtain rfl : args = #[v0] := by cases args; simp_all
  obtain ⟨rfl, rfl⟩ := trodVars_none hV
  have k0 := h0
  have lt0 : ∀ x ∈ p0, x.block < W.heap.size := by obtain ⟨m, hm⟩ := k0; exact DataW.trod_lt m _ _ _ hm
  obtain ⟨a0, len0, cap0, rfl⟩ := okWide_slice Try.underlying38 (hval 0 38 v0 rfl rfl)
  obtain ⟨z0, s0, f0⟩ := open_structs' Try.underlying38 Try.underlying44 (by kernel_rfl) (by kernel_rfl) (by decide) h0
  clear hA0 hval0
  refine (plays17_any a0 len0 cap0 z0 W s0 (fun i hi => by obtain ⟨y0, e0, _⟩ := fld_int f0 (j := 0) rfl Try.underlying3 hi; obtain ⟨y1, e1, _⟩ := fld_int f0 (j := 1) rfl Try.underlying3 hi; obtain ⟨y2, e2, w2⟩ := fld_int f0 (j := 2) rfl Try.underlying5 hi; exact ⟨y0, y1, y2, e0, e1, e2, (wf_u8_bd w2).1, (wf_u8_bd w2).2⟩)).mono fun e W' ⟨he, bel⟩ => ?_
  subst he
  exact ⟨_, rfl, _, _, _, [], _, [], hW', trodAll_mk1 (shut_bool Try.underlying4 _), (trodAll_cons_mk (Below.trod Try.laidOut (by kernel_rfl) (of_decide_eq_true (by kernel_rfl)) k0 bel lt0) trodAll_mk0), rfl, bel.frame _, fun h => by cases h⟩

set_option maxRecDepth 100000 in
theorem DecoderPlays_closed : joinedFacts Try.checked.prog 4 Try.f4 Rows.decoderPlaysSpec Rows.decoderPlaysRow = true := by
  unfold joinedFacts
  rw [closed_laid, closed_maps, closed_heard, closed_plain, closed_mayEnter, closed_lifts, closed_make]
  kernel_rfl

theorem DecoderPlays_holds : Rows.DecoderPlaysSaid :=
  OpenClaim.holds_of_wide 4 Try.f4 rfl rfl rfl rfl rfl rfl rfl ⟨rfl, rfl, rfl, rfl, rfl⟩ rfl rfl rfl rfl rfl (by kernel_rfl) Try.func4 DecoderPlays_closed
    (of_decide_eq_true (by kernel_rfl)) (by unfold Func.isWrapper; first | (rw [if_pos (by decide +kernel)]; kernel_rfl) | (rw [if_neg (by decide +kernel)]; exact ⟨rfl, rfl⟩))
    (fun os started H enc _ => DecoderPlays_lifted os started H enc)
#print axioms DecoderPlays_holds
end Go.Proofs.Yteokbedjcnfgiaa
