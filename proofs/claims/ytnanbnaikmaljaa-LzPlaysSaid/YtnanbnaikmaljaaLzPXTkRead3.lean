
/- token.Reader: the walks of Next and NewReader. -/
import Derived.Test.YtnanbnaikmaljaaLzPXTkRead2
namespace Go.Proofs.Ytnanbnaikmaljaa
open Go.RowKit

theorem Trees.whole {w : World} {T : TL} {s : RdS} {v : Int} (h : Trees w T s.m) : Trees w T (rWhole s v).m := by
  unfold rWhole
  split
  · exact ⟨h.t1, h.t2, h.t3⟩
  split
  · exact h
  split
  · exact h
  split <;> exact h
set_option maxRecDepth 100000 in
set_option maxHeartbeats 3200000 in
theorem tknext_any (db : Nat) (T : TL) (s : RdS) (d : DSt) (w : World) (h : RAt w db T s d) :
    Calls Try.prog 52 #[.pointer (some ⟨T.sb, 0, none⟩), .pointer (some ⟨db, 0, none⟩)] w (NextDone w db T s d) := by
  have OR := Lib.hid h.ord
  have RO := Lib.hid (h.ok.next d)
  have DK := Lib.hid (h.dk.rDec s)
  have hlo := h.lo
  have hsb := h.st.lt
  obtain ⟨o1, o2, o3, o4, o5, o6⟩ := h.ord
  have hp := h.ok.part
  have n1 := h.ok.n1
  have n2 := h.ok.n2
  have D0 : Hid (0 ≤ s.t.d ∧ (s.part = 4 → s.t.d ≤ 4032)) := ⟨h.ok.d0, h.ok.d4⟩
  have BIT := Lib.hid (fun w' (h' : RAt w' db T s d) => tkbit_any db T s d w' h')
  obtain ⟨bv, hbv⟩ : ∃ x, rBit s d = x := ⟨_, rfl⟩
  have b01 := rBit_01 s d
  rw [hbv] at b01
  have bv0 : 0 ≤ bv := by omega
  have bv1 : bv ≤ 1 := by omega
  obtain ⟨⟨q0, q1, qe, qbt, qlt, qdt⟩, hmv⟩ : ∃ x, rLearn s d = x := ⟨_, rfl⟩
  obtain ⟨bx, hbx⟩ : ∃ x, w.heap.size = x := ⟨_, rfl⟩
  have k1 : Keeps None w (w.alloc (.cells #[.int .i64 0, .int .i64 0, .int .u8 0] 51)) := (Keeps.refl None w).alloc _
  have bb := Blk.new w [.int .i64 0, .int .i64 0, .int .u8 0] 51
  have H1 := Lib.hid (h.later k1)
  rw [hbx] at bb
  have K1 := Lib.hid k1
  have B1 := Lib.hid bb
  have RF : Hid (rFull s d = decide ((2 : Int) ^ szP s.part ≤ 2 * s.node + bv)) := by show _ = _; unfold rFull; rw [hbv]
  have RNN : Hid (rNext s d = if rFull s d = true then rWhole { s with m := rLearn s d, node := 1 } (2 * s.node + bv - 2 ^ szP s.part) else { s with m := rLearn s d, node := 2 * s.node + bv }) := by show _ = _; unfold rNext; rw [hbv]
  obtain ⟨sb, b1, g1, b2, g2, b3, g3⟩ := T
  obtain ⟨⟨p0, p1, be, bt, lt, dt⟩, part, node, ⟨tn, td, tb⟩⟩ := s
  dsimp only at o1 o2 o3 o4 o5 o6 hlo hsb hp n1 n2 RF RNN
  have D0 : Hid (0 ≤ td ∧ (part = 4 → td ≤ 4032)) := D0.out
  have NE : Hid (db < g1 ∧ g1 < b1 ∧ b1 < g2 ∧ g2 < b2 ∧ b2 < g3 ∧ g3 < b3 ∧ b3 < sb ∧ sb < bx) := ⟨hlo, o1, o2, o3, o4, o5, o6, by omega⟩
  have BV := Lib.hid hbv
  have MV := Lib.hid hmv
  clear h k1 bb o1 o2 o3 o4 o5 o6 hlo hsb hbv hmv b01
  obtain rfl | rfl | rfl | rfl | rfl : part = 0 ∨ part = 1 ∨ part = 2 ∨ part = 3 ∨ part = 4 := by omega
  · clear hp
    -- 0 the part, 1 how many bits it has, 2 how many numbers
    have SZ : Hid (∀ w', w'.cell? ⟨sb, 6, none⟩ = some (.int .i64 0) → Calls Try.prog 62 #[.pointer (some ⟨sb, 0, none⟩)] w' fun e w'' => e = .returned (.int .i64 1) ∧ w' = w'') := fun w' h => tksize_any sb 0 w' h (by decide)
    have n3 : node < 2 := n2
    have n4 : node < 256 := by omega
    clear n2
    go_enter Try.func52, Try.ntmps52
    go_wp2
    obtain ⟨w1, hw1⟩ : ∃ x, w.alloc (.cells #[.int .i64 0, .int .i64 0, .int .u8 0] 51) = x := ⟨_, rfl⟩
    rw [hw1] at K1 B1 H1
    rw [hw1]
    clear hw1
    have c7 : Hid (w1.cell? ⟨sb, 7, none⟩ = some (.int .i64 node)) := H1.out.st.cellD 7 _ rfl
    obtain ⟨mS, mh⟩ : ∃ S : World → Prop, ∀ w', S w' ↔ (w'.cell? ⟨sb, 7, none⟩ = some (.int .i64 node)) := ⟨_, fun _ => Iff.rfl⟩
    have mk0 : ∀ x : Memb mS, x.at_.cell? ⟨sb, 7, none⟩ = some (.int .i64 node) := fun x => ((mh _).1 x.is)
    have mn : Nonempty (Memb mS) := ⟨⟨(w1).drew, (mh _).2 (c7.out)⟩⟩
    have mH := Lib.hid mh
    clear mh
    refine wp_region_mix [8, 12] (InS mS) (by kernel_rfl) (by kernel_rfl) (InS.mk ((mH.out _).2 (c7.out))) ?_
    refine wpMix_seg 8 (by kernel_rfl) (by decide) ?_
    simp only [List.take_succ_cons, List.take_zero, List.drop_succ_cons, List.drop_zero]
    repeat (go_big_quiet_step (fail))
    refine wpQuiet_nil ?_
    refine wpMix_eff (by kernel_rfl) ?_
    go_wp2_with fail
    refine (BIT.out _ (H1.out.later (Keeps.refl None w1).drew)).mono ?_
    rintro e w2 ⟨he, s2, t2, d2, k2⟩
    rw [BV.out] at he
    subst he
    rw [MV.out] at s2 t2
    have S2 : Hid (Blk w2 sb [.int .i64 q0, .int .i64 q1, .int .i64 qe, .pointer (some ⟨b1, 0, none⟩), .pointer (some ⟨b2, 0, none⟩), .pointer (some ⟨b3, 0, none⟩), .int .i64 0, .int .i64 node, .int .i64 tn, .int .i64 td, .int .u8 tb] 92) := s2
    have T2 := Lib.hid t2
    have D2 := Lib.hid d2
    have K2 := Lib.hid ((Keeps.refl (RdB db ⟨sb, b1, g1, b2, g2, b3, g3⟩) w1).drew.trans k2 (T := RdB db ⟨sb, b1, g1, b2, g2, b3, g3⟩) (fun _ h => h) (fun _ _ h => h))
    have B2 := Lib.hid (K2.out.blk B1.out (by show ¬ (_ ∨ (_ ∧ _)); dsimp only; have := NE.out; omega))
    have y7 := S2.out.cellD 7 _ rfl
    have u7 := S2.out.frozen 7
    clear s2 t2 d2 k2 BIT
    go_wp2
    refine MixK.on (InS.mk ((mH.out _).2 (S2.out.cellD 7 _ rfl))) ?_
    refine wpMix_seg 3 (by kernel_rfl) (by decide) ?_
    simp only [List.take_succ_cons, List.take_zero, List.drop_succ_cons, List.drop_zero]
    repeat (go_big_quiet_step (fail))
    refine wpQuiet_nil ?_
    refine wpMix_eff (by kernel_rfl) ?_
    go_wp2
    refine MixK.last (by kernel_rfl) ?_
    refine wpMix_nil ?_
    clear mk0 mn mH
    have ks := (Keeps.self sb w2).put 7 (.int .i64 (2 * node + bv))
    have S3 := Lib.hid (S2.out.set 7 (.int .i64 (2 * node + bv)))
    have B3 := Lib.hid (ks.blk B2.out (by show ¬ _ = _; have := NE.out; omega))
    have T3 := Lib.hid (T2.out.keeps ks (fun k h1 h2 => by show ¬ _ = _; have h2 : k ≤ b3 := h2; have := NE.out; omega) OR.out)
    have D3 := Lib.hid (D2.out.keeps ks (by show ¬ _ = _; have := NE.out; omega))
    have K3 := Lib.hid ((K1.out.trans K2.out (T := RdB db ⟨sb, b1, g1, b2, g2, b3, g3⟩) (fun _ h => h.elim) (fun _ _ h => h)).trans ks (T := RdB db ⟨sb, b1, g1, b2, g2, b3, g3⟩) (fun _ h => h) (fun k _ h => .inr ⟨by have := NE.out; have h : k = sb := h; show g1 ≤ k; omega, by have h : k = sb := h; show k ≤ sb; omega⟩))
    clear ks y7 u7 S2 B2 T2 D2 K2 K1 B1 c7 H1
    obtain ⟨w3, hw3⟩ : ∃ x, w2.setCell ⟨sb, 7, none⟩ (.int .i64 (2 * node + bv)) = x := ⟨_, rfl⟩
    rw [hw3] at S3 B3 T3 D3 K3
    rw [hw3]
    clear hw3
    go_wp2_with fail
    refine (SZ.out _ (S3.out.cellD 6 _ rfl)).mono ?_
    rintro e w' ⟨rfl, rfl⟩
    have x7 := S3.out.cellD 7 _ rfl
    have f7 := S3.out.frozen 7
    by_cases hf : 2 * node + bv < 2
    · exact absurd hf (by omega)
    · skip
      -- whole: 0 part, 2 all, false is the token whole
      have d1 : decide (2 * node + bv < 2) = false := decide_eq_false hf
      have NF : Hid (rFull (⟨⟨p0, p1, be, bt, lt, dt⟩, 0, node, ⟨tn, td, tb⟩⟩ : RdS) d = true) := by show _ = _; rw [RF.out]; exact decide_eq_true (by show (2 : Int) ≤ 2 * node + bv; omega)
      obtain ⟨s9, h9⟩ : ∃ x, rWhole ⟨⟨q0, q1, qe, qbt, qlt, qdt⟩, 0, 1, ⟨tn, td, tb⟩⟩ (2 * node + bv - 2) = x := ⟨_, rfl⟩
      have RN : Hid (rNext (⟨⟨p0, p1, be, bt, lt, dt⟩, 0, node, ⟨tn, td, tb⟩⟩ : RdS) d = s9) := by show _ = _; rw [RNN.out, if_pos NF.out, MV.out, ← h9]; rfl
      have RT : Hid (rTok (⟨⟨p0, p1, be, bt, lt, dt⟩, 0, node, ⟨tn, td, tb⟩⟩ : RdS) d = false) := by show _ = _; unfold rTok; rw [NF.out]; rfl
      have T4 : Hid (Trees w3 ⟨sb, b1, g1, b2, g2, b3, g3⟩ s9.m) := by show Trees _ _ _; rw [← h9]; exact Trees.whole T3.out
      have WH : Hid (∀ w', Blk w' sb [.int .i64 q0, .int .i64 q1, .int .i64 qe, .pointer (some ⟨b1, 0, none⟩), .pointer (some ⟨b2, 0, none⟩), .pointer (some ⟨b3, 0, none⟩), .int .i64 0, .int .i64 1, .int .i64 tn, .int .i64 td, .int .u8 tb] 92 → Calls Try.prog 63 #[.pointer (some ⟨sb, 0, none⟩), .int .i64 (2 * node + bv - 2)] w' fun e w'' => e = .returned (.bool false) ∧ Blk w'' sb (rcells ⟨sb, b1, g1, b2, g2, b3, g3⟩ s9) 92 ∧ Keeps (fun k => k = sb) w' w'') := fun w' hh => by
        have := tkwhole_any sb ⟨sb, b1, g1, b2, g2, b3, g3⟩ ⟨⟨q0, q1, qe, qbt, qlt, qdt⟩, 0, 1, ⟨tn, td, tb⟩⟩ (2 * node + bv - 2) w' hh (show 0 ≤ 4 by decide) (by omega) (by show _ < (2 : Int); omega) (fun e => ⟨D0.out.1, (by first | exact D0.out.2 trivial | exact D0.out.2 e)⟩)
        rw [h9] at this
        exact this
      clear RF RNN NF T3 h9
      go_wp2_with fail
      refine (WH.out _ (S3.out.set 7 (.int .i64 1))).mono ?_
      rintro e w5 ⟨rfl, s5, k5⟩
      have k35 := (Keeps.self sb w3).put 7 (.int .i64 1)
      have k5 := k35.link k5
      have S5 := Lib.hid s5
      have B5 := Lib.hid (k5.blk B3.out (by show ¬ _ = _; have := NE.out; omega))
      have T5 := Lib.hid (T4.out.keeps k5 (fun k h1 h2 => by show ¬ _ = _; have h2 : k ≤ b3 := h2; have := NE.out; omega) OR.out)
      have D5 := Lib.hid (D3.out.keeps k5 (by show ¬ _ = _; have := NE.out; omega))
      have K5 := Lib.hid (K3.out.trans k5 (T := RdB db ⟨sb, b1, g1, b2, g2, b3, g3⟩) (fun _ h => h) (fun k hk h => .inr ⟨by have := NE.out; have h : k = sb := h; show g1 ≤ k; omega, by have h : k = sb := h; show k ≤ sb; omega⟩))
      clear k35 k5 s5 S3 B3 T4 D3 K3 x7 f7 WH
      have z0 := B5.out.cellD 0 _ rfl
      have z1 := B5.out.cellD 1 _ rfl
      have z2 := B5.out.cellD 2 _ rfl
      have f0 := B5.out.frozen 0
      have f1 := B5.out.frozen 1
      have f2 := B5.out.frozen 2
      have y8 := S5.out.cellD 8 _ rfl
      have y9 := S5.out.cellD 9 _ rfl
      have y10 := S5.out.cellD 10 _ rfl
      have RO2 := Lib.hid RO.out
      rw [RN.out] at RO2
      go_wp2
      refine bodyPost_ret (tok_res2 rfl _ (((B5.out.set 0 _).set 1 _).set 2 _) rfl rfl) rfl ?_
      have kb := (((Keeps.self bx w5).put 0 (.int .i64 0)).put 1 (.int .i64 0)).put 2 (.int .u8 0)
      have K9 := K5.out.trans kb (T := RdB db ⟨sb, b1, g1, b2, g2, b3, g3⟩) (fun _ h => h) (fun k hk h => by have h : k = bx := h; omega)
      unfold NextDone
      rw [RT.out, RN.out]
      exact ⟨rfl, ⟨kb.blk S5.out (by show ¬ sb = bx; have := NE.out; omega), T5.out.keeps kb (fun k h1 h2 => by show ¬ _ = _; have h2 : k ≤ b3 := h2; have := NE.out; omega) OR.out, D5.out.keeps kb (by show ¬ _ = _; have := NE.out; omega), DK.out, RO2.out, OR.out, NE.out.1⟩, K9⟩
  · clear hp
    -- 1 the part, 8 how many bits it has, 256 how many numbers
    have SZ : Hid (∀ w', w'.cell? ⟨sb, 6, none⟩ = some (.int .i64 1) → Calls Try.prog 62 #[.pointer (some ⟨sb, 0, none⟩)] w' fun e w'' => e = .returned (.int .i64 8) ∧ w' = w'') := fun w' h => tksize_any sb 1 w' h (by decide)
    have n3 : node < 256 := n2
    have n4 : node < 256 := by omega
    clear n2
    go_enter Try.func52, Try.ntmps52
    go_wp2
    obtain ⟨w1, hw1⟩ : ∃ x, w.alloc (.cells #[.int .i64 0, .int .i64 0, .int .u8 0] 51) = x := ⟨_, rfl⟩
    rw [hw1] at K1 B1 H1
    rw [hw1]
    clear hw1
    have c7 : Hid (w1.cell? ⟨sb, 7, none⟩ = some (.int .i64 node)) := H1.out.st.cellD 7 _ rfl
    obtain ⟨mS, mh⟩ : ∃ S : World → Prop, ∀ w', S w' ↔ (w'.cell? ⟨sb, 7, none⟩ = some (.int .i64 node)) := ⟨_, fun _ => Iff.rfl⟩
    have mk0 : ∀ x : Memb mS, x.at_.cell? ⟨sb, 7, none⟩ = some (.int .i64 node) := fun x => ((mh _).1 x.is)
    have mn : Nonempty (Memb mS) := ⟨⟨(w1).drew, (mh _).2 (c7.out)⟩⟩
    have mH := Lib.hid mh
    clear mh
    refine wp_region_mix [8, 12] (InS mS) (by kernel_rfl) (by kernel_rfl) (InS.mk ((mH.out _).2 (c7.out))) ?_
    refine wpMix_seg 8 (by kernel_rfl) (by decide) ?_
    simp only [List.take_succ_cons, List.take_zero, List.drop_succ_cons, List.drop_zero]
    repeat (go_big_quiet_step (fail))
    refine wpQuiet_nil ?_
    refine wpMix_eff (by kernel_rfl) ?_
    go_wp2_with fail
    refine (BIT.out _ (H1.out.later (Keeps.refl None w1).drew)).mono ?_
    rintro e w2 ⟨he, s2, t2, d2, k2⟩
    rw [BV.out] at he
    subst he
    rw [MV.out] at s2 t2
    have S2 : Hid (Blk w2 sb [.int .i64 q0, .int .i64 q1, .int .i64 qe, .pointer (some ⟨b1, 0, none⟩), .pointer (some ⟨b2, 0, none⟩), .pointer (some ⟨b3, 0, none⟩), .int .i64 1, .int .i64 node, .int .i64 tn, .int .i64 td, .int .u8 tb] 92) := s2
    have T2 := Lib.hid t2
    have D2 := Lib.hid d2
    have K2 := Lib.hid ((Keeps.refl (RdB db ⟨sb, b1, g1, b2, g2, b3, g3⟩) w1).drew.trans k2 (T := RdB db ⟨sb, b1, g1, b2, g2, b3, g3⟩) (fun _ h => h) (fun _ _ h => h))
    have B2 := Lib.hid (K2.out.blk B1.out (by show ¬ (_ ∨ (_ ∧ _)); dsimp only; have := NE.out; omega))
    have y7 := S2.out.cellD 7 _ rfl
    have u7 := S2.out.frozen 7
    clear s2 t2 d2 k2 BIT
    go_wp2
    refine MixK.on (InS.mk ((mH.out _).2 (S2.out.cellD 7 _ rfl))) ?_
    refine wpMix_seg 3 (by kernel_rfl) (by decide) ?_
    simp only [List.take_succ_cons, List.take_zero, List.drop_succ_cons, List.drop_zero]
    repeat (go_big_quiet_step (fail))
    refine wpQuiet_nil ?_
    refine wpMix_eff (by kernel_rfl) ?_
    go_wp2
    refine MixK.last (by kernel_rfl) ?_
    refine wpMix_nil ?_
    clear mk0 mn mH
    have ks := (Keeps.self sb w2).put 7 (.int .i64 (2 * node + bv))
    have S3 := Lib.hid (S2.out.set 7 (.int .i64 (2 * node + bv)))
    have B3 := Lib.hid (ks.blk B2.out (by show ¬ _ = _; have := NE.out; omega))
    have T3 := Lib.hid (T2.out.keeps ks (fun k h1 h2 => by show ¬ _ = _; have h2 : k ≤ b3 := h2; have := NE.out; omega) OR.out)
    have D3 := Lib.hid (D2.out.keeps ks (by show ¬ _ = _; have := NE.out; omega))
    have K3 := Lib.hid ((K1.out.trans K2.out (T := RdB db ⟨sb, b1, g1, b2, g2, b3, g3⟩) (fun _ h => h.elim) (fun _ _ h => h)).trans ks (T := RdB db ⟨sb, b1, g1, b2, g2, b3, g3⟩) (fun _ h => h) (fun k _ h => .inr ⟨by have := NE.out; have h : k = sb := h; show g1 ≤ k; omega, by have h : k = sb := h; show k ≤ sb; omega⟩))
    clear ks y7 u7 S2 B2 T2 D2 K2 K1 B1 c7 H1
    obtain ⟨w3, hw3⟩ : ∃ x, w2.setCell ⟨sb, 7, none⟩ (.int .i64 (2 * node + bv)) = x := ⟨_, rfl⟩
    rw [hw3] at S3 B3 T3 D3 K3
    rw [hw3]
    clear hw3
    go_wp2_with fail
    refine (SZ.out _ (S3.out.cellD 6 _ rfl)).mono ?_
    rintro e w' ⟨rfl, rfl⟩
    have x7 := S3.out.cellD 7 _ rfl
    have f7 := S3.out.frozen 7
    by_cases hf : 2 * node + bv < 256
    · skip
      -- not whole: 1 part, 256 all
      have d1 : decide (2 * node + bv < 256) = true := decide_eq_true hf
      have NF : Hid (rFull (⟨⟨p0, p1, be, bt, lt, dt⟩, 1, node, ⟨tn, td, tb⟩⟩ : RdS) d = false) := by show _ = _; rw [RF.out]; exact decide_eq_false (by show ¬ (256 : Int) ≤ 2 * node + bv; omega)
      have RN : Hid (rNext (⟨⟨p0, p1, be, bt, lt, dt⟩, 1, node, ⟨tn, td, tb⟩⟩ : RdS) d = ⟨⟨q0, q1, qe, qbt, qlt, qdt⟩, 1, 2 * node + bv, ⟨tn, td, tb⟩⟩) := by show _ = _; rw [RNN.out, if_neg (by rw [NF.out]; decide), MV.out]
      have RT : Hid (rTok (⟨⟨p0, p1, be, bt, lt, dt⟩, 1, node, ⟨tn, td, tb⟩⟩ : RdS) d = false) := by show _ = _; unfold rTok; rw [NF.out]; rfl
      clear RF RNN NF
      have z0 := B3.out.cellD 0 _ rfl
      have z1 := B3.out.cellD 1 _ rfl
      have z2 := B3.out.cellD 2 _ rfl
      have f0 := B3.out.frozen 0
      have f1 := B3.out.frozen 1
      have f2 := B3.out.frozen 2
      go_wp2
      refine bodyPost_ret (tok_res2 rfl _ (((B3.out.set 0 _).set 1 _).set 2 _) rfl rfl) rfl ?_
      have kb := (((Keeps.self bx w3).put 0 (.int .i64 0)).put 1 (.int .i64 0)).put 2 (.int .u8 0)
      have K9 := K3.out.trans kb (T := RdB db ⟨sb, b1, g1, b2, g2, b3, g3⟩) (fun _ h => h) (fun k hk h => by have h : k = bx := h; omega)
      have RO2 := RO.out
      rw [RN.out] at RO2
      unfold NextDone
      rw [RT.out, RN.out]
      exact ⟨rfl, ⟨kb.blk S3.out (by show ¬ sb = bx; have := NE.out; omega), T3.out.keeps kb (fun k h1 h2 => by show ¬ _ = _; have h2 : k ≤ b3 := h2; have := NE.out; omega) OR.out, D3.out.keeps kb (by show ¬ _ = _; have := NE.out; omega), DK.out, RO2, OR.out, NE.out.1⟩, K9⟩
    · skip
      -- whole: 1 part, 256 all, true is the token whole
      have d1 : decide (2 * node + bv < 256) = false := decide_eq_false hf
      have NF : Hid (rFull (⟨⟨p0, p1, be, bt, lt, dt⟩, 1, node, ⟨tn, td, tb⟩⟩ : RdS) d = true) := by show _ = _; rw [RF.out]; exact decide_eq_true (by show (256 : Int) ≤ 2 * node + bv; omega)
      obtain ⟨s9, h9⟩ : ∃ x, rWhole ⟨⟨q0, q1, qe, qbt, qlt, qdt⟩, 1, 1, ⟨tn, td, tb⟩⟩ (2 * node + bv - 256) = x := ⟨_, rfl⟩
      have RN : Hid (rNext (⟨⟨p0, p1, be, bt, lt, dt⟩, 1, node, ⟨tn, td, tb⟩⟩ : RdS) d = s9) := by show _ = _; rw [RNN.out, if_pos NF.out, MV.out, ← h9]; rfl
      have RT : Hid (rTok (⟨⟨p0, p1, be, bt, lt, dt⟩, 1, node, ⟨tn, td, tb⟩⟩ : RdS) d = true) := by show _ = _; unfold rTok; rw [NF.out]; rfl
      have T4 : Hid (Trees w3 ⟨sb, b1, g1, b2, g2, b3, g3⟩ s9.m) := by show Trees _ _ _; rw [← h9]; exact Trees.whole T3.out
      have WH : Hid (∀ w', Blk w' sb [.int .i64 q0, .int .i64 q1, .int .i64 qe, .pointer (some ⟨b1, 0, none⟩), .pointer (some ⟨b2, 0, none⟩), .pointer (some ⟨b3, 0, none⟩), .int .i64 1, .int .i64 1, .int .i64 tn, .int .i64 td, .int .u8 tb] 92 → Calls Try.prog 63 #[.pointer (some ⟨sb, 0, none⟩), .int .i64 (2 * node + bv - 256)] w' fun e w'' => e = .returned (.bool true) ∧ Blk w'' sb (rcells ⟨sb, b1, g1, b2, g2, b3, g3⟩ s9) 92 ∧ Keeps (fun k => k = sb) w' w'') := fun w' hh => by
        have := tkwhole_any sb ⟨sb, b1, g1, b2, g2, b3, g3⟩ ⟨⟨q0, q1, qe, qbt, qlt, qdt⟩, 1, 1, ⟨tn, td, tb⟩⟩ (2 * node + bv - 256) w' hh (show 1 ≤ 4 by decide) (by omega) (by show _ < (256 : Int); omega) (fun e => ⟨D0.out.1, (by first | exact D0.out.2 trivial | exact D0.out.2 e)⟩)
        rw [h9] at this
        exact this
      clear RF RNN NF T3 h9
      go_wp2_with fail
      refine (WH.out _ (S3.out.set 7 (.int .i64 1))).mono ?_
      rintro e w5 ⟨rfl, s5, k5⟩
      have k35 := (Keeps.self sb w3).put 7 (.int .i64 1)
      have k5 := k35.link k5
      have S5 := Lib.hid s5
      have B5 := Lib.hid (k5.blk B3.out (by show ¬ _ = _; have := NE.out; omega))
      have T5 := Lib.hid (T4.out.keeps k5 (fun k h1 h2 => by show ¬ _ = _; have h2 : k ≤ b3 := h2; have := NE.out; omega) OR.out)
      have D5 := Lib.hid (D3.out.keeps k5 (by show ¬ _ = _; have := NE.out; omega))
      have K5 := Lib.hid (K3.out.trans k5 (T := RdB db ⟨sb, b1, g1, b2, g2, b3, g3⟩) (fun _ h => h) (fun k hk h => .inr ⟨by have := NE.out; have h : k = sb := h; show g1 ≤ k; omega, by have h : k = sb := h; show k ≤ sb; omega⟩))
      clear k35 k5 s5 S3 B3 T4 D3 K3 x7 f7 WH
      have z0 := B5.out.cellD 0 _ rfl
      have z1 := B5.out.cellD 1 _ rfl
      have z2 := B5.out.cellD 2 _ rfl
      have f0 := B5.out.frozen 0
      have f1 := B5.out.frozen 1
      have f2 := B5.out.frozen 2
      have y8 := S5.out.cellD 8 _ rfl
      have y9 := S5.out.cellD 9 _ rfl
      have y10 := S5.out.cellD 10 _ rfl
      have RO2 := Lib.hid RO.out
      rw [RN.out] at RO2
      go_wp2
      refine bodyPost_ret (tok_res2 rfl _ (((B5.out.set 0 _).set 1 _).set 2 _) rfl rfl) rfl ?_
      have kb := (((Keeps.self bx w5).put 0 (.int .i64 s9.t.n)).put 1 (.int .i64 s9.t.d)).put 2 (.int .u8 s9.t.b)
      have K9 := K5.out.trans kb (T := RdB db ⟨sb, b1, g1, b2, g2, b3, g3⟩) (fun _ h => h) (fun k hk h => by have h : k = bx := h; omega)
      unfold NextDone
      rw [RT.out, RN.out]
      exact ⟨rfl, ⟨kb.blk S5.out (by show ¬ sb = bx; have := NE.out; omega), T5.out.keeps kb (fun k h1 h2 => by show ¬ _ = _; have h2 : k ≤ b3 := h2; have := NE.out; omega) OR.out, D5.out.keeps kb (by show ¬ _ = _; have := NE.out; omega), DK.out, RO2.out, OR.out, NE.out.1⟩, K9⟩
  · clear hp
    -- 2 the part, 8 how many bits it has, 256 how many numbers
    have SZ : Hid (∀ w', w'.cell? ⟨sb, 6, none⟩ = some (.int .i64 2) → Calls Try.prog 62 #[.pointer (some ⟨sb, 0, none⟩)] w' fun e w'' => e = .returned (.int .i64 8) ∧ w' = w'') := fun w' h => tksize_any sb 2 w' h (by decide)
    have n3 : node < 256 := n2
    have n4 : node < 256 := by omega
    clear n2
    go_enter Try.func52, Try.ntmps52
    go_wp2
    obtain ⟨w1, hw1⟩ : ∃ x, w.alloc (.cells #[.int .i64 0, .int .i64 0, .int .u8 0] 51) = x := ⟨_, rfl⟩
    rw [hw1] at K1 B1 H1
    rw [hw1]
    clear hw1
    have c7 : Hid (w1.cell? ⟨sb, 7, none⟩ = some (.int .i64 node)) := H1.out.st.cellD 7 _ rfl
    obtain ⟨mS, mh⟩ : ∃ S : World → Prop, ∀ w', S w' ↔ (w'.cell? ⟨sb, 7, none⟩ = some (.int .i64 node)) := ⟨_, fun _ => Iff.rfl⟩
    have mk0 : ∀ x : Memb mS, x.at_.cell? ⟨sb, 7, none⟩ = some (.int .i64 node) := fun x => ((mh _).1 x.is)
    have mn : Nonempty (Memb mS) := ⟨⟨(w1).drew, (mh _).2 (c7.out)⟩⟩
    have mH := Lib.hid mh
    clear mh
    refine wp_region_mix [8, 12] (InS mS) (by kernel_rfl) (by kernel_rfl) (InS.mk ((mH.out _).2 (c7.out))) ?_
    refine wpMix_seg 8 (by kernel_rfl) (by decide) ?_
    simp only [List.take_succ_cons, List.take_zero, List.drop_succ_cons, List.drop_zero]
    repeat (go_big_quiet_step (fail))
    refine wpQuiet_nil ?_
    refine wpMix_eff (by kernel_rfl) ?_
    go_wp2_with fail
    refine (BIT.out _ (H1.out.later (Keeps.refl None w1).drew)).mono ?_
    rintro e w2 ⟨he, s2, t2, d2, k2⟩
    rw [BV.out] at he
    subst he
    rw [MV.out] at s2 t2
    have S2 : Hid (Blk w2 sb [.int .i64 q0, .int .i64 q1, .int .i64 qe, .pointer (some ⟨b1, 0, none⟩), .pointer (some ⟨b2, 0, none⟩), .pointer (some ⟨b3, 0, none⟩), .int .i64 2, .int .i64 node, .int .i64 tn, .int .i64 td, .int .u8 tb] 92) := s2
    have T2 := Lib.hid t2
    have D2 := Lib.hid d2
    have K2 := Lib.hid ((Keeps.refl (RdB db ⟨sb, b1, g1, b2, g2, b3, g3⟩) w1).drew.trans k2 (T := RdB db ⟨sb, b1, g1, b2, g2, b3, g3⟩) (fun _ h => h) (fun _ _ h => h))
    have B2 := Lib.hid (K2.out.blk B1.out (by show ¬ (_ ∨ (_ ∧ _)); dsimp only; have := NE.out; omega))
    have y7 := S2.out.cellD 7 _ rfl
    have u7 := S2.out.frozen 7
    clear s2 t2 d2 k2 BIT
    go_wp2
    refine MixK.on (InS.mk ((mH.out _).2 (S2.out.cellD 7 _ rfl))) ?_
    refine wpMix_seg 3 (by kernel_rfl) (by decide) ?_
    simp only [List.take_succ_cons, List.take_zero, List.drop_succ_cons, List.drop_zero]
    repeat (go_big_quiet_step (fail))
    refine wpQuiet_nil ?_
    refine wpMix_eff (by kernel_rfl) ?_
    go_wp2
    refine MixK.last (by kernel_rfl) ?_
    refine wpMix_nil ?_
    clear mk0 mn mH
    have ks := (Keeps.self sb w2).put 7 (.int .i64 (2 * node + bv))
    have S3 := Lib.hid (S2.out.set 7 (.int .i64 (2 * node + bv)))
    have B3 := Lib.hid (ks.blk B2.out (by show ¬ _ = _; have := NE.out; omega))
    have T3 := Lib.hid (T2.out.keeps ks (fun k h1 h2 => by show ¬ _ = _; have h2 : k ≤ b3 := h2; have := NE.out; omega) OR.out)
    have D3 := Lib.hid (D2.out.keeps ks (by show ¬ _ = _; have := NE.out; omega))
    have K3 := Lib.hid ((K1.out.trans K2.out (T := RdB db ⟨sb, b1, g1, b2, g2, b3, g3⟩) (fun _ h => h.elim) (fun _ _ h => h)).trans ks (T := RdB db ⟨sb, b1, g1, b2, g2, b3, g3⟩) (fun _ h => h) (fun k _ h => .inr ⟨by have := NE.out; have h : k = sb := h; show g1 ≤ k; omega, by have h : k = sb := h; show k ≤ sb; omega⟩))
    clear ks y7 u7 S2 B2 T2 D2 K2 K1 B1 c7 H1
    obtain ⟨w3, hw3⟩ : ∃ x, w2.setCell ⟨sb, 7, none⟩ (.int .i64 (2 * node + bv)) = x := ⟨_, rfl⟩
    rw [hw3] at S3 B3 T3 D3 K3
    rw [hw3]
    clear hw3
    go_wp2_with fail
    refine (SZ.out _ (S3.out.cellD 6 _ rfl)).mono ?_
    rintro e w' ⟨rfl, rfl⟩
    have x7 := S3.out.cellD 7 _ rfl
    have f7 := S3.out.frozen 7
    by_cases hf : 2 * node + bv < 256
    · skip
      -- not whole: 2 part, 256 all
      have d1 : decide (2 * node + bv < 256) = true := decide_eq_true hf
      have NF : Hid (rFull (⟨⟨p0, p1, be, bt, lt, dt⟩, 2, node, ⟨tn, td, tb⟩⟩ : RdS) d = false) := by show _ = _; rw [RF.out]; exact decide_eq_false (by show ¬ (256 : Int) ≤ 2 * node + bv; omega)
      have RN : Hid (rNext (⟨⟨p0, p1, be, bt, lt, dt⟩, 2, node, ⟨tn, td, tb⟩⟩ : RdS) d = ⟨⟨q0, q1, qe, qbt, qlt, qdt⟩, 2, 2 * node + bv, ⟨tn, td, tb⟩⟩) := by show _ = _; rw [RNN.out, if_neg (by rw [NF.out]; decide), MV.out]
      have RT : Hid (rTok (⟨⟨p0, p1, be, bt, lt, dt⟩, 2, node, ⟨tn, td, tb⟩⟩ : RdS) d = false) := by show _ = _; unfold rTok; rw [NF.out]; rfl
      clear RF RNN NF
      have z0 := B3.out.cellD 0 _ rfl
      have z1 := B3.out.cellD 1 _ rfl
      have z2 := B3.out.cellD 2 _ rfl
      have f0 := B3.out.frozen 0
      have f1 := B3.out.frozen 1
      have f2 := B3.out.frozen 2
      go_wp2
      refine bodyPost_ret (tok_res2 rfl _ (((B3.out.set 0 _).set 1 _).set 2 _) rfl rfl) rfl ?_
      have kb := (((Keeps.self bx w3).put 0 (.int .i64 0)).put 1 (.int .i64 0)).put 2 (.int .u8 0)
      have K9 := K3.out.trans kb (T := RdB db ⟨sb, b1, g1, b2, g2, b3, g3⟩) (fun _ h => h) (fun k hk h => by have h : k = bx := h; omega)
      have RO2 := RO.out
      rw [RN.out] at RO2
      unfold NextDone
      rw [RT.out, RN.out]
      exact ⟨rfl, ⟨kb.blk S3.out (by show ¬ sb = bx; have := NE.out; omega), T3.out.keeps kb (fun k h1 h2 => by show ¬ _ = _; have h2 : k ≤ b3 := h2; have := NE.out; omega) OR.out, D3.out.keeps kb (by show ¬ _ = _; have := NE.out; omega), DK.out, RO2, OR.out, NE.out.1⟩, K9⟩
    · skip
      -- whole: 2 part, 256 all, false is the token whole
      have d1 : decide (2 * node + bv < 256) = false := decide_eq_false hf
      have NF : Hid (rFull (⟨⟨p0, p1, be, bt, lt, dt⟩, 2, node, ⟨tn, td, tb⟩⟩ : RdS) d = true) := by show _ = _; rw [RF.out]; exact decide_eq_true (by show (256 : Int) ≤ 2 * node + bv; omega)
      obtain ⟨s9, h9⟩ : ∃ x, rWhole ⟨⟨q0, q1, qe, qbt, qlt, qdt⟩, 2, 1, ⟨tn, td, tb⟩⟩ (2 * node + bv - 256) = x := ⟨_, rfl⟩
      have RN : Hid (rNext (⟨⟨p0, p1, be, bt, lt, dt⟩, 2, node, ⟨tn, td, tb⟩⟩ : RdS) d = s9) := by show _ = _; rw [RNN.out, if_pos NF.out, MV.out, ← h9]; rfl
      have RT : Hid (rTok (⟨⟨p0, p1, be, bt, lt, dt⟩, 2, node, ⟨tn, td, tb⟩⟩ : RdS) d = false) := by show _ = _; unfold rTok; rw [NF.out]; rfl
      have T4 : Hid (Trees w3 ⟨sb, b1, g1, b2, g2, b3, g3⟩ s9.m) := by show Trees _ _ _; rw [← h9]; exact Trees.whole T3.out
      have WH : Hid (∀ w', Blk w' sb [.int .i64 q0, .int .i64 q1, .int .i64 qe, .pointer (some ⟨b1, 0, none⟩), .pointer (some ⟨b2, 0, none⟩), .pointer (some ⟨b3, 0, none⟩), .int .i64 2, .int .i64 1, .int .i64 tn, .int .i64 td, .int .u8 tb] 92 → Calls Try.prog 63 #[.pointer (some ⟨sb, 0, none⟩), .int .i64 (2 * node + bv - 256)] w' fun e w'' => e = .returned (.bool false) ∧ Blk w'' sb (rcells ⟨sb, b1, g1, b2, g2, b3, g3⟩ s9) 92 ∧ Keeps (fun k => k = sb) w' w'') := fun w' hh => by
        have := tkwhole_any sb ⟨sb, b1, g1, b2, g2, b3, g3⟩ ⟨⟨q0, q1, qe, qbt, qlt, qdt⟩, 2, 1, ⟨tn, td, tb⟩⟩ (2 * node + bv - 256) w' hh (show 2 ≤ 4 by decide) (by omega) (by show _ < (256 : Int); omega) (fun e => ⟨D0.out.1, (by first | exact D0.out.2 trivial | exact D0.out.2 e)⟩)
        rw [h9] at this
        exact this
      clear RF RNN NF T3 h9
      go_wp2_with fail
      refine (WH.out _ (S3.out.set 7 (.int .i64 1))).mono ?_
      rintro e w5 ⟨rfl, s5, k5⟩
      have k35 := (Keeps.self sb w3).put 7 (.int .i64 1)
      have k5 := k35.link k5
      have S5 := Lib.hid s5
      have B5 := Lib.hid (k5.blk B3.out (by show ¬ _ = _; have := NE.out; omega))
      have T5 := Lib.hid (T4.out.keeps k5 (fun k h1 h2 => by show ¬ _ = _; have h2 : k ≤ b3 := h2; have := NE.out; omega) OR.out)
      have D5 := Lib.hid (D3.out.keeps k5 (by show ¬ _ = _; have := NE.out; omega))
      have K5 := Lib.hid (K3.out.trans k5 (T := RdB db ⟨sb, b1, g1, b2, g2, b3, g3⟩) (fun _ h => h) (fun k hk h => .inr ⟨by have := NE.out; have h : k = sb := h; show g1 ≤ k; omega, by have h : k = sb := h; show k ≤ sb; omega⟩))
      clear k35 k5 s5 S3 B3 T4 D3 K3 x7 f7 WH
      have z0 := B5.out.cellD 0 _ rfl
      have z1 := B5.out.cellD 1 _ rfl
      have z2 := B5.out.cellD 2 _ rfl
      have f0 := B5.out.frozen 0
      have f1 := B5.out.frozen 1
      have f2 := B5.out.frozen 2
      have y8 := S5.out.cellD 8 _ rfl
      have y9 := S5.out.cellD 9 _ rfl
      have y10 := S5.out.cellD 10 _ rfl
      have RO2 := Lib.hid RO.out
      rw [RN.out] at RO2
      go_wp2
      refine bodyPost_ret (tok_res2 rfl _ (((B5.out.set 0 _).set 1 _).set 2 _) rfl rfl) rfl ?_
      have kb := (((Keeps.self bx w5).put 0 (.int .i64 0)).put 1 (.int .i64 0)).put 2 (.int .u8 0)
      have K9 := K5.out.trans kb (T := RdB db ⟨sb, b1, g1, b2, g2, b3, g3⟩) (fun _ h => h) (fun k hk h => by have h : k = bx := h; omega)
      unfold NextDone
      rw [RT.out, RN.out]
      exact ⟨rfl, ⟨kb.blk S5.out (by show ¬ sb = bx; have := NE.out; omega), T5.out.keeps kb (fun k h1 h2 => by show ¬ _ = _; have h2 : k ≤ b3 := h2; have := NE.out; omega) OR.out, D5.out.keeps kb (by show ¬ _ = _; have := NE.out; omega), DK.out, RO2.out, OR.out, NE.out.1⟩, K9⟩
  · clear hp
    -- 3 the part, 6 how many bits it has, 64 how many numbers
    have SZ : Hid (∀ w', w'.cell? ⟨sb, 6, none⟩ = some (.int .i64 3) → Calls Try.prog 62 #[.pointer (some ⟨sb, 0, none⟩)] w' fun e w'' => e = .returned (.int .i64 6) ∧ w' = w'') := fun w' h => tksize_any sb 3 w' h (by decide)
    have n3 : node < 64 := n2
    have n4 : node < 256 := by omega
    clear n2
    go_enter Try.func52, Try.ntmps52
    go_wp2
    obtain ⟨w1, hw1⟩ : ∃ x, w.alloc (.cells #[.int .i64 0, .int .i64 0, .int .u8 0] 51) = x := ⟨_, rfl⟩
    rw [hw1] at K1 B1 H1
    rw [hw1]
    clear hw1
    have c7 : Hid (w1.cell? ⟨sb, 7, none⟩ = some (.int .i64 node)) := H1.out.st.cellD 7 _ rfl
    obtain ⟨mS, mh⟩ : ∃ S : World → Prop, ∀ w', S w' ↔ (w'.cell? ⟨sb, 7, none⟩ = some (.int .i64 node)) := ⟨_, fun _ => Iff.rfl⟩
    have mk0 : ∀ x : Memb mS, x.at_.cell? ⟨sb, 7, none⟩ = some (.int .i64 node) := fun x => ((mh _).1 x.is)
    have mn : Nonempty (Memb mS) := ⟨⟨(w1).drew, (mh _).2 (c7.out)⟩⟩
    have mH := Lib.hid mh
    clear mh
    refine wp_region_mix [8, 12] (InS mS) (by kernel_rfl) (by kernel_rfl) (InS.mk ((mH.out _).2 (c7.out))) ?_
    refine wpMix_seg 8 (by kernel_rfl) (by decide) ?_
    simp only [List.take_succ_cons, List.take_zero, List.drop_succ_cons, List.drop_zero]
    repeat (go_big_quiet_step (fail))
    refine wpQuiet_nil ?_
    refine wpMix_eff (by kernel_rfl) ?_
    go_wp2_with fail
    refine (BIT.out _ (H1.out.later (Keeps.refl None w1).drew)).mono ?_
    rintro e w2 ⟨he, s2, t2, d2, k2⟩
    rw [BV.out] at he
    subst he
    rw [MV.out] at s2 t2
    have S2 : Hid (Blk w2 sb [.int .i64 q0, .int .i64 q1, .int .i64 qe, .pointer (some ⟨b1, 0, none⟩), .pointer (some ⟨b2, 0, none⟩), .pointer (some ⟨b3, 0, none⟩), .int .i64 3, .int .i64 node, .int .i64 tn, .int .i64 td, .int .u8 tb] 92) := s2
    have T2 := Lib.hid t2
    have D2 := Lib.hid d2
    have K2 := Lib.hid ((Keeps.refl (RdB db ⟨sb, b1, g1, b2, g2, b3, g3⟩) w1).drew.trans k2 (T := RdB db ⟨sb, b1, g1, b2, g2, b3, g3⟩) (fun _ h => h) (fun _ _ h => h))
    have B2 := Lib.hid (K2.out.blk B1.out (by show ¬ (_ ∨ (_ ∧ _)); dsimp only; have := NE.out; omega))
    have y7 := S2.out.cellD 7 _ rfl
    have u7 := S2.out.frozen 7
    clear s2 t2 d2 k2 BIT
    go_wp2
    refine MixK.on (InS.mk ((mH.out _).2 (S2.out.cellD 7 _ rfl))) ?_
    refine wpMix_seg 3 (by kernel_rfl) (by decide) ?_
    simp only [List.take_succ_cons, List.take_zero, List.drop_succ_cons, List.drop_zero]
    repeat (go_big_quiet_step (fail))
    refine wpQuiet_nil ?_
    refine wpMix_eff (by kernel_rfl) ?_
    go_wp2
    refine MixK.last (by kernel_rfl) ?_
    refine wpMix_nil ?_
    clear mk0 mn mH
    have ks := (Keeps.self sb w2).put 7 (.int .i64 (2 * node + bv))
    have S3 := Lib.hid (S2.out.set 7 (.int .i64 (2 * node + bv)))
    have B3 := Lib.hid (ks.blk B2.out (by show ¬ _ = _; have := NE.out; omega))
    have T3 := Lib.hid (T2.out.keeps ks (fun k h1 h2 => by show ¬ _ = _; have h2 : k ≤ b3 := h2; have := NE.out; omega) OR.out)
    have D3 := Lib.hid (D2.out.keeps ks (by show ¬ _ = _; have := NE.out; omega))
    have K3 := Lib.hid ((K1.out.trans K2.out (T := RdB db ⟨sb, b1, g1, b2, g2, b3, g3⟩) (fun _ h => h.elim) (fun _ _ h => h)).trans ks (T := RdB db ⟨sb, b1, g1, b2, g2, b3, g3⟩) (fun _ h => h) (fun k _ h => .inr ⟨by have := NE.out; have h : k = sb := h; show g1 ≤ k; omega, by have h : k = sb := h; show k ≤ sb; omega⟩))
    clear ks y7 u7 S2 B2 T2 D2 K2 K1 B1 c7 H1
    obtain ⟨w3, hw3⟩ : ∃ x, w2.setCell ⟨sb, 7, none⟩ (.int .i64 (2 * node + bv)) = x := ⟨_, rfl⟩
    rw [hw3] at S3 B3 T3 D3 K3
    rw [hw3]
    clear hw3
    go_wp2_with fail
    refine (SZ.out _ (S3.out.cellD 6 _ rfl)).mono ?_
    rintro e w' ⟨rfl, rfl⟩
    have x7 := S3.out.cellD 7 _ rfl
    have f7 := S3.out.frozen 7
    by_cases hf : 2 * node + bv < 64
    · skip
      -- not whole: 3 part, 64 all
      have d1 : decide (2 * node + bv < 64) = true := decide_eq_true hf
      have NF : Hid (rFull (⟨⟨p0, p1, be, bt, lt, dt⟩, 3, node, ⟨tn, td, tb⟩⟩ : RdS) d = false) := by show _ = _; rw [RF.out]; exact decide_eq_false (by show ¬ (64 : Int) ≤ 2 * node + bv; omega)
      have RN : Hid (rNext (⟨⟨p0, p1, be, bt, lt, dt⟩, 3, node, ⟨tn, td, tb⟩⟩ : RdS) d = ⟨⟨q0, q1, qe, qbt, qlt, qdt⟩, 3, 2 * node + bv, ⟨tn, td, tb⟩⟩) := by show _ = _; rw [RNN.out, if_neg (by rw [NF.out]; decide), MV.out]
      have RT : Hid (rTok (⟨⟨p0, p1, be, bt, lt, dt⟩, 3, node, ⟨tn, td, tb⟩⟩ : RdS) d = false) := by show _ = _; unfold rTok; rw [NF.out]; rfl
      clear RF RNN NF
      have z0 := B3.out.cellD 0 _ rfl
      have z1 := B3.out.cellD 1 _ rfl
      have z2 := B3.out.cellD 2 _ rfl
      have f0 := B3.out.frozen 0
      have f1 := B3.out.frozen 1
      have f2 := B3.out.frozen 2
      go_wp2
      refine bodyPost_ret (tok_res2 rfl _ (((B3.out.set 0 _).set 1 _).set 2 _) rfl rfl) rfl ?_
      have kb := (((Keeps.self bx w3).put 0 (.int .i64 0)).put 1 (.int .i64 0)).put 2 (.int .u8 0)
      have K9 := K3.out.trans kb (T := RdB db ⟨sb, b1, g1, b2, g2, b3, g3⟩) (fun _ h => h) (fun k hk h => by have h : k = bx := h; omega)
      have RO2 := RO.out
      rw [RN.out] at RO2
      unfold NextDone
      rw [RT.out, RN.out]
      exact ⟨rfl, ⟨kb.blk S3.out (by show ¬ sb = bx; have := NE.out; omega), T3.out.keeps kb (fun k h1 h2 => by show ¬ _ = _; have h2 : k ≤ b3 := h2; have := NE.out; omega) OR.out, D3.out.keeps kb (by show ¬ _ = _; have := NE.out; omega), DK.out, RO2, OR.out, NE.out.1⟩, K9⟩
    · skip
      -- whole: 3 part, 64 all, false is the token whole
      have d1 : decide (2 * node + bv < 64) = false := decide_eq_false hf
      have NF : Hid (rFull (⟨⟨p0, p1, be, bt, lt, dt⟩, 3, node, ⟨tn, td, tb⟩⟩ : RdS) d = true) := by show _ = _; rw [RF.out]; exact decide_eq_true (by show (64 : Int) ≤ 2 * node + bv; omega)
      obtain ⟨s9, h9⟩ : ∃ x, rWhole ⟨⟨q0, q1, qe, qbt, qlt, qdt⟩, 3, 1, ⟨tn, td, tb⟩⟩ (2 * node + bv - 64) = x := ⟨_, rfl⟩
      have RN : Hid (rNext (⟨⟨p0, p1, be, bt, lt, dt⟩, 3, node, ⟨tn, td, tb⟩⟩ : RdS) d = s9) := by show _ = _; rw [RNN.out, if_pos NF.out, MV.out, ← h9]; rfl
      have RT : Hid (rTok (⟨⟨p0, p1, be, bt, lt, dt⟩, 3, node, ⟨tn, td, tb⟩⟩ : RdS) d = false) := by show _ = _; unfold rTok; rw [NF.out]; rfl
      have T4 : Hid (Trees w3 ⟨sb, b1, g1, b2, g2, b3, g3⟩ s9.m) := by show Trees _ _ _; rw [← h9]; exact Trees.whole T3.out
      have WH : Hid (∀ w', Blk w' sb [.int .i64 q0, .int .i64 q1, .int .i64 qe, .pointer (some ⟨b1, 0, none⟩), .pointer (some ⟨b2, 0, none⟩), .pointer (some ⟨b3, 0, none⟩), .int .i64 3, .int .i64 1, .int .i64 tn, .int .i64 td, .int .u8 tb] 92 → Calls Try.prog 63 #[.pointer (some ⟨sb, 0, none⟩), .int .i64 (2 * node + bv - 64)] w' fun e w'' => e = .returned (.bool false) ∧ Blk w'' sb (rcells ⟨sb, b1, g1, b2, g2, b3, g3⟩ s9) 92 ∧ Keeps (fun k => k = sb) w' w'') := fun w' hh => by
        have := tkwhole_any sb ⟨sb, b1, g1, b2, g2, b3, g3⟩ ⟨⟨q0, q1, qe, qbt, qlt, qdt⟩, 3, 1, ⟨tn, td, tb⟩⟩ (2 * node + bv - 64) w' hh (show 3 ≤ 4 by decide) (by omega) (by show _ < (64 : Int); omega) (fun e => ⟨D0.out.1, (by first | exact D0.out.2 trivial | exact D0.out.2 e)⟩)
        rw [h9] at this
        exact this
      clear RF RNN NF T3 h9
      go_wp2_with fail
      refine (WH.out _ (S3.out.set 7 (.int .i64 1))).mono ?_
      rintro e w5 ⟨rfl, s5, k5⟩
      have k35 := (Keeps.self sb w3).put 7 (.int .i64 1)
      have k5 := k35.link k5
      have S5 := Lib.hid s5
      have B5 := Lib.hid (k5.blk B3.out (by show ¬ _ = _; have := NE.out; omega))
      have T5 := Lib.hid (T4.out.keeps k5 (fun k h1 h2 => by show ¬ _ = _; have h2 : k ≤ b3 := h2; have := NE.out; omega) OR.out)
      have D5 := Lib.hid (D3.out.keeps k5 (by show ¬ _ = _; have := NE.out; omega))
      have K5 := Lib.hid (K3.out.trans k5 (T := RdB db ⟨sb, b1, g1, b2, g2, b3, g3⟩) (fun _ h => h) (fun k hk h => .inr ⟨by have := NE.out; have h : k = sb := h; show g1 ≤ k; omega, by have h : k = sb := h; show k ≤ sb; omega⟩))
      clear k35 k5 s5 S3 B3 T4 D3 K3 x7 f7 WH
      have z0 := B5.out.cellD 0 _ rfl
      have z1 := B5.out.cellD 1 _ rfl
      have z2 := B5.out.cellD 2 _ rfl
      have f0 := B5.out.frozen 0
      have f1 := B5.out.frozen 1
      have f2 := B5.out.frozen 2
      have y8 := S5.out.cellD 8 _ rfl
      have y9 := S5.out.cellD 9 _ rfl
      have y10 := S5.out.cellD 10 _ rfl
      have RO2 := Lib.hid RO.out
      rw [RN.out] at RO2
      go_wp2
      refine bodyPost_ret (tok_res2 rfl _ (((B5.out.set 0 _).set 1 _).set 2 _) rfl rfl) rfl ?_
      have kb := (((Keeps.self bx w5).put 0 (.int .i64 0)).put 1 (.int .i64 0)).put 2 (.int .u8 0)
      have K9 := K5.out.trans kb (T := RdB db ⟨sb, b1, g1, b2, g2, b3, g3⟩) (fun _ h => h) (fun k hk h => by have h : k = bx := h; omega)
      unfold NextDone
      rw [RT.out, RN.out]
      exact ⟨rfl, ⟨kb.blk S5.out (by show ¬ sb = bx; have := NE.out; omega), T5.out.keeps kb (fun k h1 h2 => by show ¬ _ = _; have h2 : k ≤ b3 := h2; have := NE.out; omega) OR.out, D5.out.keeps kb (by show ¬ _ = _; have := NE.out; omega), DK.out, RO2.out, OR.out, NE.out.1⟩, K9⟩
  · clear hp
    -- 4 the part, 6 how many bits it has, 64 how many numbers
    have SZ : Hid (∀ w', w'.cell? ⟨sb, 6, none⟩ = some (.int .i64 4) → Calls Try.prog 62 #[.pointer (some ⟨sb, 0, none⟩)] w' fun e w'' => e = .returned (.int .i64 6) ∧ w' = w'') := fun w' h => tksize_any sb 4 w' h (by decide)
    have n3 : node < 64 := n2
    have n4 : node < 256 := by omega
    clear n2
    go_enter Try.func52, Try.ntmps52
    go_wp2
    obtain ⟨w1, hw1⟩ : ∃ x, w.alloc (.cells #[.int .i64 0, .int .i64 0, .int .u8 0] 51) = x := ⟨_, rfl⟩
    rw [hw1] at K1 B1 H1
    rw [hw1]
    clear hw1
    have c7 : Hid (w1.cell? ⟨sb, 7, none⟩ = some (.int .i64 node)) := H1.out.st.cellD 7 _ rfl
    obtain ⟨mS, mh⟩ : ∃ S : World → Prop, ∀ w', S w' ↔ (w'.cell? ⟨sb, 7, none⟩ = some (.int .i64 node)) := ⟨_, fun _ => Iff.rfl⟩
    have mk0 : ∀ x : Memb mS, x.at_.cell? ⟨sb, 7, none⟩ = some (.int .i64 node) := fun x => ((mh _).1 x.is)
    have mn : Nonempty (Memb mS) := ⟨⟨(w1).drew, (mh _).2 (c7.out)⟩⟩
    have mH := Lib.hid mh
    clear mh
    refine wp_region_mix [8, 12] (InS mS) (by kernel_rfl) (by kernel_rfl) (InS.mk ((mH.out _).2 (c7.out))) ?_
    refine wpMix_seg 8 (by kernel_rfl) (by decide) ?_
    simp only [List.take_succ_cons, List.take_zero, List.drop_succ_cons, List.drop_zero]
    repeat (go_big_quiet_step (fail))
    refine wpQuiet_nil ?_
    refine wpMix_eff (by kernel_rfl) ?_
    go_wp2_with fail
    refine (BIT.out _ (H1.out.later (Keeps.refl None w1).drew)).mono ?_
    rintro e w2 ⟨he, s2, t2, d2, k2⟩
    rw [BV.out] at he
    subst he
    rw [MV.out] at s2 t2
    have S2 : Hid (Blk w2 sb [.int .i64 q0, .int .i64 q1, .int .i64 qe, .pointer (some ⟨b1, 0, none⟩), .pointer (some ⟨b2, 0, none⟩), .pointer (some ⟨b3, 0, none⟩), .int .i64 4, .int .i64 node, .int .i64 tn, .int .i64 td, .int .u8 tb] 92) := s2
    have T2 := Lib.hid t2
    have D2 := Lib.hid d2
    have K2 := Lib.hid ((Keeps.refl (RdB db ⟨sb, b1, g1, b2, g2, b3, g3⟩) w1).drew.trans k2 (T := RdB db ⟨sb, b1, g1, b2, g2, b3, g3⟩) (fun _ h => h) (fun _ _ h => h))
    have B2 := Lib.hid (K2.out.blk B1.out (by show ¬ (_ ∨ (_ ∧ _)); dsimp only; have := NE.out; omega))
    have y7 := S2.out.cellD 7 _ rfl
    have u7 := S2.out.frozen 7
    clear s2 t2 d2 k2 BIT
    go_wp2
    refine MixK.on (InS.mk ((mH.out _).2 (S2.out.cellD 7 _ rfl))) ?_
    refine wpMix_seg 3 (by kernel_rfl) (by decide) ?_
    simp only [List.take_succ_cons, List.take_zero, List.drop_succ_cons, List.drop_zero]
    repeat (go_big_quiet_step (fail))
    refine wpQuiet_nil ?_
    refine wpMix_eff (by kernel_rfl) ?_
    go_wp2
    refine MixK.last (by kernel_rfl) ?_
    refine wpMix_nil ?_
    clear mk0 mn mH
    have ks := (Keeps.self sb w2).put 7 (.int .i64 (2 * node + bv))
    have S3 := Lib.hid (S2.out.set 7 (.int .i64 (2 * node + bv)))
    have B3 := Lib.hid (ks.blk B2.out (by show ¬ _ = _; have := NE.out; omega))
    have T3 := Lib.hid (T2.out.keeps ks (fun k h1 h2 => by show ¬ _ = _; have h2 : k ≤ b3 := h2; have := NE.out; omega) OR.out)
    have D3 := Lib.hid (D2.out.keeps ks (by show ¬ _ = _; have := NE.out; omega))
    have K3 := Lib.hid ((K1.out.trans K2.out (T := RdB db ⟨sb, b1, g1, b2, g2, b3, g3⟩) (fun _ h => h.elim) (fun _ _ h => h)).trans ks (T := RdB db ⟨sb, b1, g1, b2, g2, b3, g3⟩) (fun _ h => h) (fun k _ h => .inr ⟨by have := NE.out; have h : k = sb := h; show g1 ≤ k; omega, by have h : k = sb := h; show k ≤ sb; omega⟩))
    clear ks y7 u7 S2 B2 T2 D2 K2 K1 B1 c7 H1
    obtain ⟨w3, hw3⟩ : ∃ x, w2.setCell ⟨sb, 7, none⟩ (.int .i64 (2 * node + bv)) = x := ⟨_, rfl⟩
    rw [hw3] at S3 B3 T3 D3 K3
    rw [hw3]
    clear hw3
    go_wp2_with fail
    refine (SZ.out _ (S3.out.cellD 6 _ rfl)).mono ?_
    rintro e w' ⟨rfl, rfl⟩
    have x7 := S3.out.cellD 7 _ rfl
    have f7 := S3.out.frozen 7
    by_cases hf : 2 * node + bv < 64
    · skip
      -- not whole: 4 part, 64 all
      have d1 : decide (2 * node + bv < 64) = true := decide_eq_true hf
      have NF : Hid (rFull (⟨⟨p0, p1, be, bt, lt, dt⟩, 4, node, ⟨tn, td, tb⟩⟩ : RdS) d = false) := by show _ = _; rw [RF.out]; exact decide_eq_false (by show ¬ (64 : Int) ≤ 2 * node + bv; omega)
      have RN : Hid (rNext (⟨⟨p0, p1, be, bt, lt, dt⟩, 4, node, ⟨tn, td, tb⟩⟩ : RdS) d = ⟨⟨q0, q1, qe, qbt, qlt, qdt⟩, 4, 2 * node + bv, ⟨tn, td, tb⟩⟩) := by show _ = _; rw [RNN.out, if_neg (by rw [NF.out]; decide), MV.out]
      have RT : Hid (rTok (⟨⟨p0, p1, be, bt, lt, dt⟩, 4, node, ⟨tn, td, tb⟩⟩ : RdS) d = false) := by show _ = _; unfold rTok; rw [NF.out]; rfl
      clear RF RNN NF
      have z0 := B3.out.cellD 0 _ rfl
      have z1 := B3.out.cellD 1 _ rfl
      have z2 := B3.out.cellD 2 _ rfl
      have f0 := B3.out.frozen 0
      have f1 := B3.out.frozen 1
      have f2 := B3.out.frozen 2
      go_wp2
      refine bodyPost_ret (tok_res2 rfl _ (((B3.out.set 0 _).set 1 _).set 2 _) rfl rfl) rfl ?_
      have kb := (((Keeps.self bx w3).put 0 (.int .i64 0)).put 1 (.int .i64 0)).put 2 (.int .u8 0)
      have K9 := K3.out.trans kb (T := RdB db ⟨sb, b1, g1, b2, g2, b3, g3⟩) (fun _ h => h) (fun k hk h => by have h : k = bx := h; omega)
      have RO2 := RO.out
      rw [RN.out] at RO2
      unfold NextDone
      rw [RT.out, RN.out]
      exact ⟨rfl, ⟨kb.blk S3.out (by show ¬ sb = bx; have := NE.out; omega), T3.out.keeps kb (fun k h1 h2 => by show ¬ _ = _; have h2 : k ≤ b3 := h2; have := NE.out; omega) OR.out, D3.out.keeps kb (by show ¬ _ = _; have := NE.out; omega), DK.out, RO2, OR.out, NE.out.1⟩, K9⟩
    · skip
      -- whole: 4 part, 64 all, true is the token whole
      have d1 : decide (2 * node + bv < 64) = false := decide_eq_false hf
      have NF : Hid (rFull (⟨⟨p0, p1, be, bt, lt, dt⟩, 4, node, ⟨tn, td, tb⟩⟩ : RdS) d = true) := by show _ = _; rw [RF.out]; exact decide_eq_true (by show (64 : Int) ≤ 2 * node + bv; omega)
      obtain ⟨s9, h9⟩ : ∃ x, rWhole ⟨⟨q0, q1, qe, qbt, qlt, qdt⟩, 4, 1, ⟨tn, td, tb⟩⟩ (2 * node + bv - 64) = x := ⟨_, rfl⟩
      have RN : Hid (rNext (⟨⟨p0, p1, be, bt, lt, dt⟩, 4, node, ⟨tn, td, tb⟩⟩ : RdS) d = s9) := by show _ = _; rw [RNN.out, if_pos NF.out, MV.out, ← h9]; rfl
      have RT : Hid (rTok (⟨⟨p0, p1, be, bt, lt, dt⟩, 4, node, ⟨tn, td, tb⟩⟩ : RdS) d = true) := by show _ = _; unfold rTok; rw [NF.out]; rfl
      have T4 : Hid (Trees w3 ⟨sb, b1, g1, b2, g2, b3, g3⟩ s9.m) := by show Trees _ _ _; rw [← h9]; exact Trees.whole T3.out
      have WH : Hid (∀ w', Blk w' sb [.int .i64 q0, .int .i64 q1, .int .i64 qe, .pointer (some ⟨b1, 0, none⟩), .pointer (some ⟨b2, 0, none⟩), .pointer (some ⟨b3, 0, none⟩), .int .i64 4, .int .i64 1, .int .i64 tn, .int .i64 td, .int .u8 tb] 92 → Calls Try.prog 63 #[.pointer (some ⟨sb, 0, none⟩), .int .i64 (2 * node + bv - 64)] w' fun e w'' => e = .returned (.bool true) ∧ Blk w'' sb (rcells ⟨sb, b1, g1, b2, g2, b3, g3⟩ s9) 92 ∧ Keeps (fun k => k = sb) w' w'') := fun w' hh => by
        have := tkwhole_any sb ⟨sb, b1, g1, b2, g2, b3, g3⟩ ⟨⟨q0, q1, qe, qbt, qlt, qdt⟩, 4, 1, ⟨tn, td, tb⟩⟩ (2 * node + bv - 64) w' hh (show 4 ≤ 4 by decide) (by omega) (by show _ < (64 : Int); omega) (fun e => ⟨D0.out.1, (by first | exact D0.out.2 trivial | exact D0.out.2 e)⟩)
        rw [h9] at this
        exact this
      clear RF RNN NF T3 h9
      go_wp2_with fail
      refine (WH.out _ (S3.out.set 7 (.int .i64 1))).mono ?_
      rintro e w5 ⟨rfl, s5, k5⟩
      have k35 := (Keeps.self sb w3).put 7 (.int .i64 1)
      have k5 := k35.link k5
      have S5 := Lib.hid s5
      have B5 := Lib.hid (k5.blk B3.out (by show ¬ _ = _; have := NE.out; omega))
      have T5 := Lib.hid (T4.out.keeps k5 (fun k h1 h2 => by show ¬ _ = _; have h2 : k ≤ b3 := h2; have := NE.out; omega) OR.out)
      have D5 := Lib.hid (D3.out.keeps k5 (by show ¬ _ = _; have := NE.out; omega))
      have K5 := Lib.hid (K3.out.trans k5 (T := RdB db ⟨sb, b1, g1, b2, g2, b3, g3⟩) (fun _ h => h) (fun k hk h => .inr ⟨by have := NE.out; have h : k = sb := h; show g1 ≤ k; omega, by have h : k = sb := h; show k ≤ sb; omega⟩))
      clear k35 k5 s5 S3 B3 T4 D3 K3 x7 f7 WH
      have z0 := B5.out.cellD 0 _ rfl
      have z1 := B5.out.cellD 1 _ rfl
      have z2 := B5.out.cellD 2 _ rfl
      have f0 := B5.out.frozen 0
      have f1 := B5.out.frozen 1
      have f2 := B5.out.frozen 2
      have y8 := S5.out.cellD 8 _ rfl
      have y9 := S5.out.cellD 9 _ rfl
      have y10 := S5.out.cellD 10 _ rfl
      have RO2 := Lib.hid RO.out
      rw [RN.out] at RO2
      go_wp2
      refine bodyPost_ret (tok_res2 rfl _ (((B5.out.set 0 _).set 1 _).set 2 _) rfl rfl) rfl ?_
      have kb := (((Keeps.self bx w5).put 0 (.int .i64 s9.t.n)).put 1 (.int .i64 s9.t.d)).put 2 (.int .u8 s9.t.b)
      have K9 := K5.out.trans kb (T := RdB db ⟨sb, b1, g1, b2, g2, b3, g3⟩) (fun _ h => h) (fun k hk h => by have h : k = bx := h; omega)
      unfold NextDone
      rw [RT.out, RN.out]
      exact ⟨rfl, ⟨kb.blk S5.out (by show ¬ sb = bx; have := NE.out; omega), T5.out.keeps kb (fun k h1 h2 => by show ¬ _ = _; have h2 : k ≤ b3 := h2; have := NE.out; omega) OR.out, D5.out.keeps kb (by show ¬ _ = _; have := NE.out; omega), DK.out, RO2.out, OR.out, NE.out.1⟩, K9⟩
end Go.Proofs.Ytnanbnaikmaljaa
