
/- lzlite: the walk of take. -/
import Derived.Test.YtnanbnaikmaljaaLzPXLz
import Derived.Test.YtnanbnaikmaljaaLzPXMix3
namespace Go.Proofs.Ytnanbnaikmaljaa
open Go.RowKit

set_option maxRecDepth 100000 in
set_option maxHeartbeats 3200000 in
theorem lztake_any (L : LzL) (z : LzS) (w : World) (h : LzAt w L z) (hl : z.h.length ≤ z.plain) (hp : z.plain ≤ 8192) :
    Calls Try.prog 39 #[.pointer (some ⟨L.zb, 0, none⟩)] w fun e w' => e = .returned (.bool (lzTakeB z)) ∧ LzAt w' L (lzTakeS z) ∧ Keeps (LzB L) w w' := by
  have NE := Lib.hid h.ne
  have C := Lib.hid h.c
  have RA := Lib.hid h.r
  have HW := Lib.hid h.w
  have ZL := Lib.hid h.c.lt
  have NX := Lib.hid (fun w' (h' : RAt w' L.db L.T z.s z.d) => tknext_any L.db L.T z.s z.d w' h')
  unfold NextDone at NX
  obtain ⟨tk, htk⟩ : ∃ x, rTok z.s z.d = x := ⟨_, rfl⟩
  obtain ⟨s2, hs2⟩ : ∃ x, rNext z.s z.d = x := ⟨_, rfl⟩
  obtain ⟨d2, hd2⟩ : ∃ x, rDec z.s z.d = x := ⟨_, rfl⟩
  have TB : Hid (lzTakeB z = (!tk || (mayT s2.t z.h.length && decide (longT s2.t ≤ (z.plain : Int) - z.h.length)))) := by show _ = _; unfold lzTakeB; rw [htk, hs2]
  have TS : Hid (lzTakeS z = if tk = true then { z with s := s2, d := d2, t := s2.t, left := longT s2.t } else { z with s := s2, d := d2 }) := by show _ = _; unfold lzTakeS; rw [htk, hs2, hd2]
  rw [htk, hs2, hd2] at NX
  rw [TB.out, TS.out]
  clear h htk hs2 hd2 TB TS
  obtain ⟨d, s, h, plain, t, left, st⟩ := z
  obtain ⟨db, T, wb, zb⟩ := L
  dsimp only at hl hp C RA HW NX ZL ⊢
  have NE : Hid (db < T.g1 ∧ T.g1 < T.sb ∧ T.sb < wb ∧ wb < zb) := NE.out
  have c0 := C.out.cellD 0 _ rfl
  have c1 := C.out.cellD 1 _ rfl
  cases tk with
  | false =>
    have TK : Hid ((if false = true then s2.t else (⟨0, 0, 0⟩ : Tok)) = ⟨0, 0, 0⟩) := rfl
    -- 0, 0, 0 the token's fields; false is it whole; tkfalse the tail
    go_enter Try.func39, Try.ntmps39
    go_wp2
    obtain ⟨mS, mh⟩ : ∃ S : World → Prop, ∀ w', S w' ↔ (w'.cell? ⟨zb, 1, none⟩ = some (.pointer (some ⟨T.sb, 0, none⟩)) ∧ w'.cell? ⟨zb, 0, none⟩ = some (.pointer (some ⟨db, 0, none⟩))) := ⟨_, fun _ => Iff.rfl⟩
    have mk0 : ∀ x : Memb mS, x.at_.cell? ⟨zb, 1, none⟩ = some (.pointer (some ⟨T.sb, 0, none⟩)) := fun x => ((mh _).1 x.is).1
    have mk1 : ∀ x : Memb mS, x.at_.cell? ⟨zb, 0, none⟩ = some (.pointer (some ⟨db, 0, none⟩)) := fun x => ((mh _).1 x.is).2
    have mn : Nonempty (Memb mS) := ⟨⟨(w).drew, (mh _).2 ⟨c1, c0⟩⟩⟩
    have mH := Lib.hid mh
    clear mh
    refine wp_region_mix_swap [8, 12, 13] (InS mS) 0 12 13 8 12 (by kernel_rfl) (by kernel_rfl) (InS.mk ((mH.out _).2 ⟨c1, c0⟩)) ?_ ?_
    ·
      refine wpMix_seg 8 (by kernel_rfl) (by decide) ?_
      simp only [List.take_succ_cons, List.take_zero, List.drop_succ_cons, List.drop_zero, Nat.reduceSub]
      repeat (go_big_quiet_step (fail))
      refine wpQuiet_nil ?_
      refine wpMix_eff (by kernel_rfl) ?_
      go_wp2_with fail
      refine (NX.out _ (RA.out.later (Keeps.refl None w).drew)).mono ?_
      rintro e w1 ⟨he, r1, k1⟩
      rw [TK.out] at he
      subst he
      have R1 := Lib.hid r1
      have K1 := Lib.hid ((Keeps.refl (RdB db T) w).drew.trans k1 (T := RdB db T) (fun _ h => h) (fun _ _ h => h))
      have C1 := Lib.hid (K1.out.blk C.out (by show ¬ (_ ∨ _); have := NE.out; omega))
      have W1 := Lib.hid (HW.out.keeps K1.out (by show ¬ (_ ∨ _); have := NE.out; omega))
      clear r1 k1 NX
      unfold tagg
      go_wp2
      refine MixK.on (InS.mk ((mH.out _).2 (⟨C1.out.cellD 1 _ rfl, C1.out.cellD 0 _ rfl⟩))) ?_
      refine wpMix_seg 3 (by kernel_rfl) (by decide) ?_
      simp only [List.take_succ_cons, List.take_zero, List.drop_succ_cons, List.drop_zero, Nat.reduceSub]
      repeat (go_big_quiet_step (fail))
      refine wpQuiet_nil ?_
      refine wpMix_eff (by kernel_rfl) ?_
      go_wp2
      refine MixK.on (InS.mk ((mH.out _).2 (⟨(C1.out.alloc _).cellD 1 _ rfl, (C1.out.alloc _).cellD 0 _ rfl⟩))) ?_
      refine wpMix_eff (by kernel_rfl) ?_
      go_wp2
      refine MixK.on (InS.mk ((mH.out _).2 (⟨(C1.out.alloc _).cellD 1 _ rfl, (C1.out.alloc _).cellD 0 _ rfl⟩))) ?_
      refine wpMix_seg 1 (by kernel_rfl) (by decide) ?_
      simp only [List.take_succ_cons, List.take_zero, List.drop_succ_cons, List.drop_zero, Nat.reduceSub]
      repeat (go_big_quiet_step (fail))
      refine wpQuiet_nil ?_
      refine wpMix_nil ?_
      clear mk0 mk1 mn mH
      obtain ⟨w2, hw2⟩ : ∃ x, w1.alloc (.cells #[.int .i64 (0), .int .i64 (0), .int .u8 (0)] 51) = x := ⟨_, rfl⟩
      obtain ⟨bt, hbt⟩ : ∃ x, w1.heap.size = x := ⟨_, rfl⟩
      have KX : Hid (Keeps None w1 w2) := by show Keeps _ _ _; rw [← hw2]; exact (Keeps.refl None w1).alloc _
      have BT : Hid (Blk w2 bt [.int .i64 (0), .int .i64 (0), .int .u8 (0)] 51) := by show Blk _ _ _ _; rw [← hw2, ← hbt]; exact Blk.new w1 _ _
      have R2 := Lib.hid (R1.out.later KX.out)
      have C2 := Lib.hid (KX.out.blk C1.out (fun h => h))
      have W2 := Lib.hid (W1.out.keeps KX.out (fun h => h))
      have K2 := Lib.hid (K1.out.trans KX.out (T := RdB db T) (fun _ h => h) (fun _ _ h => h.elim))
      have BG : Hid (w.heap.size ≤ bt) := by show _ ≤ _; rw [← hbt]; exact K1.out.size
      rw [hw2, hbt]
      clear hw2 hbt KX R1 C1 W1 K1
      go_wp2
      go_ret
      exact ⟨rfl, ⟨C2.out, R2.out, W2.out, NE.out.2.2.1, NE.out.2.2.2⟩, K2.out.mono (fun k _ hk => hk.elim .inl (fun hk => .inr (.inl hk)))⟩
    ·
      try dsimp only
      try simp only [List.take_succ_cons, List.take_zero, List.drop_succ_cons, List.drop_zero, Nat.reduceSub]
      refine wpMix_nil ?_
      try dsimp only
      try simp only [List.take_succ_cons, List.take_zero, List.drop_succ_cons, List.drop_zero, Nat.reduceSub]
      refine wpMix_eff (by kernel_rfl) ?_
      go_wp2
      have KA : Hid (Keeps None w (w.drew.alloc (.cells #[.int .i64 0, .int .i64 0, .int .u8 0] 51))) := (Keeps.refl None w).drew.alloc _
      have BA : Hid (Blk (w.drew.alloc (.cells #[.int .i64 0, .int .i64 0, .int .u8 0] 51)) w.heap.size [.int .i64 0, .int .i64 0, .int .u8 0] 51) := Blk.new w.drew [.int .i64 0, .int .i64 0, .int .u8 0] 51
      refine MixK.on (InS.mk ((mH.out _).2 (⟨(KA.out.blk C.out (fun h => h)).cellD 1 _ rfl, (KA.out.blk C.out (fun h => h)).cellD 0 _ rfl⟩))) ?_
      refine wpMix_nil ?_
      try dsimp only
      try simp only [List.take_succ_cons, List.take_zero, List.drop_succ_cons, List.drop_zero, Nat.reduceSub]
      refine wpMix_seg 8 (by kernel_rfl) (by decide) ?_
      simp only [List.take_succ_cons, List.take_zero, List.drop_succ_cons, List.drop_zero, Nat.reduceSub]
      repeat (go_big_quiet_step (fail))
      refine wpQuiet_nil ?_
      refine wpMix_eff (by kernel_rfl) ?_
      go_wp2_with fail
      refine (NX.out _ (RA.out.later KA.out)).mono ?_
      rintro e w1 ⟨he, r1, k1⟩
      rw [TK.out] at he
      subst he
      have R1 := Lib.hid r1
      have K1 := Lib.hid (KA.out.trans k1 (T := RdB db T) (fun _ h => h.elim) (fun _ _ h => h))
      have C1 := Lib.hid (K1.out.blk C.out (by show ¬ (_ ∨ _); have := NE.out; omega))
      have W1 := Lib.hid (HW.out.keeps K1.out (by show ¬ (_ ∨ _); have := NE.out; omega))
      have B1 := Lib.hid (k1.blk BA.out (by show ¬ (_ ∨ _); have := NE.out; have := ZL.out; omega))
      clear r1 k1 NX BA
      unfold tagg
      go_wp2
      refine MixK.on (InS.mk ((mH.out _).2 (⟨C1.out.cellD 1 _ rfl, C1.out.cellD 0 _ rfl⟩))) ?_
      refine wpMix_seg 3 (by kernel_rfl) (by decide) ?_
      simp only [List.take_succ_cons, List.take_zero, List.drop_succ_cons, List.drop_zero, Nat.reduceSub]
      repeat (go_big_quiet_step (fail))
      refine wpQuiet_nil ?_
      refine wpMix_nil ?_
      try dsimp only
      try simp only [List.take_succ_cons, List.take_zero, List.drop_succ_cons, List.drop_zero, Nat.reduceSub]
      refine wpMix_eff (by kernel_rfl) ?_
      have x0 := B1.out.cellD 0 _ rfl
      have x1 := B1.out.cellD 1 _ rfl
      have x2 := B1.out.cellD 2 _ rfl
      have y0 := B1.out.frozen 0
      have y1 := B1.out.frozen 1
      have y2 := B1.out.frozen 2
      go_wp2
      have KB : Hid (Keeps (fun k => k = w.heap.size) w1 (((w1.setCell ⟨w.heap.size, 0, none⟩ (.int .i64 (0))).setCell ⟨w.heap.size, 1, none⟩ (.int .i64 (0))).setCell ⟨w.heap.size, 2, none⟩ (.int .u8 (0)))) := (((Keeps.self w.heap.size w1).put 0 _).put 1 _).put 2 _
      have CB := Lib.hid (KB.out.blk C1.out (by show ¬ _ = _; have := ZL.out; omega))
      refine MixK.on (InS.mk ((mH.out _).2 (⟨CB.out.cellD 1 _ rfl, CB.out.cellD 0 _ rfl⟩))) ?_
      refine wpMix_seg 1 (by kernel_rfl) (by decide) ?_
      simp only [List.take_succ_cons, List.take_zero, List.drop_succ_cons, List.drop_zero, Nat.reduceSub]
      repeat (go_big_quiet_step (fail))
      refine wpQuiet_nil ?_
      refine wpMix_nil ?_
      clear mk0 mk1 mn mH
      obtain ⟨w2, hw2⟩ : ∃ x, ((w1.setCell ⟨w.heap.size, 0, none⟩ (.int .i64 (0))).setCell ⟨w.heap.size, 1, none⟩ (.int .i64 (0))).setCell ⟨w.heap.size, 2, none⟩ (.int .u8 (0)) = x := ⟨_, rfl⟩
      obtain ⟨bt, hbt⟩ : ∃ x, w.heap.size = x := ⟨_, rfl⟩
      have BT : Hid (Blk w2 bt [.int .i64 (0), .int .i64 (0), .int .u8 (0)] 51) := by show Blk _ _ _ _; rw [← hw2, ← hbt]; exact ((B1.out.set 0 _).set 1 _).set 2 _
      rw [hw2] at KB
      have ZB := ZL.out
      have R2 := Lib.hid (R1.out.keeps KB.out (fun k hk e => by have hk : k = db ∨ (T.g1 ≤ k ∧ k ≤ T.sb) := hk; have e : k = w.heap.size := e; have := NE.out; omega))
      have C2 := Lib.hid (KB.out.blk C1.out (by show ¬ _ = _; omega))
      have W2 := Lib.hid (W1.out.keeps KB.out (by show ¬ _ = _; have := NE.out; omega))
      have K2 := Lib.hid (K1.out.trans KB.out (T := RdB db T) (fun _ h => h) (fun k hk e => absurd e (by show ¬ _ = _; omega)))
      have BG : Hid (w.heap.size ≤ bt) := by show _ ≤ _; rw [← hbt]; exact Nat.le_refl _
      clear x0 x1 x2 y0 y1 y2 CB
      rw [hw2, hbt]
      clear hw2 hbt KB R1 C1 W1 K1 KA B1 ZB
      go_wp2
      go_ret
      exact ⟨rfl, ⟨C2.out, R2.out, W2.out, NE.out.2.2.1, NE.out.2.2.2⟩, K2.out.mono (fun k _ hk => hk.elim .inl (fun hk => .inr (.inl hk)))⟩
  | true =>
    obtain ⟨⟨tn, td, tb⟩, htt⟩ : ∃ x, s2.t = x := ⟨_, rfl⟩
    have TK : Hid ((if true = true then s2.t else (⟨0, 0, 0⟩ : Tok)) = ⟨tn, td, tb⟩) := htt
    obtain ⟨hn, hhn⟩ : ∃ x, h.length = x := ⟨_, rfl⟩
    have HN := Lib.hid hhn
    have MAY := Lib.hid (fun w' => tkmay_any tn td tb (h.length : Int) w')
    have LON := Lib.hid (fun w' => tklong2_any tn td tb w')
    unfold Tells at MAY LON
    rw [htt]
    rw [hhn] at hl MAY ⊢
    obtain ⟨ln, hln⟩ : ∃ x, longT ⟨tn, td, tb⟩ = x := ⟨_, rfl⟩
    obtain ⟨mv, hmv⟩ : ∃ x, mayT ⟨tn, td, tb⟩ hn = x := ⟨_, rfl⟩
    rw [hmv] at MAY
    rw [hln] at LON
    rw [hmv, hln]
    clear htt hhn hln hmv
    cases mv with
    | false =>
      -- tn, td, tb the token's fields; true is it whole; tktrue the tail
      go_enter Try.func39, Try.ntmps39
      go_wp2
      obtain ⟨mS, mh⟩ : ∃ S : World → Prop, ∀ w', S w' ↔ (w'.cell? ⟨zb, 1, none⟩ = some (.pointer (some ⟨T.sb, 0, none⟩)) ∧ w'.cell? ⟨zb, 0, none⟩ = some (.pointer (some ⟨db, 0, none⟩))) := ⟨_, fun _ => Iff.rfl⟩
      have mk0 : ∀ x : Memb mS, x.at_.cell? ⟨zb, 1, none⟩ = some (.pointer (some ⟨T.sb, 0, none⟩)) := fun x => ((mh _).1 x.is).1
      have mk1 : ∀ x : Memb mS, x.at_.cell? ⟨zb, 0, none⟩ = some (.pointer (some ⟨db, 0, none⟩)) := fun x => ((mh _).1 x.is).2
      have mn : Nonempty (Memb mS) := ⟨⟨(w).drew, (mh _).2 ⟨c1, c0⟩⟩⟩
      have mH := Lib.hid mh
      clear mh
      refine wp_region_mix_swap [8, 12, 13] (InS mS) 0 12 13 8 12 (by kernel_rfl) (by kernel_rfl) (InS.mk ((mH.out _).2 ⟨c1, c0⟩)) ?_ ?_
      ·
        refine wpMix_seg 8 (by kernel_rfl) (by decide) ?_
        simp only [List.take_succ_cons, List.take_zero, List.drop_succ_cons, List.drop_zero, Nat.reduceSub]
        repeat (go_big_quiet_step (fail))
        refine wpQuiet_nil ?_
        refine wpMix_eff (by kernel_rfl) ?_
        go_wp2_with fail
        refine (NX.out _ (RA.out.later (Keeps.refl None w).drew)).mono ?_
        rintro e w1 ⟨he, r1, k1⟩
        rw [TK.out] at he
        subst he
        have R1 := Lib.hid r1
        have K1 := Lib.hid ((Keeps.refl (RdB db T) w).drew.trans k1 (T := RdB db T) (fun _ h => h) (fun _ _ h => h))
        have C1 := Lib.hid (K1.out.blk C.out (by show ¬ (_ ∨ _); have := NE.out; omega))
        have W1 := Lib.hid (HW.out.keeps K1.out (by show ¬ (_ ∨ _); have := NE.out; omega))
        clear r1 k1 NX
        unfold tagg
        go_wp2
        refine MixK.on (InS.mk ((mH.out _).2 (⟨C1.out.cellD 1 _ rfl, C1.out.cellD 0 _ rfl⟩))) ?_
        refine wpMix_seg 3 (by kernel_rfl) (by decide) ?_
        simp only [List.take_succ_cons, List.take_zero, List.drop_succ_cons, List.drop_zero, Nat.reduceSub]
        repeat (go_big_quiet_step (fail))
        refine wpQuiet_nil ?_
        refine wpMix_eff (by kernel_rfl) ?_
        go_wp2
        refine MixK.on (InS.mk ((mH.out _).2 (⟨(C1.out.alloc _).cellD 1 _ rfl, (C1.out.alloc _).cellD 0 _ rfl⟩))) ?_
        refine wpMix_eff (by kernel_rfl) ?_
        go_wp2
        refine MixK.on (InS.mk ((mH.out _).2 (⟨(C1.out.alloc _).cellD 1 _ rfl, (C1.out.alloc _).cellD 0 _ rfl⟩))) ?_
        refine wpMix_seg 1 (by kernel_rfl) (by decide) ?_
        simp only [List.take_succ_cons, List.take_zero, List.drop_succ_cons, List.drop_zero, Nat.reduceSub]
        repeat (go_big_quiet_step (fail))
        refine wpQuiet_nil ?_
        refine wpMix_nil ?_
        clear mk0 mk1 mn mH
        obtain ⟨w2, hw2⟩ : ∃ x, w1.alloc (.cells #[.int .i64 (tn), .int .i64 (td), .int .u8 (tb)] 51) = x := ⟨_, rfl⟩
        obtain ⟨bt, hbt⟩ : ∃ x, w1.heap.size = x := ⟨_, rfl⟩
        have KX : Hid (Keeps None w1 w2) := by show Keeps _ _ _; rw [← hw2]; exact (Keeps.refl None w1).alloc _
        have BT : Hid (Blk w2 bt [.int .i64 (tn), .int .i64 (td), .int .u8 (tb)] 51) := by show Blk _ _ _ _; rw [← hw2, ← hbt]; exact Blk.new w1 _ _
        have R2 := Lib.hid (R1.out.later KX.out)
        have C2 := Lib.hid (KX.out.blk C1.out (fun h => h))
        have W2 := Lib.hid (W1.out.keeps KX.out (fun h => h))
        have K2 := Lib.hid (K1.out.trans KX.out (T := RdB db T) (fun _ h => h) (fun _ _ h => h.elim))
        have BG : Hid (w.heap.size ≤ bt) := by show _ ≤ _; rw [← hbt]; exact K1.out.size
        rw [hw2, hbt]
        clear hw2 hbt KX R1 C1 W1 K1
        go_wp2
        obtain ⟨m2S, m2h⟩ : ∃ S : World → Prop, ∀ w', S w' ↔ (w'.cell? ⟨bt, 0, none⟩ = some (.int .i64 tn) ∧ w'.cell? ⟨bt, 1, none⟩ = some (.int .i64 td) ∧ w'.cell? ⟨bt, 2, none⟩ = some (.int .u8 tb)) := ⟨_, fun _ => Iff.rfl⟩
        have m2k0 : ∀ x : Memb m2S, x.at_.cell? ⟨bt, 0, none⟩ = some (.int .i64 tn) := fun x => ((m2h _).1 x.is).1
        have m2k1 : ∀ x : Memb m2S, x.at_.cell? ⟨bt, 1, none⟩ = some (.int .i64 td) := fun x => ((m2h _).1 x.is).2.1
        have m2k2 : ∀ x : Memb m2S, x.at_.cell? ⟨bt, 2, none⟩ = some (.int .u8 tb) := fun x => ((m2h _).1 x.is).2.2
        have m2n : Nonempty (Memb m2S) := ⟨⟨(w2).drew, (m2h _).2 ⟨BT.out.cellD 0 _ rfl, BT.out.cellD 1 _ rfl, BT.out.cellD 2 _ rfl⟩⟩⟩
        have m2H := Lib.hid m2h
        clear m2h
        refine wp_region_mix [4, 7, 10] (InS m2S) (by kernel_rfl) (by kernel_rfl) (InS.mk ((m2H.out _).2 ⟨BT.out.cellD 0 _ rfl, BT.out.cellD 1 _ rfl, BT.out.cellD 2 _ rfl⟩)) ?_
        refine wpMix_seg 4 (by kernel_rfl) (by decide) ?_
        simp only [List.take_succ_cons, List.take_zero, List.drop_succ_cons, List.drop_zero]
        repeat (go_big_quiet_step (fail))
        refine wpQuiet_nil ?_
        refine wpMix_eff (by kernel_rfl) ?_
        go_wp2_with fail
        refine (LON.out _).mono ?_
        rintro e w3 ⟨rfl, k3⟩
        have K3 := Lib.hid ((Keeps.refl None w2).drew.trans k3 (T := None) (fun _ h => h) (fun _ _ h => h))
        have B3 := Lib.hid (K3.out.blk BT.out (fun h => h))
        have C3 := Lib.hid (K3.out.blk C2.out (fun h => h))
        clear k3
        have y5 := C3.out.cellD 5 _ rfl
        have y6 := C3.out.cellD 6 _ rfl
        have y7 := C3.out.cellD 7 _ rfl
        have y8 := C3.out.cellD 8 _ rfl
        have f5 := C3.out.frozen 5
        have f6 := C3.out.frozen 6
        have f7 := C3.out.frozen 7
        have f8 := C3.out.frozen 8
        go_wp2
        refine MixK.on (InS.mk ((m2H.out _).2 (⟨B3.out.cellD 0 _ rfl, B3.out.cellD 1 _ rfl, B3.out.cellD 2 _ rfl⟩))) ?_
        refine wpMix_seg 2 (by kernel_rfl) (by decide) ?_
        simp only [List.take_succ_cons, List.take_zero, List.drop_succ_cons, List.drop_zero]
        repeat (go_big_quiet_step (fail))
        refine wpQuiet_nil ?_
        refine wpMix_eff (by kernel_rfl) ?_
        go_wp2
        have KP : Hid (Keeps (fun k => k = zb) w3 (((w3.setCell ⟨zb, 5, none⟩ (.int .i64 tn)).setCell ⟨zb, 6, none⟩ (.int .i64 td)).setCell ⟨zb, 7, none⟩ (.int .u8 tb))) := (((Keeps.self zb w3).put 5 _).put 6 _).put 7 _
        have NZ : Hid (¬ bt = zb) := by show ¬ _ = _; have := BG.out; have := ZL.out; omega
        have B4 := Lib.hid (KP.out.blk B3.out NZ.out)
        refine MixK.on (InS.mk ((m2H.out _).2 (⟨B4.out.cellD 0 _ rfl, B4.out.cellD 1 _ rfl, B4.out.cellD 2 _ rfl⟩))) ?_
        refine wpMix_seg 2 (by kernel_rfl) (by decide) ?_
        simp only [List.take_succ_cons, List.take_zero, List.drop_succ_cons, List.drop_zero]
        repeat (go_big_quiet_step (fail))
        refine wpQuiet_nil ?_
        refine wpMix_eff (by kernel_rfl) ?_
        go_wp2
        have KQ := Lib.hid (KP.out.put 8 (.int .i64 ln))
        have B5 := Lib.hid (KQ.out.blk B3.out NZ.out)
        refine MixK.on (InS.mk ((m2H.out _).2 (⟨B5.out.cellD 0 _ rfl, B5.out.cellD 1 _ rfl, B5.out.cellD 2 _ rfl⟩))) ?_
        refine wpMix_nil ?_
        clear m2k0 m2k1 m2k2 m2n m2H
        obtain ⟨wz, hwz⟩ : ∃ x, (((w3.setCell ⟨zb, 5, none⟩ (.int .i64 tn)).setCell ⟨zb, 6, none⟩ (.int .i64 td)).setCell ⟨zb, 7, none⟩ (.int .u8 tb)).setCell ⟨zb, 8, none⟩ (.int .i64 ln) = x := ⟨_, rfl⟩
        have CZ : Hid (Blk wz zb (lzcells ⟨db, T, wb, zb⟩ ⟨d2, s2, h, plain, ⟨tn, td, tb⟩, ln, st⟩) 73) := by show Blk _ _ _ _; rw [← hwz]; exact (((C3.out.set 5 _).set 6 _).set 7 _).set 8 _
        rw [hwz] at KQ B5
        rw [hwz]
        clear hwz y5 y6 y7 y8 f5 f6 f7 f8 KP B4 C3 B3
        have RZ := Lib.hid ((R2.out.later K3.out).keeps KQ.out (fun k hk e => by have hk : k = db ∨ (T.g1 ≤ k ∧ k ≤ T.sb) := hk; have e : k = zb := e; have := NE.out; omega))
        have WZ := Lib.hid ((W2.out.keeps K3.out (fun h => h)).keeps KQ.out (by show ¬ _ = _; have := NE.out; omega))
        have KZ : Hid (Keeps (LzB ⟨db, T, wb, zb⟩) w wz) := (K2.out.trans K3.out (T := LzB ⟨db, T, wb, zb⟩) (fun _ hk => hk.elim .inl (fun hk => .inr (.inl hk))) (fun _ _ hk => hk.elim)).trans KQ.out (T := LzB ⟨db, T, wb, zb⟩) (fun _ h => h) (fun _ _ e => .inr (.inr (.inr e)))
        clear R2 W2 K2 C2 BT K3 KQ
        go_wp2
        obtain ⟨m3S, m3h⟩ : ∃ S : World → Prop, ∀ w', S w' ↔ (w'.cell? ⟨bt, 0, none⟩ = some (.int .i64 tn) ∧ w'.cell? ⟨bt, 1, none⟩ = some (.int .i64 td) ∧ w'.cell? ⟨bt, 2, none⟩ = some (.int .u8 tb) ∧ w'.cell? ⟨zb, 3, none⟩ = some (.int .i64 (plain : Int)) ∧ w'.cell? ⟨zb, 4, none⟩ = some (.int .i64 (hn : Int)) ∧ w'.cell? ⟨zb, 8, none⟩ = some (.int .i64 ln)) := ⟨_, fun _ => Iff.rfl⟩
        have m3k0 : ∀ x : Memb m3S, x.at_.cell? ⟨bt, 0, none⟩ = some (.int .i64 tn) := fun x => ((m3h _).1 x.is).1
        have m3k1 : ∀ x : Memb m3S, x.at_.cell? ⟨bt, 1, none⟩ = some (.int .i64 td) := fun x => ((m3h _).1 x.is).2.1
        have m3k2 : ∀ x : Memb m3S, x.at_.cell? ⟨bt, 2, none⟩ = some (.int .u8 tb) := fun x => ((m3h _).1 x.is).2.2.1
        have m3k3 : ∀ x : Memb m3S, x.at_.cell? ⟨zb, 3, none⟩ = some (.int .i64 (plain : Int)) := fun x => ((m3h _).1 x.is).2.2.2.1
        have m3k4 : ∀ x : Memb m3S, x.at_.cell? ⟨zb, 4, none⟩ = some (.int .i64 (hn : Int)) := fun x => ((m3h _).1 x.is).2.2.2.2.1
        have m3k5 : ∀ x : Memb m3S, x.at_.cell? ⟨zb, 8, none⟩ = some (.int .i64 ln) := fun x => ((m3h _).1 x.is).2.2.2.2.2
        have m3n : Nonempty (Memb m3S) := ⟨⟨(wz).drew, (m3h _).2 ⟨B5.out.cellD 0 _ rfl, B5.out.cellD 1 _ rfl, B5.out.cellD 2 _ rfl, CZ.out.cellD 3 _ rfl, HN.out ▸ CZ.out.cellD 4 _ rfl, CZ.out.cellD 8 _ rfl⟩⟩⟩
        have m3H := Lib.hid m3h
        clear m3h
        refine wp_region_mix [5] (InS m3S) (by kernel_rfl) (by kernel_rfl) (InS.mk ((m3H.out _).2 ⟨B5.out.cellD 0 _ rfl, B5.out.cellD 1 _ rfl, B5.out.cellD 2 _ rfl, CZ.out.cellD 3 _ rfl, HN.out ▸ CZ.out.cellD 4 _ rfl, CZ.out.cellD 8 _ rfl⟩)) ?_
        refine wpMix_seg 5 (by kernel_rfl) (by decide) ?_
        simp only [List.take_succ_cons, List.take_zero, List.drop_succ_cons, List.drop_zero]
        repeat (go_big_quiet_step (fail))
        refine wpQuiet_nil ?_
        refine wpMix_eff (by kernel_rfl) ?_
        go_wp2_with fail
        refine (MAY.out _).mono ?_
        rintro e w6 ⟨rfl, k6⟩
        have K6 := Lib.hid ((Keeps.refl None wz).drew.trans k6 (T := None) (fun _ h => h) (fun _ _ h => h))
        have B6 := Lib.hid (K6.out.blk B5.out (fun h => h))
        have C6 := Lib.hid (K6.out.blk CZ.out (fun h => h))
        clear k6
        go_wp2
        refine MixK.on (InS.mk ((m3H.out _).2 (⟨B6.out.cellD 0 _ rfl, B6.out.cellD 1 _ rfl, B6.out.cellD 2 _ rfl, C6.out.cellD 3 _ rfl, HN.out ▸ C6.out.cellD 4 _ rfl, C6.out.cellD 8 _ rfl⟩))) ?_
        refine wpMix_seg 17 (by kernel_rfl) (by decide) ?_
        simp only [List.take_succ_cons, List.take_zero, List.drop_succ_cons, List.drop_zero]
        repeat (go_big_quiet_step (fail))
        refine wpQuiet_nil ?_
        refine wpMix_nil ?_
        clear m3k0 m3k1 m3k2 m3k3 m3k4 m3k5 m3n m3H
        go_wp2
        go_ret
        exact ⟨by first | rfl | simp, ⟨C6.out, RZ.out.later K6.out, WZ.out.keeps K6.out (fun h => h), NE.out.2.2.1, NE.out.2.2.2⟩, KZ.out.trans K6.out (T := LzB ⟨db, T, wb, zb⟩) (fun _ h => h) (fun _ _ h => h.elim)⟩
      ·
        try dsimp only
        try simp only [List.take_succ_cons, List.take_zero, List.drop_succ_cons, List.drop_zero, Nat.reduceSub]
        refine wpMix_nil ?_
        try dsimp only
        try simp only [List.take_succ_cons, List.take_zero, List.drop_succ_cons, List.drop_zero, Nat.reduceSub]
        refine wpMix_eff (by kernel_rfl) ?_
        go_wp2
        have KA : Hid (Keeps None w (w.drew.alloc (.cells #[.int .i64 0, .int .i64 0, .int .u8 0] 51))) := (Keeps.refl None w).drew.alloc _
        have BA : Hid (Blk (w.drew.alloc (.cells #[.int .i64 0, .int .i64 0, .int .u8 0] 51)) w.heap.size [.int .i64 0, .int .i64 0, .int .u8 0] 51) := Blk.new w.drew [.int .i64 0, .int .i64 0, .int .u8 0] 51
        refine MixK.on (InS.mk ((mH.out _).2 (⟨(KA.out.blk C.out (fun h => h)).cellD 1 _ rfl, (KA.out.blk C.out (fun h => h)).cellD 0 _ rfl⟩))) ?_
        refine wpMix_nil ?_
        try dsimp only
        try simp only [List.take_succ_cons, List.take_zero, List.drop_succ_cons, List.drop_zero, Nat.reduceSub]
        refine wpMix_seg 8 (by kernel_rfl) (by decide) ?_
        simp only [List.take_succ_cons, List.take_zero, List.drop_succ_cons, List.drop_zero, Nat.reduceSub]
        repeat (go_big_quiet_step (fail))
        refine wpQuiet_nil ?_
        refine wpMix_eff (by kernel_rfl) ?_
        go_wp2_with fail
        refine (NX.out _ (RA.out.later KA.out)).mono ?_
        rintro e w1 ⟨he, r1, k1⟩
        rw [TK.out] at he
        subst he
        have R1 := Lib.hid r1
        have K1 := Lib.hid (KA.out.trans k1 (T := RdB db T) (fun _ h => h.elim) (fun _ _ h => h))
        have C1 := Lib.hid (K1.out.blk C.out (by show ¬ (_ ∨ _); have := NE.out; omega))
        have W1 := Lib.hid (HW.out.keeps K1.out (by show ¬ (_ ∨ _); have := NE.out; omega))
        have B1 := Lib.hid (k1.blk BA.out (by show ¬ (_ ∨ _); have := NE.out; have := ZL.out; omega))
        clear r1 k1 NX BA
        unfold tagg
        go_wp2
        refine MixK.on (InS.mk ((mH.out _).2 (⟨C1.out.cellD 1 _ rfl, C1.out.cellD 0 _ rfl⟩))) ?_
        refine wpMix_seg 3 (by kernel_rfl) (by decide) ?_
        simp only [List.take_succ_cons, List.take_zero, List.drop_succ_cons, List.drop_zero, Nat.reduceSub]
        repeat (go_big_quiet_step (fail))
        refine wpQuiet_nil ?_
        refine wpMix_nil ?_
        try dsimp only
        try simp only [List.take_succ_cons, List.take_zero, List.drop_succ_cons, List.drop_zero, Nat.reduceSub]
        refine wpMix_eff (by kernel_rfl) ?_
        have x0 := B1.out.cellD 0 _ rfl
        have x1 := B1.out.cellD 1 _ rfl
        have x2 := B1.out.cellD 2 _ rfl
        have y0 := B1.out.frozen 0
        have y1 := B1.out.frozen 1
        have y2 := B1.out.frozen 2
        go_wp2
        have KB : Hid (Keeps (fun k => k = w.heap.size) w1 (((w1.setCell ⟨w.heap.size, 0, none⟩ (.int .i64 (tn))).setCell ⟨w.heap.size, 1, none⟩ (.int .i64 (td))).setCell ⟨w.heap.size, 2, none⟩ (.int .u8 (tb)))) := (((Keeps.self w.heap.size w1).put 0 _).put 1 _).put 2 _
        have CB := Lib.hid (KB.out.blk C1.out (by show ¬ _ = _; have := ZL.out; omega))
        refine MixK.on (InS.mk ((mH.out _).2 (⟨CB.out.cellD 1 _ rfl, CB.out.cellD 0 _ rfl⟩))) ?_
        refine wpMix_seg 1 (by kernel_rfl) (by decide) ?_
        simp only [List.take_succ_cons, List.take_zero, List.drop_succ_cons, List.drop_zero, Nat.reduceSub]
        repeat (go_big_quiet_step (fail))
        refine wpQuiet_nil ?_
        refine wpMix_nil ?_
        clear mk0 mk1 mn mH
        obtain ⟨w2, hw2⟩ : ∃ x, ((w1.setCell ⟨w.heap.size, 0, none⟩ (.int .i64 (tn))).setCell ⟨w.heap.size, 1, none⟩ (.int .i64 (td))).setCell ⟨w.heap.size, 2, none⟩ (.int .u8 (tb)) = x := ⟨_, rfl⟩
        obtain ⟨bt, hbt⟩ : ∃ x, w.heap.size = x := ⟨_, rfl⟩
        have BT : Hid (Blk w2 bt [.int .i64 (tn), .int .i64 (td), .int .u8 (tb)] 51) := by show Blk _ _ _ _; rw [← hw2, ← hbt]; exact ((B1.out.set 0 _).set 1 _).set 2 _
        rw [hw2] at KB
        have ZB := ZL.out
        have R2 := Lib.hid (R1.out.keeps KB.out (fun k hk e => by have hk : k = db ∨ (T.g1 ≤ k ∧ k ≤ T.sb) := hk; have e : k = w.heap.size := e; have := NE.out; omega))
        have C2 := Lib.hid (KB.out.blk C1.out (by show ¬ _ = _; omega))
        have W2 := Lib.hid (W1.out.keeps KB.out (by show ¬ _ = _; have := NE.out; omega))
        have K2 := Lib.hid (K1.out.trans KB.out (T := RdB db T) (fun _ h => h) (fun k hk e => absurd e (by show ¬ _ = _; omega)))
        have BG : Hid (w.heap.size ≤ bt) := by show _ ≤ _; rw [← hbt]; exact Nat.le_refl _
        clear x0 x1 x2 y0 y1 y2 CB
        rw [hw2, hbt]
        clear hw2 hbt KB R1 C1 W1 K1 KA B1 ZB
        go_wp2
        obtain ⟨m2S, m2h⟩ : ∃ S : World → Prop, ∀ w', S w' ↔ (w'.cell? ⟨bt, 0, none⟩ = some (.int .i64 tn) ∧ w'.cell? ⟨bt, 1, none⟩ = some (.int .i64 td) ∧ w'.cell? ⟨bt, 2, none⟩ = some (.int .u8 tb)) := ⟨_, fun _ => Iff.rfl⟩
        have m2k0 : ∀ x : Memb m2S, x.at_.cell? ⟨bt, 0, none⟩ = some (.int .i64 tn) := fun x => ((m2h _).1 x.is).1
        have m2k1 : ∀ x : Memb m2S, x.at_.cell? ⟨bt, 1, none⟩ = some (.int .i64 td) := fun x => ((m2h _).1 x.is).2.1
        have m2k2 : ∀ x : Memb m2S, x.at_.cell? ⟨bt, 2, none⟩ = some (.int .u8 tb) := fun x => ((m2h _).1 x.is).2.2
        have m2n : Nonempty (Memb m2S) := ⟨⟨(w2).drew, (m2h _).2 ⟨BT.out.cellD 0 _ rfl, BT.out.cellD 1 _ rfl, BT.out.cellD 2 _ rfl⟩⟩⟩
        have m2H := Lib.hid m2h
        clear m2h
        refine wp_region_mix [4, 7, 10] (InS m2S) (by kernel_rfl) (by kernel_rfl) (InS.mk ((m2H.out _).2 ⟨BT.out.cellD 0 _ rfl, BT.out.cellD 1 _ rfl, BT.out.cellD 2 _ rfl⟩)) ?_
        refine wpMix_seg 4 (by kernel_rfl) (by decide) ?_
        simp only [List.take_succ_cons, List.take_zero, List.drop_succ_cons, List.drop_zero]
        repeat (go_big_quiet_step (fail))
        refine wpQuiet_nil ?_
        refine wpMix_eff (by kernel_rfl) ?_
        go_wp2_with fail
        refine (LON.out _).mono ?_
        rintro e w3 ⟨rfl, k3⟩
        have K3 := Lib.hid ((Keeps.refl None w2).drew.trans k3 (T := None) (fun _ h => h) (fun _ _ h => h))
        have B3 := Lib.hid (K3.out.blk BT.out (fun h => h))
        have C3 := Lib.hid (K3.out.blk C2.out (fun h => h))
        clear k3
        have y5 := C3.out.cellD 5 _ rfl
        have y6 := C3.out.cellD 6 _ rfl
        have y7 := C3.out.cellD 7 _ rfl
        have y8 := C3.out.cellD 8 _ rfl
        have f5 := C3.out.frozen 5
        have f6 := C3.out.frozen 6
        have f7 := C3.out.frozen 7
        have f8 := C3.out.frozen 8
        go_wp2
        refine MixK.on (InS.mk ((m2H.out _).2 (⟨B3.out.cellD 0 _ rfl, B3.out.cellD 1 _ rfl, B3.out.cellD 2 _ rfl⟩))) ?_
        refine wpMix_seg 2 (by kernel_rfl) (by decide) ?_
        simp only [List.take_succ_cons, List.take_zero, List.drop_succ_cons, List.drop_zero]
        repeat (go_big_quiet_step (fail))
        refine wpQuiet_nil ?_
        refine wpMix_eff (by kernel_rfl) ?_
        go_wp2
        have KP : Hid (Keeps (fun k => k = zb) w3 (((w3.setCell ⟨zb, 5, none⟩ (.int .i64 tn)).setCell ⟨zb, 6, none⟩ (.int .i64 td)).setCell ⟨zb, 7, none⟩ (.int .u8 tb))) := (((Keeps.self zb w3).put 5 _).put 6 _).put 7 _
        have NZ : Hid (¬ bt = zb) := by show ¬ _ = _; have := BG.out; have := ZL.out; omega
        have B4 := Lib.hid (KP.out.blk B3.out NZ.out)
        refine MixK.on (InS.mk ((m2H.out _).2 (⟨B4.out.cellD 0 _ rfl, B4.out.cellD 1 _ rfl, B4.out.cellD 2 _ rfl⟩))) ?_
        refine wpMix_seg 2 (by kernel_rfl) (by decide) ?_
        simp only [List.take_succ_cons, List.take_zero, List.drop_succ_cons, List.drop_zero]
        repeat (go_big_quiet_step (fail))
        refine wpQuiet_nil ?_
        refine wpMix_eff (by kernel_rfl) ?_
        go_wp2
        have KQ := Lib.hid (KP.out.put 8 (.int .i64 ln))
        have B5 := Lib.hid (KQ.out.blk B3.out NZ.out)
        refine MixK.on (InS.mk ((m2H.out _).2 (⟨B5.out.cellD 0 _ rfl, B5.out.cellD 1 _ rfl, B5.out.cellD 2 _ rfl⟩))) ?_
        refine wpMix_nil ?_
        clear m2k0 m2k1 m2k2 m2n m2H
        obtain ⟨wz, hwz⟩ : ∃ x, (((w3.setCell ⟨zb, 5, none⟩ (.int .i64 tn)).setCell ⟨zb, 6, none⟩ (.int .i64 td)).setCell ⟨zb, 7, none⟩ (.int .u8 tb)).setCell ⟨zb, 8, none⟩ (.int .i64 ln) = x := ⟨_, rfl⟩
        have CZ : Hid (Blk wz zb (lzcells ⟨db, T, wb, zb⟩ ⟨d2, s2, h, plain, ⟨tn, td, tb⟩, ln, st⟩) 73) := by show Blk _ _ _ _; rw [← hwz]; exact (((C3.out.set 5 _).set 6 _).set 7 _).set 8 _
        rw [hwz] at KQ B5
        rw [hwz]
        clear hwz y5 y6 y7 y8 f5 f6 f7 f8 KP B4 C3 B3
        have RZ := Lib.hid ((R2.out.later K3.out).keeps KQ.out (fun k hk e => by have hk : k = db ∨ (T.g1 ≤ k ∧ k ≤ T.sb) := hk; have e : k = zb := e; have := NE.out; omega))
        have WZ := Lib.hid ((W2.out.keeps K3.out (fun h => h)).keeps KQ.out (by show ¬ _ = _; have := NE.out; omega))
        have KZ : Hid (Keeps (LzB ⟨db, T, wb, zb⟩) w wz) := (K2.out.trans K3.out (T := LzB ⟨db, T, wb, zb⟩) (fun _ hk => hk.elim .inl (fun hk => .inr (.inl hk))) (fun _ _ hk => hk.elim)).trans KQ.out (T := LzB ⟨db, T, wb, zb⟩) (fun _ h => h) (fun _ _ e => .inr (.inr (.inr e)))
        clear R2 W2 K2 C2 BT K3 KQ
        go_wp2
        obtain ⟨m3S, m3h⟩ : ∃ S : World → Prop, ∀ w', S w' ↔ (w'.cell? ⟨bt, 0, none⟩ = some (.int .i64 tn) ∧ w'.cell? ⟨bt, 1, none⟩ = some (.int .i64 td) ∧ w'.cell? ⟨bt, 2, none⟩ = some (.int .u8 tb) ∧ w'.cell? ⟨zb, 3, none⟩ = some (.int .i64 (plain : Int)) ∧ w'.cell? ⟨zb, 4, none⟩ = some (.int .i64 (hn : Int)) ∧ w'.cell? ⟨zb, 8, none⟩ = some (.int .i64 ln)) := ⟨_, fun _ => Iff.rfl⟩
        have m3k0 : ∀ x : Memb m3S, x.at_.cell? ⟨bt, 0, none⟩ = some (.int .i64 tn) := fun x => ((m3h _).1 x.is).1
        have m3k1 : ∀ x : Memb m3S, x.at_.cell? ⟨bt, 1, none⟩ = some (.int .i64 td) := fun x => ((m3h _).1 x.is).2.1
        have m3k2 : ∀ x : Memb m3S, x.at_.cell? ⟨bt, 2, none⟩ = some (.int .u8 tb) := fun x => ((m3h _).1 x.is).2.2.1
        have m3k3 : ∀ x : Memb m3S, x.at_.cell? ⟨zb, 3, none⟩ = some (.int .i64 (plain : Int)) := fun x => ((m3h _).1 x.is).2.2.2.1
        have m3k4 : ∀ x : Memb m3S, x.at_.cell? ⟨zb, 4, none⟩ = some (.int .i64 (hn : Int)) := fun x => ((m3h _).1 x.is).2.2.2.2.1
        have m3k5 : ∀ x : Memb m3S, x.at_.cell? ⟨zb, 8, none⟩ = some (.int .i64 ln) := fun x => ((m3h _).1 x.is).2.2.2.2.2
        have m3n : Nonempty (Memb m3S) := ⟨⟨(wz).drew, (m3h _).2 ⟨B5.out.cellD 0 _ rfl, B5.out.cellD 1 _ rfl, B5.out.cellD 2 _ rfl, CZ.out.cellD 3 _ rfl, HN.out ▸ CZ.out.cellD 4 _ rfl, CZ.out.cellD 8 _ rfl⟩⟩⟩
        have m3H := Lib.hid m3h
        clear m3h
        refine wp_region_mix [5] (InS m3S) (by kernel_rfl) (by kernel_rfl) (InS.mk ((m3H.out _).2 ⟨B5.out.cellD 0 _ rfl, B5.out.cellD 1 _ rfl, B5.out.cellD 2 _ rfl, CZ.out.cellD 3 _ rfl, HN.out ▸ CZ.out.cellD 4 _ rfl, CZ.out.cellD 8 _ rfl⟩)) ?_
        refine wpMix_seg 5 (by kernel_rfl) (by decide) ?_
        simp only [List.take_succ_cons, List.take_zero, List.drop_succ_cons, List.drop_zero]
        repeat (go_big_quiet_step (fail))
        refine wpQuiet_nil ?_
        refine wpMix_eff (by kernel_rfl) ?_
        go_wp2_with fail
        refine (MAY.out _).mono ?_
        rintro e w6 ⟨rfl, k6⟩
        have K6 := Lib.hid ((Keeps.refl None wz).drew.trans k6 (T := None) (fun _ h => h) (fun _ _ h => h))
        have B6 := Lib.hid (K6.out.blk B5.out (fun h => h))
        have C6 := Lib.hid (K6.out.blk CZ.out (fun h => h))
        clear k6
        go_wp2
        refine MixK.on (InS.mk ((m3H.out _).2 (⟨B6.out.cellD 0 _ rfl, B6.out.cellD 1 _ rfl, B6.out.cellD 2 _ rfl, C6.out.cellD 3 _ rfl, HN.out ▸ C6.out.cellD 4 _ rfl, C6.out.cellD 8 _ rfl⟩))) ?_
        refine wpMix_seg 17 (by kernel_rfl) (by decide) ?_
        simp only [List.take_succ_cons, List.take_zero, List.drop_succ_cons, List.drop_zero]
        repeat (go_big_quiet_step (fail))
        refine wpQuiet_nil ?_
        refine wpMix_nil ?_
        clear m3k0 m3k1 m3k2 m3k3 m3k4 m3k5 m3n m3H
        go_wp2
        go_ret
        exact ⟨by first | rfl | simp, ⟨C6.out, RZ.out.later K6.out, WZ.out.keeps K6.out (fun h => h), NE.out.2.2.1, NE.out.2.2.2⟩, KZ.out.trans K6.out (T := LzB ⟨db, T, wb, zb⟩) (fun _ h => h) (fun _ _ h => h.elim)⟩
    | true =>
      -- tn, td, tb the token's fields; true is it whole; tktrue the tail
      go_enter Try.func39, Try.ntmps39
      go_wp2
      obtain ⟨mS, mh⟩ : ∃ S : World → Prop, ∀ w', S w' ↔ (w'.cell? ⟨zb, 1, none⟩ = some (.pointer (some ⟨T.sb, 0, none⟩)) ∧ w'.cell? ⟨zb, 0, none⟩ = some (.pointer (some ⟨db, 0, none⟩))) := ⟨_, fun _ => Iff.rfl⟩
      have mk0 : ∀ x : Memb mS, x.at_.cell? ⟨zb, 1, none⟩ = some (.pointer (some ⟨T.sb, 0, none⟩)) := fun x => ((mh _).1 x.is).1
      have mk1 : ∀ x : Memb mS, x.at_.cell? ⟨zb, 0, none⟩ = some (.pointer (some ⟨db, 0, none⟩)) := fun x => ((mh _).1 x.is).2
      have mn : Nonempty (Memb mS) := ⟨⟨(w).drew, (mh _).2 ⟨c1, c0⟩⟩⟩
      have mH := Lib.hid mh
      clear mh
      refine wp_region_mix_swap [8, 12, 13] (InS mS) 0 12 13 8 12 (by kernel_rfl) (by kernel_rfl) (InS.mk ((mH.out _).2 ⟨c1, c0⟩)) ?_ ?_
      ·
        refine wpMix_seg 8 (by kernel_rfl) (by decide) ?_
        simp only [List.take_succ_cons, List.take_zero, List.drop_succ_cons, List.drop_zero, Nat.reduceSub]
        repeat (go_big_quiet_step (fail))
        refine wpQuiet_nil ?_
        refine wpMix_eff (by kernel_rfl) ?_
        go_wp2_with fail
        refine (NX.out _ (RA.out.later (Keeps.refl None w).drew)).mono ?_
        rintro e w1 ⟨he, r1, k1⟩
        rw [TK.out] at he
        subst he
        have R1 := Lib.hid r1
        have K1 := Lib.hid ((Keeps.refl (RdB db T) w).drew.trans k1 (T := RdB db T) (fun _ h => h) (fun _ _ h => h))
        have C1 := Lib.hid (K1.out.blk C.out (by show ¬ (_ ∨ _); have := NE.out; omega))
        have W1 := Lib.hid (HW.out.keeps K1.out (by show ¬ (_ ∨ _); have := NE.out; omega))
        clear r1 k1 NX
        unfold tagg
        go_wp2
        refine MixK.on (InS.mk ((mH.out _).2 (⟨C1.out.cellD 1 _ rfl, C1.out.cellD 0 _ rfl⟩))) ?_
        refine wpMix_seg 3 (by kernel_rfl) (by decide) ?_
        simp only [List.take_succ_cons, List.take_zero, List.drop_succ_cons, List.drop_zero, Nat.reduceSub]
        repeat (go_big_quiet_step (fail))
        refine wpQuiet_nil ?_
        refine wpMix_eff (by kernel_rfl) ?_
        go_wp2
        refine MixK.on (InS.mk ((mH.out _).2 (⟨(C1.out.alloc _).cellD 1 _ rfl, (C1.out.alloc _).cellD 0 _ rfl⟩))) ?_
        refine wpMix_eff (by kernel_rfl) ?_
        go_wp2
        refine MixK.on (InS.mk ((mH.out _).2 (⟨(C1.out.alloc _).cellD 1 _ rfl, (C1.out.alloc _).cellD 0 _ rfl⟩))) ?_
        refine wpMix_seg 1 (by kernel_rfl) (by decide) ?_
        simp only [List.take_succ_cons, List.take_zero, List.drop_succ_cons, List.drop_zero, Nat.reduceSub]
        repeat (go_big_quiet_step (fail))
        refine wpQuiet_nil ?_
        refine wpMix_nil ?_
        clear mk0 mk1 mn mH
        obtain ⟨w2, hw2⟩ : ∃ x, w1.alloc (.cells #[.int .i64 (tn), .int .i64 (td), .int .u8 (tb)] 51) = x := ⟨_, rfl⟩
        obtain ⟨bt, hbt⟩ : ∃ x, w1.heap.size = x := ⟨_, rfl⟩
        have KX : Hid (Keeps None w1 w2) := by show Keeps _ _ _; rw [← hw2]; exact (Keeps.refl None w1).alloc _
        have BT : Hid (Blk w2 bt [.int .i64 (tn), .int .i64 (td), .int .u8 (tb)] 51) := by show Blk _ _ _ _; rw [← hw2, ← hbt]; exact Blk.new w1 _ _
        have R2 := Lib.hid (R1.out.later KX.out)
        have C2 := Lib.hid (KX.out.blk C1.out (fun h => h))
        have W2 := Lib.hid (W1.out.keeps KX.out (fun h => h))
        have K2 := Lib.hid (K1.out.trans KX.out (T := RdB db T) (fun _ h => h) (fun _ _ h => h.elim))
        have BG : Hid (w.heap.size ≤ bt) := by show _ ≤ _; rw [← hbt]; exact K1.out.size
        rw [hw2, hbt]
        clear hw2 hbt KX R1 C1 W1 K1
        go_wp2
        obtain ⟨m2S, m2h⟩ : ∃ S : World → Prop, ∀ w', S w' ↔ (w'.cell? ⟨bt, 0, none⟩ = some (.int .i64 tn) ∧ w'.cell? ⟨bt, 1, none⟩ = some (.int .i64 td) ∧ w'.cell? ⟨bt, 2, none⟩ = some (.int .u8 tb)) := ⟨_, fun _ => Iff.rfl⟩
        have m2k0 : ∀ x : Memb m2S, x.at_.cell? ⟨bt, 0, none⟩ = some (.int .i64 tn) := fun x => ((m2h _).1 x.is).1
        have m2k1 : ∀ x : Memb m2S, x.at_.cell? ⟨bt, 1, none⟩ = some (.int .i64 td) := fun x => ((m2h _).1 x.is).2.1
        have m2k2 : ∀ x : Memb m2S, x.at_.cell? ⟨bt, 2, none⟩ = some (.int .u8 tb) := fun x => ((m2h _).1 x.is).2.2
        have m2n : Nonempty (Memb m2S) := ⟨⟨(w2).drew, (m2h _).2 ⟨BT.out.cellD 0 _ rfl, BT.out.cellD 1 _ rfl, BT.out.cellD 2 _ rfl⟩⟩⟩
        have m2H := Lib.hid m2h
        clear m2h
        refine wp_region_mix [4, 7, 10] (InS m2S) (by kernel_rfl) (by kernel_rfl) (InS.mk ((m2H.out _).2 ⟨BT.out.cellD 0 _ rfl, BT.out.cellD 1 _ rfl, BT.out.cellD 2 _ rfl⟩)) ?_
        refine wpMix_seg 4 (by kernel_rfl) (by decide) ?_
        simp only [List.take_succ_cons, List.take_zero, List.drop_succ_cons, List.drop_zero]
        repeat (go_big_quiet_step (fail))
        refine wpQuiet_nil ?_
        refine wpMix_eff (by kernel_rfl) ?_
        go_wp2_with fail
        refine (LON.out _).mono ?_
        rintro e w3 ⟨rfl, k3⟩
        have K3 := Lib.hid ((Keeps.refl None w2).drew.trans k3 (T := None) (fun _ h => h) (fun _ _ h => h))
        have B3 := Lib.hid (K3.out.blk BT.out (fun h => h))
        have C3 := Lib.hid (K3.out.blk C2.out (fun h => h))
        clear k3
        have y5 := C3.out.cellD 5 _ rfl
        have y6 := C3.out.cellD 6 _ rfl
        have y7 := C3.out.cellD 7 _ rfl
        have y8 := C3.out.cellD 8 _ rfl
        have f5 := C3.out.frozen 5
        have f6 := C3.out.frozen 6
        have f7 := C3.out.frozen 7
        have f8 := C3.out.frozen 8
        go_wp2
        refine MixK.on (InS.mk ((m2H.out _).2 (⟨B3.out.cellD 0 _ rfl, B3.out.cellD 1 _ rfl, B3.out.cellD 2 _ rfl⟩))) ?_
        refine wpMix_seg 2 (by kernel_rfl) (by decide) ?_
        simp only [List.take_succ_cons, List.take_zero, List.drop_succ_cons, List.drop_zero]
        repeat (go_big_quiet_step (fail))
        refine wpQuiet_nil ?_
        refine wpMix_eff (by kernel_rfl) ?_
        go_wp2
        have KP : Hid (Keeps (fun k => k = zb) w3 (((w3.setCell ⟨zb, 5, none⟩ (.int .i64 tn)).setCell ⟨zb, 6, none⟩ (.int .i64 td)).setCell ⟨zb, 7, none⟩ (.int .u8 tb))) := (((Keeps.self zb w3).put 5 _).put 6 _).put 7 _
        have NZ : Hid (¬ bt = zb) := by show ¬ _ = _; have := BG.out; have := ZL.out; omega
        have B4 := Lib.hid (KP.out.blk B3.out NZ.out)
        refine MixK.on (InS.mk ((m2H.out _).2 (⟨B4.out.cellD 0 _ rfl, B4.out.cellD 1 _ rfl, B4.out.cellD 2 _ rfl⟩))) ?_
        refine wpMix_seg 2 (by kernel_rfl) (by decide) ?_
        simp only [List.take_succ_cons, List.take_zero, List.drop_succ_cons, List.drop_zero]
        repeat (go_big_quiet_step (fail))
        refine wpQuiet_nil ?_
        refine wpMix_eff (by kernel_rfl) ?_
        go_wp2
        have KQ := Lib.hid (KP.out.put 8 (.int .i64 ln))
        have B5 := Lib.hid (KQ.out.blk B3.out NZ.out)
        refine MixK.on (InS.mk ((m2H.out _).2 (⟨B5.out.cellD 0 _ rfl, B5.out.cellD 1 _ rfl, B5.out.cellD 2 _ rfl⟩))) ?_
        refine wpMix_nil ?_
        clear m2k0 m2k1 m2k2 m2n m2H
        obtain ⟨wz, hwz⟩ : ∃ x, (((w3.setCell ⟨zb, 5, none⟩ (.int .i64 tn)).setCell ⟨zb, 6, none⟩ (.int .i64 td)).setCell ⟨zb, 7, none⟩ (.int .u8 tb)).setCell ⟨zb, 8, none⟩ (.int .i64 ln) = x := ⟨_, rfl⟩
        have CZ : Hid (Blk wz zb (lzcells ⟨db, T, wb, zb⟩ ⟨d2, s2, h, plain, ⟨tn, td, tb⟩, ln, st⟩) 73) := by show Blk _ _ _ _; rw [← hwz]; exact (((C3.out.set 5 _).set 6 _).set 7 _).set 8 _
        rw [hwz] at KQ B5
        rw [hwz]
        clear hwz y5 y6 y7 y8 f5 f6 f7 f8 KP B4 C3 B3
        have RZ := Lib.hid ((R2.out.later K3.out).keeps KQ.out (fun k hk e => by have hk : k = db ∨ (T.g1 ≤ k ∧ k ≤ T.sb) := hk; have e : k = zb := e; have := NE.out; omega))
        have WZ := Lib.hid ((W2.out.keeps K3.out (fun h => h)).keeps KQ.out (by show ¬ _ = _; have := NE.out; omega))
        have KZ : Hid (Keeps (LzB ⟨db, T, wb, zb⟩) w wz) := (K2.out.trans K3.out (T := LzB ⟨db, T, wb, zb⟩) (fun _ hk => hk.elim .inl (fun hk => .inr (.inl hk))) (fun _ _ hk => hk.elim)).trans KQ.out (T := LzB ⟨db, T, wb, zb⟩) (fun _ h => h) (fun _ _ e => .inr (.inr (.inr e)))
        clear R2 W2 K2 C2 BT K3 KQ
        go_wp2
        obtain ⟨m3S, m3h⟩ : ∃ S : World → Prop, ∀ w', S w' ↔ (w'.cell? ⟨bt, 0, none⟩ = some (.int .i64 tn) ∧ w'.cell? ⟨bt, 1, none⟩ = some (.int .i64 td) ∧ w'.cell? ⟨bt, 2, none⟩ = some (.int .u8 tb) ∧ w'.cell? ⟨zb, 3, none⟩ = some (.int .i64 (plain : Int)) ∧ w'.cell? ⟨zb, 4, none⟩ = some (.int .i64 (hn : Int)) ∧ w'.cell? ⟨zb, 8, none⟩ = some (.int .i64 ln)) := ⟨_, fun _ => Iff.rfl⟩
        have m3k0 : ∀ x : Memb m3S, x.at_.cell? ⟨bt, 0, none⟩ = some (.int .i64 tn) := fun x => ((m3h _).1 x.is).1
        have m3k1 : ∀ x : Memb m3S, x.at_.cell? ⟨bt, 1, none⟩ = some (.int .i64 td) := fun x => ((m3h _).1 x.is).2.1
        have m3k2 : ∀ x : Memb m3S, x.at_.cell? ⟨bt, 2, none⟩ = some (.int .u8 tb) := fun x => ((m3h _).1 x.is).2.2.1
        have m3k3 : ∀ x : Memb m3S, x.at_.cell? ⟨zb, 3, none⟩ = some (.int .i64 (plain : Int)) := fun x => ((m3h _).1 x.is).2.2.2.1
        have m3k4 : ∀ x : Memb m3S, x.at_.cell? ⟨zb, 4, none⟩ = some (.int .i64 (hn : Int)) := fun x => ((m3h _).1 x.is).2.2.2.2.1
        have m3k5 : ∀ x : Memb m3S, x.at_.cell? ⟨zb, 8, none⟩ = some (.int .i64 ln) := fun x => ((m3h _).1 x.is).2.2.2.2.2
        have m3n : Nonempty (Memb m3S) := ⟨⟨(wz).drew, (m3h _).2 ⟨B5.out.cellD 0 _ rfl, B5.out.cellD 1 _ rfl, B5.out.cellD 2 _ rfl, CZ.out.cellD 3 _ rfl, HN.out ▸ CZ.out.cellD 4 _ rfl, CZ.out.cellD 8 _ rfl⟩⟩⟩
        have m3H := Lib.hid m3h
        clear m3h
        refine wp_region_mix [5] (InS m3S) (by kernel_rfl) (by kernel_rfl) (InS.mk ((m3H.out _).2 ⟨B5.out.cellD 0 _ rfl, B5.out.cellD 1 _ rfl, B5.out.cellD 2 _ rfl, CZ.out.cellD 3 _ rfl, HN.out ▸ CZ.out.cellD 4 _ rfl, CZ.out.cellD 8 _ rfl⟩)) ?_
        refine wpMix_seg 5 (by kernel_rfl) (by decide) ?_
        simp only [List.take_succ_cons, List.take_zero, List.drop_succ_cons, List.drop_zero]
        repeat (go_big_quiet_step (fail))
        refine wpQuiet_nil ?_
        refine wpMix_eff (by kernel_rfl) ?_
        go_wp2_with fail
        refine (MAY.out _).mono ?_
        rintro e w6 ⟨rfl, k6⟩
        have K6 := Lib.hid ((Keeps.refl None wz).drew.trans k6 (T := None) (fun _ h => h) (fun _ _ h => h))
        have B6 := Lib.hid (K6.out.blk B5.out (fun h => h))
        have C6 := Lib.hid (K6.out.blk CZ.out (fun h => h))
        clear k6
        go_wp2
        refine MixK.on (InS.mk ((m3H.out _).2 (⟨B6.out.cellD 0 _ rfl, B6.out.cellD 1 _ rfl, B6.out.cellD 2 _ rfl, C6.out.cellD 3 _ rfl, HN.out ▸ C6.out.cellD 4 _ rfl, C6.out.cellD 8 _ rfl⟩))) ?_
        refine wpMix_seg 17 (by kernel_rfl) (by decide) ?_
        simp only [List.take_succ_cons, List.take_zero, List.drop_succ_cons, List.drop_zero]
        repeat (go_big_quiet_step (fail))
        refine wpQuiet_nil ?_
        refine wpMix_nil ?_
        clear m3k0 m3k1 m3k2 m3k3 m3k4 m3k5 m3n m3H
        go_wp2
        go_ret
        exact ⟨by first | rfl | simp, ⟨C6.out, RZ.out.later K6.out, WZ.out.keeps K6.out (fun h => h), NE.out.2.2.1, NE.out.2.2.2⟩, KZ.out.trans K6.out (T := LzB ⟨db, T, wb, zb⟩) (fun _ h => h) (fun _ _ h => h.elim)⟩
      ·
        try dsimp only
        try simp only [List.take_succ_cons, List.take_zero, List.drop_succ_cons, List.drop_zero, Nat.reduceSub]
        refine wpMix_nil ?_
        try dsimp only
        try simp only [List.take_succ_cons, List.take_zero, List.drop_succ_cons, List.drop_zero, Nat.reduceSub]
        refine wpMix_eff (by kernel_rfl) ?_
        go_wp2
        have KA : Hid (Keeps None w (w.drew.alloc (.cells #[.int .i64 0, .int .i64 0, .int .u8 0] 51))) := (Keeps.refl None w).drew.alloc _
        have BA : Hid (Blk (w.drew.alloc (.cells #[.int .i64 0, .int .i64 0, .int .u8 0] 51)) w.heap.size [.int .i64 0, .int .i64 0, .int .u8 0] 51) := Blk.new w.drew [.int .i64 0, .int .i64 0, .int .u8 0] 51
        refine MixK.on (InS.mk ((mH.out _).2 (⟨(KA.out.blk C.out (fun h => h)).cellD 1 _ rfl, (KA.out.blk C.out (fun h => h)).cellD 0 _ rfl⟩))) ?_
        refine wpMix_nil ?_
        try dsimp only
        try simp only [List.take_succ_cons, List.take_zero, List.drop_succ_cons, List.drop_zero, Nat.reduceSub]
        refine wpMix_seg 8 (by kernel_rfl) (by decide) ?_
        simp only [List.take_succ_cons, List.take_zero, List.drop_succ_cons, List.drop_zero, Nat.reduceSub]
        repeat (go_big_quiet_step (fail))
        refine wpQuiet_nil ?_
        refine wpMix_eff (by kernel_rfl) ?_
        go_wp2_with fail
        refine (NX.out _ (RA.out.later KA.out)).mono ?_
        rintro e w1 ⟨he, r1, k1⟩
        rw [TK.out] at he
        subst he
        have R1 := Lib.hid r1
        have K1 := Lib.hid (KA.out.trans k1 (T := RdB db T) (fun _ h => h.elim) (fun _ _ h => h))
        have C1 := Lib.hid (K1.out.blk C.out (by show ¬ (_ ∨ _); have := NE.out; omega))
        have W1 := Lib.hid (HW.out.keeps K1.out (by show ¬ (_ ∨ _); have := NE.out; omega))
        have B1 := Lib.hid (k1.blk BA.out (by show ¬ (_ ∨ _); have := NE.out; have := ZL.out; omega))
        clear r1 k1 NX BA
        unfold tagg
        go_wp2
        refine MixK.on (InS.mk ((mH.out _).2 (⟨C1.out.cellD 1 _ rfl, C1.out.cellD 0 _ rfl⟩))) ?_
        refine wpMix_seg 3 (by kernel_rfl) (by decide) ?_
        simp only [List.take_succ_cons, List.take_zero, List.drop_succ_cons, List.drop_zero, Nat.reduceSub]
        repeat (go_big_quiet_step (fail))
        refine wpQuiet_nil ?_
        refine wpMix_nil ?_
        try dsimp only
        try simp only [List.take_succ_cons, List.take_zero, List.drop_succ_cons, List.drop_zero, Nat.reduceSub]
        refine wpMix_eff (by kernel_rfl) ?_
        have x0 := B1.out.cellD 0 _ rfl
        have x1 := B1.out.cellD 1 _ rfl
        have x2 := B1.out.cellD 2 _ rfl
        have y0 := B1.out.frozen 0
        have y1 := B1.out.frozen 1
        have y2 := B1.out.frozen 2
        go_wp2
        have KB : Hid (Keeps (fun k => k = w.heap.size) w1 (((w1.setCell ⟨w.heap.size, 0, none⟩ (.int .i64 (tn))).setCell ⟨w.heap.size, 1, none⟩ (.int .i64 (td))).setCell ⟨w.heap.size, 2, none⟩ (.int .u8 (tb)))) := (((Keeps.self w.heap.size w1).put 0 _).put 1 _).put 2 _
        have CB := Lib.hid (KB.out.blk C1.out (by show ¬ _ = _; have := ZL.out; omega))
        refine MixK.on (InS.mk ((mH.out _).2 (⟨CB.out.cellD 1 _ rfl, CB.out.cellD 0 _ rfl⟩))) ?_
        refine wpMix_seg 1 (by kernel_rfl) (by decide) ?_
        simp only [List.take_succ_cons, List.take_zero, List.drop_succ_cons, List.drop_zero, Nat.reduceSub]
        repeat (go_big_quiet_step (fail))
        refine wpQuiet_nil ?_
        refine wpMix_nil ?_
        clear mk0 mk1 mn mH
        obtain ⟨w2, hw2⟩ : ∃ x, ((w1.setCell ⟨w.heap.size, 0, none⟩ (.int .i64 (tn))).setCell ⟨w.heap.size, 1, none⟩ (.int .i64 (td))).setCell ⟨w.heap.size, 2, none⟩ (.int .u8 (tb)) = x := ⟨_, rfl⟩
        obtain ⟨bt, hbt⟩ : ∃ x, w.heap.size = x := ⟨_, rfl⟩
        have BT : Hid (Blk w2 bt [.int .i64 (tn), .int .i64 (td), .int .u8 (tb)] 51) := by show Blk _ _ _ _; rw [← hw2, ← hbt]; exact ((B1.out.set 0 _).set 1 _).set 2 _
        rw [hw2] at KB
        have ZB := ZL.out
        have R2 := Lib.hid (R1.out.keeps KB.out (fun k hk e => by have hk : k = db ∨ (T.g1 ≤ k ∧ k ≤ T.sb) := hk; have e : k = w.heap.size := e; have := NE.out; omega))
        have C2 := Lib.hid (KB.out.blk C1.out (by show ¬ _ = _; omega))
        have W2 := Lib.hid (W1.out.keeps KB.out (by show ¬ _ = _; have := NE.out; omega))
        have K2 := Lib.hid (K1.out.trans KB.out (T := RdB db T) (fun _ h => h) (fun k hk e => absurd e (by show ¬ _ = _; omega)))
        have BG : Hid (w.heap.size ≤ bt) := by show _ ≤ _; rw [← hbt]; exact Nat.le_refl _
        clear x0 x1 x2 y0 y1 y2 CB
        rw [hw2, hbt]
        clear hw2 hbt KB R1 C1 W1 K1 KA B1 ZB
        go_wp2
        obtain ⟨m2S, m2h⟩ : ∃ S : World → Prop, ∀ w', S w' ↔ (w'.cell? ⟨bt, 0, none⟩ = some (.int .i64 tn) ∧ w'.cell? ⟨bt, 1, none⟩ = some (.int .i64 td) ∧ w'.cell? ⟨bt, 2, none⟩ = some (.int .u8 tb)) := ⟨_, fun _ => Iff.rfl⟩
        have m2k0 : ∀ x : Memb m2S, x.at_.cell? ⟨bt, 0, none⟩ = some (.int .i64 tn) := fun x => ((m2h _).1 x.is).1
        have m2k1 : ∀ x : Memb m2S, x.at_.cell? ⟨bt, 1, none⟩ = some (.int .i64 td) := fun x => ((m2h _).1 x.is).2.1
        have m2k2 : ∀ x : Memb m2S, x.at_.cell? ⟨bt, 2, none⟩ = some (.int .u8 tb) := fun x => ((m2h _).1 x.is).2.2
        have m2n : Nonempty (Memb m2S) := ⟨⟨(w2).drew, (m2h _).2 ⟨BT.out.cellD 0 _ rfl, BT.out.cellD 1 _ rfl, BT.out.cellD 2 _ rfl⟩⟩⟩
        have m2H := Lib.hid m2h
        clear m2h
        refine wp_region_mix [4, 7, 10] (InS m2S) (by kernel_rfl) (by kernel_rfl) (InS.mk ((m2H.out _).2 ⟨BT.out.cellD 0 _ rfl, BT.out.cellD 1 _ rfl, BT.out.cellD 2 _ rfl⟩)) ?_
        refine wpMix_seg 4 (by kernel_rfl) (by decide) ?_
        simp only [List.take_succ_cons, List.take_zero, List.drop_succ_cons, List.drop_zero]
        repeat (go_big_quiet_step (fail))
        refine wpQuiet_nil ?_
        refine wpMix_eff (by kernel_rfl) ?_
        go_wp2_with fail
        refine (LON.out _).mono ?_
        rintro e w3 ⟨rfl, k3⟩
        have K3 := Lib.hid ((Keeps.refl None w2).drew.trans k3 (T := None) (fun _ h => h) (fun _ _ h => h))
        have B3 := Lib.hid (K3.out.blk BT.out (fun h => h))
        have C3 := Lib.hid (K3.out.blk C2.out (fun h => h))
        clear k3
        have y5 := C3.out.cellD 5 _ rfl
        have y6 := C3.out.cellD 6 _ rfl
        have y7 := C3.out.cellD 7 _ rfl
        have y8 := C3.out.cellD 8 _ rfl
        have f5 := C3.out.frozen 5
        have f6 := C3.out.frozen 6
        have f7 := C3.out.frozen 7
        have f8 := C3.out.frozen 8
        go_wp2
        refine MixK.on (InS.mk ((m2H.out _).2 (⟨B3.out.cellD 0 _ rfl, B3.out.cellD 1 _ rfl, B3.out.cellD 2 _ rfl⟩))) ?_
        refine wpMix_seg 2 (by kernel_rfl) (by decide) ?_
        simp only [List.take_succ_cons, List.take_zero, List.drop_succ_cons, List.drop_zero]
        repeat (go_big_quiet_step (fail))
        refine wpQuiet_nil ?_
        refine wpMix_eff (by kernel_rfl) ?_
        go_wp2
        have KP : Hid (Keeps (fun k => k = zb) w3 (((w3.setCell ⟨zb, 5, none⟩ (.int .i64 tn)).setCell ⟨zb, 6, none⟩ (.int .i64 td)).setCell ⟨zb, 7, none⟩ (.int .u8 tb))) := (((Keeps.self zb w3).put 5 _).put 6 _).put 7 _
        have NZ : Hid (¬ bt = zb) := by show ¬ _ = _; have := BG.out; have := ZL.out; omega
        have B4 := Lib.hid (KP.out.blk B3.out NZ.out)
        refine MixK.on (InS.mk ((m2H.out _).2 (⟨B4.out.cellD 0 _ rfl, B4.out.cellD 1 _ rfl, B4.out.cellD 2 _ rfl⟩))) ?_
        refine wpMix_seg 2 (by kernel_rfl) (by decide) ?_
        simp only [List.take_succ_cons, List.take_zero, List.drop_succ_cons, List.drop_zero]
        repeat (go_big_quiet_step (fail))
        refine wpQuiet_nil ?_
        refine wpMix_eff (by kernel_rfl) ?_
        go_wp2
        have KQ := Lib.hid (KP.out.put 8 (.int .i64 ln))
        have B5 := Lib.hid (KQ.out.blk B3.out NZ.out)
        refine MixK.on (InS.mk ((m2H.out _).2 (⟨B5.out.cellD 0 _ rfl, B5.out.cellD 1 _ rfl, B5.out.cellD 2 _ rfl⟩))) ?_
        refine wpMix_nil ?_
        clear m2k0 m2k1 m2k2 m2n m2H
        obtain ⟨wz, hwz⟩ : ∃ x, (((w3.setCell ⟨zb, 5, none⟩ (.int .i64 tn)).setCell ⟨zb, 6, none⟩ (.int .i64 td)).setCell ⟨zb, 7, none⟩ (.int .u8 tb)).setCell ⟨zb, 8, none⟩ (.int .i64 ln) = x := ⟨_, rfl⟩
        have CZ : Hid (Blk wz zb (lzcells ⟨db, T, wb, zb⟩ ⟨d2, s2, h, plain, ⟨tn, td, tb⟩, ln, st⟩) 73) := by show Blk _ _ _ _; rw [← hwz]; exact (((C3.out.set 5 _).set 6 _).set 7 _).set 8 _
        rw [hwz] at KQ B5
        rw [hwz]
        clear hwz y5 y6 y7 y8 f5 f6 f7 f8 KP B4 C3 B3
        have RZ := Lib.hid ((R2.out.later K3.out).keeps KQ.out (fun k hk e => by have hk : k = db ∨ (T.g1 ≤ k ∧ k ≤ T.sb) := hk; have e : k = zb := e; have := NE.out; omega))
        have WZ := Lib.hid ((W2.out.keeps K3.out (fun h => h)).keeps KQ.out (by show ¬ _ = _; have := NE.out; omega))
        have KZ : Hid (Keeps (LzB ⟨db, T, wb, zb⟩) w wz) := (K2.out.trans K3.out (T := LzB ⟨db, T, wb, zb⟩) (fun _ hk => hk.elim .inl (fun hk => .inr (.inl hk))) (fun _ _ hk => hk.elim)).trans KQ.out (T := LzB ⟨db, T, wb, zb⟩) (fun _ h => h) (fun _ _ e => .inr (.inr (.inr e)))
        clear R2 W2 K2 C2 BT K3 KQ
        go_wp2
        obtain ⟨m3S, m3h⟩ : ∃ S : World → Prop, ∀ w', S w' ↔ (w'.cell? ⟨bt, 0, none⟩ = some (.int .i64 tn) ∧ w'.cell? ⟨bt, 1, none⟩ = some (.int .i64 td) ∧ w'.cell? ⟨bt, 2, none⟩ = some (.int .u8 tb) ∧ w'.cell? ⟨zb, 3, none⟩ = some (.int .i64 (plain : Int)) ∧ w'.cell? ⟨zb, 4, none⟩ = some (.int .i64 (hn : Int)) ∧ w'.cell? ⟨zb, 8, none⟩ = some (.int .i64 ln)) := ⟨_, fun _ => Iff.rfl⟩
        have m3k0 : ∀ x : Memb m3S, x.at_.cell? ⟨bt, 0, none⟩ = some (.int .i64 tn) := fun x => ((m3h _).1 x.is).1
        have m3k1 : ∀ x : Memb m3S, x.at_.cell? ⟨bt, 1, none⟩ = some (.int .i64 td) := fun x => ((m3h _).1 x.is).2.1
        have m3k2 : ∀ x : Memb m3S, x.at_.cell? ⟨bt, 2, none⟩ = some (.int .u8 tb) := fun x => ((m3h _).1 x.is).2.2.1
        have m3k3 : ∀ x : Memb m3S, x.at_.cell? ⟨zb, 3, none⟩ = some (.int .i64 (plain : Int)) := fun x => ((m3h _).1 x.is).2.2.2.1
        have m3k4 : ∀ x : Memb m3S, x.at_.cell? ⟨zb, 4, none⟩ = some (.int .i64 (hn : Int)) := fun x => ((m3h _).1 x.is).2.2.2.2.1
        have m3k5 : ∀ x : Memb m3S, x.at_.cell? ⟨zb, 8, none⟩ = some (.int .i64 ln) := fun x => ((m3h _).1 x.is).2.2.2.2.2
        have m3n : Nonempty (Memb m3S) := ⟨⟨(wz).drew, (m3h _).2 ⟨B5.out.cellD 0 _ rfl, B5.out.cellD 1 _ rfl, B5.out.cellD 2 _ rfl, CZ.out.cellD 3 _ rfl, HN.out ▸ CZ.out.cellD 4 _ rfl, CZ.out.cellD 8 _ rfl⟩⟩⟩
        have m3H := Lib.hid m3h
        clear m3h
        refine wp_region_mix [5] (InS m3S) (by kernel_rfl) (by kernel_rfl) (InS.mk ((m3H.out _).2 ⟨B5.out.cellD 0 _ rfl, B5.out.cellD 1 _ rfl, B5.out.cellD 2 _ rfl, CZ.out.cellD 3 _ rfl, HN.out ▸ CZ.out.cellD 4 _ rfl, CZ.out.cellD 8 _ rfl⟩)) ?_
        refine wpMix_seg 5 (by kernel_rfl) (by decide) ?_
        simp only [List.take_succ_cons, List.take_zero, List.drop_succ_cons, List.drop_zero]
        repeat (go_big_quiet_step (fail))
        refine wpQuiet_nil ?_
        refine wpMix_eff (by kernel_rfl) ?_
        go_wp2_with fail
        refine (MAY.out _).mono ?_
        rintro e w6 ⟨rfl, k6⟩
        have K6 := Lib.hid ((Keeps.refl None wz).drew.trans k6 (T := None) (fun _ h => h) (fun _ _ h => h))
        have B6 := Lib.hid (K6.out.blk B5.out (fun h => h))
        have C6 := Lib.hid (K6.out.blk CZ.out (fun h => h))
        clear k6
        go_wp2
        refine MixK.on (InS.mk ((m3H.out _).2 (⟨B6.out.cellD 0 _ rfl, B6.out.cellD 1 _ rfl, B6.out.cellD 2 _ rfl, C6.out.cellD 3 _ rfl, HN.out ▸ C6.out.cellD 4 _ rfl, C6.out.cellD 8 _ rfl⟩))) ?_
        refine wpMix_seg 17 (by kernel_rfl) (by decide) ?_
        simp only [List.take_succ_cons, List.take_zero, List.drop_succ_cons, List.drop_zero]
        repeat (go_big_quiet_step (fail))
        refine wpQuiet_nil ?_
        refine wpMix_nil ?_
        clear m3k0 m3k1 m3k2 m3k3 m3k4 m3k5 m3n m3H
        go_wp2
        go_ret
        exact ⟨by first | rfl | simp, ⟨C6.out, RZ.out.later K6.out, WZ.out.keeps K6.out (fun h => h), NE.out.2.2.1, NE.out.2.2.2⟩, KZ.out.trans K6.out (T := LzB ⟨db, T, wb, zb⟩) (fun _ h => h) (fun _ _ h => h.elim)⟩
end Go.Proofs.Ytnanbnaikmaljaa
