/- The reference's reader: token, walked. -/
import Derived.Test.YtggjdkkobhefeaaRR3
namespace Go.Proofs.Ytggjdkkobhefeaa
open Go.RowKit

theorem RRAt.less {w : World} {L : RRL} {s : RS} {A : Option Addr} {n c : Nat} (h : RRAt w L s A n c) : L.rb < w.heap.size := h.cc.lt
set_option maxRecDepth 100000 in
set_option maxHeartbeats 3200000 in
theorem rtok_any (L : RRL) (s : RS) (A : Option Addr) (n c : Nat) (w : World) (h : RRAt w L s A n c) (ok : ROkR s) :
    Calls Try.prog 63 #[.pointer (some ⟨L.rb, 0, none⟩)] w (TokDoneR w L (tokR s)) := by
  obtain ⟨res, hres⟩ : ∃ x, tokR s = x := ⟨_, rfl⟩
  rw [hres]
  have ord := h.ord
  have hless := h.less
  obtain ⟨gb, hgb⟩ : ∃ x, w.heap.size = x := ⟨_, rfl⟩
  have K0 : Keeps None w (w.alloc (.cells #[.int .i64 0, .int .i64 0, .int .u8 0] 43)) := (Keeps.refl None w).alloc _
  have BA := Lib.hid (Blk.new w [.int .i64 0, .int .i64 0, .int .u8 0] 43)
  have HA := Lib.hid (h.later K0)
  have KA := Lib.hid K0
  rw [hgb] at BA hless
  have GBW := Lib.hid hgb
  obtain ⟨bv, hbv⟩ : ∃ x, dBitB s.d (kdP s) = x := ⟨_, rfl⟩
  have hb01 := dBitB_01 s.d (kdP s)
  have hks : (bv = 0 → res = (⟨0, 0, (trF 1 8 (kdS s) 1).2 - 256⟩, (trF 1 8 (kdS s) 1).1)) ∧ (bv ≠ 0 → res = (⟨(trF 2 8 (kdS s) 1).2 - 256 + 2, (hfF 6 (trF 3 6 (trF 2 8 (kdS s) 1).1 1).1 ((trF 3 6 (trF 2 8 (kdS s) 1).1 1).2 - 64)).2 + 1, 0⟩, (hfF 6 (trF 3 6 (trF 2 8 (kdS s) 1).1 1).1 ((trF 3 6 (trF 2 8 (kdS s) 1).1 1).2 - 64)).1)) := by
    rw [← hres, ← hbv]
    unfold tokR
    exact ⟨fun e => if_pos e, fun e => if_neg e⟩
  clear h K0 hres hgb
  go_enter Try.func63, Try.ntmps63
  go_wp2_with fail
  rw [GBW.out]
  obtain ⟨wa, hwa⟩ : ∃ x, w.alloc (.cells #[.int .i64 0, .int .i64 0, .int .u8 0] 43) = x := ⟨_, rfl⟩
  rw [hwa] at BA HA KA
  rw [hwa]
  clear hwa
  rcases ok.was with hwas | hwas
  · skip
    -- 0 was, 5 the chance's cell, p0 the chance's field
    have E1 : Hid (kdP s = s.p0) := by show _ = _; unfold kdP; rw [hwas]; rfl
    have E2 : Hid (kdS s = moreF { s with d := dBitS s.d (kdP s), p0 := dBitP s.d (kdP s), was := dBitB s.d (kdP s) }) := by show _ = _; unfold kdS; rw [hwas]; rfl
    have OK1 : Hid (ROkR { s with d := dBitS s.d (kdP s), p0 := dBitP s.d (kdP s), was := dBitB s.d (kdP s) }) := ⟨ok.dok.bit _, ok.zb, ok.l1, ok.l2, ok.l3, dBitB_01 _ _⟩
    obtain ⟨p, hp⟩ : ∃ p, kdP s = p := ⟨_, rfl⟩
    rw [hp] at E1 E2 OK1 hb01 hbv
    have E1 : Hid (s.p0 = p) := E1.out.symm
    rw [hbv] at E2 OK1
    obtain ⟨pn, hpn⟩ : ∃ x, dBitP s.d p = x := ⟨_, rfl⟩
    have BIT := Lib.hid (fun w' (h' : DAt w' L.db 91 s.d) => rdbit_any L.db s.d p w' h' ok.dok.inv)
    rw [hbv, hpn] at BIT
    rw [hpn] at E2 OK1
    obtain ⟨sk, hsk⟩ : ∃ x, kdS s = x := ⟨_, rfl⟩
    rw [hsk] at E2 hks
    have E2 := E2
    have OKK : Hid (ROkR sk) := by show ROkR _; rw [← hsk]; exact ok.kd
    have r0 : wa.cell? ⟨L.rb, 0, none⟩ = some (.pointer (some ⟨L.db, 0, none⟩)) := HA.out.cc.cellD 0 _ rfl
    have r7 : wa.cell? ⟨L.rb, 7, none⟩ = some (.int .i64 0) := by rw [← hwas]; exact HA.out.cc.cellD 7 _ rfl
    have rp : wa.cell? ⟨L.rb, 5, none⟩ = some (.int .i64 p) := by rw [← E1.out]; exact HA.out.cc.cellD 5 _ rfl
    have WAS := Lib.hid hwas
    clear hp hpn hsk hwas E1 ok
    go_wp2
    obtain ⟨mS, mh⟩ : ∃ S : World → Prop, ∀ w', S w' ↔ (w'.cell? ⟨L.rb, 0, none⟩ = some (.pointer (some ⟨L.db, 0, none⟩)) ∧ w'.cell? ⟨L.rb, 7, none⟩ = some (.int .i64 0) ∧ w'.cell? ⟨L.rb, 5, none⟩ = some (.int .i64 p)) := ⟨_, fun _ => Iff.rfl⟩
    have mk0 : ∀ x : Memb mS, x.at_.cell? ⟨L.rb, 0, none⟩ = some (.pointer (some ⟨L.db, 0, none⟩)) := fun x => ((mh _).1 x.is).1
    have mk1 : ∀ x : Memb mS, x.at_.cell? ⟨L.rb, 7, none⟩ = some (.int .i64 0) := fun x => ((mh _).1 x.is).2.1
    have mk2 : ∀ x : Memb mS, x.at_.cell? ⟨L.rb, 5, none⟩ = some (.int .i64 p) := fun x => ((mh _).1 x.is).2.2
    have mn : Nonempty (Memb mS) := ⟨⟨(wa).drew, (mh _).2 ⟨r0, r7, rp⟩⟩⟩
    have mH := Lib.hid mh
    clear mh
    refine wp_region_mix [13] (InS mS) (by kernel_rfl) (by kernel_rfl) (InS.mk ((mH.out _).2 ⟨r0, r7, rp⟩)) ?_
    refine wpMix_seg 13 (by kernel_rfl) (by decide) ?_
    simp only [List.take_succ_cons, List.take_zero, List.drop_succ_cons, List.drop_zero]
    repeat (go_big_quiet_step (fail))
    refine wpQuiet_nil ?_
    refine wpMix_eff (by kernel_rfl) ?_
    go_wp2_with fail
    refine (BIT.out _ HA.out.dc.drew).mono ?_
    rintro e w2 ⟨rfl, d2, k2⟩
    have D2 := Lib.hid d2
    have K2 := Lib.hid ((Keeps.refl (fun k => k = L.db) wa).drew.trans k2 (T := fun k => k = L.db) (fun _ h => h) (fun _ _ h => h))
    have C2 := Lib.hid (K2.out.blk HA.out.cc (by show ¬ _ = _; omega))
    have G2 := Lib.hid (K2.out.blk BA.out (by show ¬ gb = L.db; omega))
    clear d2 k2
    have y7 : w2.cell? ⟨L.rb, 7, none⟩ = some (.int .i64 0) := by have := C2.out.cellD 7 _ rfl; rw [this, WAS.out]
    have yp := C2.out.cellD 5 _ rfl
    have fp := C2.out.frozen 5
    have f7 := C2.out.frozen 7
    go_wp2
    refine MixK.on (InS.mk ((mH.out _).2 (⟨C2.out.cellD 0 _ rfl, y7, (by have := K2.out.cell (p := ⟨L.rb, 5, none⟩) HA.out.cc.lt (by show ¬ L.rb = L.db; omega); exact this.trans rp)⟩))) ?_
    refine wpMix_seg 5 (by kernel_rfl) (by decide) ?_
    simp only [List.take_succ_cons, List.take_zero, List.drop_succ_cons, List.drop_zero]
    repeat (go_big_quiet_step (fail))
    refine wpQuiet_nil ?_
    refine wpMix_nil ?_
    clear mk0 mk1 mk2 mn mH
    go_wp2
    obtain ⟨m2S, m2h⟩ : ∃ S : World → Prop, ∀ w', S w' ↔ (w'.cell? ⟨L.rb, 7, none⟩ = some (.int .i64 0)) := ⟨_, fun _ => Iff.rfl⟩
    have m2k0 : ∀ x : Memb m2S, x.at_.cell? ⟨L.rb, 7, none⟩ = some (.int .i64 0) := fun x => ((m2h _).1 x.is)
    have m2n : Nonempty (Memb m2S) := ⟨⟨(w2).drew, (m2h _).2 (y7)⟩⟩
    have m2H := Lib.hid m2h
    clear m2h
    refine wp_region_mix [9] (InS m2S) (by kernel_rfl) (by kernel_rfl) (InS.mk ((m2H.out _).2 (y7))) ?_
    refine wpMix_seg 9 (by kernel_rfl) (by decide) ?_
    simp only [List.take_succ_cons, List.take_zero, List.drop_succ_cons, List.drop_zero]
    repeat (go_big_quiet_step (fail))
    refine wpQuiet_nil ?_
    refine wpMix_eff (by kernel_rfl) ?_
    go_wp2
    refine MixK.last (by kernel_rfl) ?_
    refine wpMix_nil ?_
    clear m2k0 m2n m2H
    obtain ⟨wm, hwm⟩ : ∃ x, (w2.setCell ⟨L.rb, 5, none⟩ (.int .i64 pn)).drew = x := ⟨_, rfl⟩
    have KM : Hid (Keeps (fun k => k = L.rb) w2 wm) := by show Keeps _ _ _; rw [← hwm]; exact ((Keeps.self L.rb w2).put 5 (.int .i64 pn)).drew
    have CM := Lib.hid (show Blk wm L.rb _ 97 from hwm ▸ (C2.out.set 5 (.int .i64 pn)).drew)
    rw [hwm]
    clear hwm y7 yp fp f7
    have y7 := CM.out.cellD 7 _ rfl
    have f7 := CM.out.frozen 7
    have KS := KM.out.put 7 (.int .i64 bv)
    have r := HA.out
    have RA3 : Hid (RRAt (wm.setCell ⟨L.rb, 7, none⟩ (.int .i64 bv)) L { s with d := dBitS s.d p, p0 := pn, was := bv } A n c) :=
      ⟨CM.out.set 7 _, (r.bs.keeps K2.out (fun b off h0 _ e h => by have := r.lb h0 b off e; have h : b = L.db := h; omega)).keeps KS (fun b off h0 _ e h => by have := r.lb h0 b off e; have h : b = L.rb := h; omega), r.lb, D2.out.keeps KS (by show ¬ _ = _; omega), (r.t1.keeps K2.out (by show ¬ _ = _; omega) (by show ¬ _ = _; omega)).keeps KS (by show ¬ _ = _; omega) (by show ¬ _ = _; omega), (r.t2.keeps K2.out (by show ¬ _ = _; omega) (by show ¬ _ = _; omega)).keeps KS (by show ¬ _ = _; omega) (by show ¬ _ = _; omega), (r.t3.keeps K2.out (by show ¬ _ = _; omega) (by show ¬ _ = _; omega)).keeps KS (by show ¬ _ = _; omega) (by show ¬ _ = _; omega), r.ord⟩
    have K3 : Hid (Keeps (RRB L) wa (wm.setCell ⟨L.rb, 7, none⟩ (.int .i64 bv))) := K2.out.trans KS (T := RRB L) (fun k e => by have e : k = L.db := e; exact ⟨by omega, by omega⟩) (fun k _ e => by have e : k = L.rb := e; exact ⟨by omega, by omega⟩)
    have G3 := Lib.hid (KS.blk G2.out (by show ¬ gb = L.rb; omega))
    have MORE := Lib.hid (rmore_any L _ A n c _ RA3.out OK1.out)
    rw [← E2.out] at MORE
    clear KS r r0 r7 rp D2 K2 C2 G2
    go_wp2_with fail
    refine MORE.out.mono ?_
    rintro e w4 ⟨A4, n4, c4, rfl, ra4, k4⟩
    have RA4 := Lib.hid ra4
    have K4 : Hid (Keeps (RRB L) wa w4) := K3.out.trans k4 (T := RRB L) (fun _ h => h) (fun k _ e => by have e : k = L.db ∨ k = L.rb := e; exact ⟨by omega, by omega⟩)
    have G4 := Lib.hid (k4.blk G3.out (by show ¬ (gb = L.db ∨ gb = L.rb); omega))
    clear ra4 k4 MORE RA3 K3 G3 BIT y7 f7 CM KM
    by_cases hb0 : bv = 0
    · have q0 : (bv == 0) = true := by simp [hb0]
      have RES := Lib.hid (hks.1 hb0)
      have TR := Lib.hid (rtree1_any L sk A4 n4 c4 w4 RA4.out OKK.out)
      have bd := trF_bd 1 8 sk 1 (Int.le_refl _)
      obtain ⟨⟨s5, v5⟩, h5⟩ : ∃ x, trF 1 8 sk 1 = x := ⟨_, rfl⟩
      rw [h5] at TR RES bd
      have bd1 : 256 ≤ v5 := by have := bd.1; omega
      have bd2 : v5 < 512 := by have := bd.2; omega
      have d2' := RA4.out.cc.cellD 2 _ rfl
      clear hks bd h5 hb0
      go_wp2_with fail
      refine TR.out.mono ?_
      rintro e w5 ⟨A5, n5, c5, rfl, ra5, k5⟩
      have RA5 := Lib.hid ra5
      have K5 := Lib.hid (K4.out.trans k5 (T := RRB L) (fun _ h => h) (fun _ _ h => h))
      have G5 := Lib.hid (k5.blk G4.out (by show ¬ (_ ∧ _); omega))
      clear ra5 k5
      have x0 := G5.out.cellD 0 _ rfl
      have x1 := G5.out.cellD 1 _ rfl
      have x2 := G5.out.cellD 2 _ rfl
      have y0 := G5.out.frozen 0
      have y1 := G5.out.frozen 1
      have y2 := G5.out.frozen 2
      obtain ⟨vb, hvb⟩ : ∃ vb, v5 - 256 = vb := ⟨_, rfl⟩
      rw [hvb]
      have hvb0 : 0 ≤ vb := by omega
      have hvb1 : vb ≤ 255 := by omega
      have HVB := Lib.hid hvb
      clear hvb bd1 bd2
      go_wp2
      refine bodyPost_ret (tok_res1 rfl _ (((G5.out.set 0 (.int .i64 0)).set 1 (.int .i64 0)).set 2 (.int .u8 vb)) rfl) rfl ?_
      have kb := (((Keeps.self gb w5).put 0 (.int .i64 0)).put 1 (.int .i64 0)).put 2 (.int .u8 vb)
      exact ⟨A5, n5, c5, by rw [RES.out, ← HVB.out]; rfl, by rw [RES.out]; exact RA5.out.keeps kb (fun k hk e => by have e : k = gb := e; omega), (KA.out.trans K5.out (T := RRB L) (fun _ h => h.elim) (fun _ _ h => h)).trans kb (T := RRB L) (fun _ h => h) (fun k hk e => by have e : k = gb := e; have := GBW.out; omega)⟩
    · skip
      have q0 : (bv == 0) = false := by simp [hb0]
      have RES := Lib.hid (hks.2 hb0)
      have TR := Lib.hid (rtree2_any L sk A4 n4 c4 w4 RA4.out OKK.out)
      have bd := trF_bd 2 8 sk 1 (Int.le_refl _)
      have ok5 := trF_ok 2 8 sk 1 OKK.out
      obtain ⟨⟨s5, v5⟩, h5⟩ : ∃ x, trF 2 8 sk 1 = x := ⟨_, rfl⟩
      rw [h5] at TR RES bd ok5
      have OK5 := Lib.hid ok5
      have bd1 : 256 ≤ v5 := by have := bd.1; omega
      have bd2 : v5 < 512 := by have := bd.2; omega
      have bd3 := trF_bd 3 6 s5 1 (Int.le_refl _)
      have ok7 := trF_ok 3 6 s5 1 ok5
      obtain ⟨⟨s7, v7⟩, h7⟩ : ∃ x, trF 3 6 s5 1 = x := ⟨_, rfl⟩
      have TR3 := Lib.hid (fun A n c w' h' => rtree3_any L s5 A n c w' h' OK5.out)
      rw [h7] at TR3 bd3 ok7
      dsimp only at RES TR TR3
      rw [h7] at RES
      dsimp only at RES
      have OK7 := Lib.hid ok7
      have bd5 : 64 ≤ v7 := by have := bd3.1; omega
      have bd6 : v7 < 128 := by have := bd3.2; omega
      obtain ⟨d0, hd0⟩ : ∃ d0 : Nat, v7 - 64 = d0 := ⟨(v7 - 64).toNat, by omega⟩
      have d064 : d0 < 64 := by omega
      rw [hd0] at RES TR3
      obtain ⟨⟨s9, d9⟩, h9⟩ : ∃ x, hfF 6 s7 d0 = x := ⟨_, rfl⟩
      rw [h9] at RES
      dsimp only at RES
      have H9 := Lib.hid h9
      obtain ⟨n2, hn2⟩ : ∃ n2, v5 - 256 = n2 := ⟨_, rfl⟩
      have n2a : 0 ≤ n2 := by omega
      have n2b : n2 ≤ 255 := by omega
      rw [hn2] at RES TR
      have d3' := RA4.out.cc.cellD 3 _ rfl
      clear hks bd bd3 h5 h7 h9 hb0 ok5 ok7 hd0 bd5 bd6 hn2 bd1 bd2
      go_wp2_with fail
      refine TR.out.mono ?_
      rintro e w5 ⟨A5, n5, c5, rfl, ra5, k5⟩
      have K5 := Lib.hid (K4.out.trans k5 (T := RRB L) (fun _ h => h) (fun _ _ h => h))
      have G5 := Lib.hid (k5.blk G4.out (by show ¬ (_ ∧ _); omega))
      have G5L := Lib.hid G5.out.lt
      obtain ⟨g5, hg5⟩ : ∃ x, w5.heap.size = x := ⟨_, rfl⟩
      have KX : Hid (Keeps None w5 (w5.alloc (.cells #[.int .i64 (n2 + 2), .int .i64 0, .int .u8 0] 43))) := (Keeps.refl None w5).alloc _
      have NX := Lib.hid (Blk.new w5 [.int .i64 (n2 + 2), .int .i64 0, .int .u8 0] 43)
      have RA6 := Lib.hid (ra5.later KX.out)
      have d4' := RA6.out.cc.cellD 4 _ rfl
      have G6 := Lib.hid (KX.out.blk G5.out (fun h => h))
      have K6 := Lib.hid (K5.out.trans KX.out (T := RRB L) (fun _ h => h) (fun _ _ h => h.elim))
      rw [hg5] at NX G5L
      have HG5 := Lib.hid hg5
      have gg : gb < g5 := G5L.out
      clear ra5 k5 TR KX K5 G5 hg5 d3'
      go_wp2_with fail
      rw [HG5.out]
      obtain ⟨w6, hw6⟩ : ∃ x, w5.alloc (.cells #[.int .i64 (n2 + 2), .int .i64 0, .int .u8 0] 43) = x := ⟨_, rfl⟩
      rw [hw6] at RA6 G6 K6 NX
      rw [hw6]
      clear hw6
      refine (TR3.out A5 n5 c5 w6 RA6.out).mono ?_
      rintro e w7 ⟨A7, n7, c7, rfl, ra7, k7⟩
      have RA7 := Lib.hid ra7
      have K7 := Lib.hid (K6.out.trans k7 (T := RRB L) (fun _ h => h) (fun _ _ h => h))
      have G7 := Lib.hid (k7.blk G6.out (by show ¬ (_ ∧ _); omega))
      have N7 := Lib.hid (k7.blk NX.out (by show ¬ (_ ∧ _); omega))
      clear ra7 k7 TR3 RA6 G6 K6 NX d4'
      go_wp2
      go_loopw [6, 7] (fun dv kv wr => ∃ (k n c dist : Nat) (s' : RS) (A : Option Addr), k ≤ 6 ∧ kv = .int .i64 (k : Int) ∧ dv = .int .i64 (dist : Int) ∧ dist < 64 * 2 ^ k ∧ hfF (6 - k) s' dist = (s9, d9) ∧ RRAt wr L s' A n c ∧ ROkR s' ∧ Blk wr gb [.int .i64 0, .int .i64 0, .int .u8 0] 43 ∧ Blk wr g5 [.int .i64 (n2 + 2), .int .i64 0, .int .u8 0] 43 ∧ Keeps (RRB L) wa wr) (fun _ kv _ => 6 - (intOf kv).toNat)
      case atStart => exact ⟨0, n7, c7, d0, s7, A7, by decide, rfl, rfl, by omega, H9.out, RA7.out, OK7.out, G7.out, N7.out, K7.out⟩
      case round =>
        clear RA7 G7 N7 K7
        obtain ⟨k, n8, c8, dist, s8, A8, hk6, rfl, rfl, hdi, hh, hra, hok, hg, hn, hkk⟩ := hrel
        obtain ⟨wv, rfl⟩ : ∃ x, x = wr := ⟨_, rfl⟩
        have hd2 : dist < 4096 := Nat.lt_of_lt_of_le hdi (Nat.mul_le_mul_left 64 (Nat.pow_le_pow_right (n := 2) (by decide) hk6))
        have RA8 := Lib.hid hra
        have OK8 := Lib.hid hok
        have G8 := Lib.hid hg
        have N8 := Lib.hid hn
        have K8 := Lib.hid hkk
        have HH := Lib.hid hh
        have HDI : Hid (dist < 64 * 2 ^ k) := hdi
        clear hra hok hg hn hkk hh hdi
        by_cases hlt : k < 6
        · obtain ⟨j, hj⟩ : ∃ j, 6 - k = j + 1 := ⟨6 - k - 1, by omega⟩
          obtain ⟨b, hb⟩ : ∃ b, dHalfB s8.d = b := ⟨_, rfl⟩
          have b01 := dHalfB_01 s8.d
          rw [hb] at b01
          obtain ⟨bn, rfl⟩ : ∃ bn : Nat, b = bn := ⟨b.toNat, by omega⟩
          have bn1 : bn ≤ 1 := by omega
          have HN : Hid (hfF j (moreF { s8 with d := dHalfS s8.d }) ((2 * dist + bn : Nat) : Int) = (s9, d9)) := by
            have h1 := HH.out
            rw [hj] at h1
            have h2 : hfF (j + 1) s8 (dist : Int) = hfF j (moreF { s8 with d := dHalfS s8.d }) (2 * (dist : Int) + dHalfB s8.d) := rfl
            rw [h2, hb] at h1
            show _ = _
            rw [← h1]
            congr 1
          have HF := Lib.hid (rdhalf_any L.db s8.d wv RA8.out.dc OK8.out.dok.inv)
          rw [hb] at HF
          have JJ := Lib.hid hj
          have e0 := RA8.out.cc.cellD 0 _ rfl
          clear hb hj HH b01
          go_wp2_with fail
          refine HF.out.mono ?_
          rintro e w2 ⟨rfl, d2, k2⟩
          have r := RA8.out
          have RA9 : Hid (RRAt w2 L { s8 with d := dHalfS s8.d } A8 n8 c8) :=
            ⟨k2.blk r.cc (by show ¬ _ = _; omega), r.bs.keeps k2 (fun b off h0 _ e h => by have := r.lb h0 b off e; have h : b = L.db := h; omega), r.lb, d2, r.t1.keeps k2 (by show ¬ _ = _; omega) (by show ¬ _ = _; omega), r.t2.keeps k2 (by show ¬ _ = _; omega) (by show ¬ _ = _; omega), r.t3.keeps k2 (by show ¬ _ = _; omega) (by show ¬ _ = _; omega), r.ord⟩
          have G9 := Lib.hid (k2.blk G8.out (by show ¬ gb = L.db; omega))
          have N9 := Lib.hid (k2.blk N8.out (by show ¬ g5 = L.db; omega))
          have K9 := Lib.hid (K8.out.trans k2 (T := RRB L) (fun _ h => h) (fun k _ e => by have e : k = L.db := e; exact ⟨by omega, by omega⟩))
          clear d2 k2 r HF e0
          go_wp2_with fail
          refine (rmore_any L _ A8 n8 c8 w2 RA9.out OK8.out.half).mono ?_
          rintro e w3 ⟨A3, n3, c3, rfl, r3, k3⟩
          have R3 := Lib.hid r3
          have G3 := Lib.hid (k3.blk G9.out (by show ¬ (gb = L.db ∨ gb = L.rb); omega))
          have N3 := Lib.hid (k3.blk N9.out (by show ¬ (g5 = L.db ∨ g5 = L.rb); omega))
          have K3 := Lib.hid (K9.out.trans k3 (T := RRB L) (fun _ h => h) (fun k _ e => by have e : k = L.db ∨ k = L.rb := e; exact ⟨by omega, by omega⟩))
          clear r3 k3
          go_wp2
          go_roundw
          case rel => exact ⟨k + 1, n3, c3, 2 * dist + bn, _, A3, hlt, by go_num, by go_num, by have := HDI.out; rw [Nat.pow_succ]; omega, by have := HN.out; rw [show 6 - (k + 1) = j by have := JJ.out; omega]; exact this, R3.out, OK8.out.half.more, G3.out, N3.out, K3.out⟩
          case measure => simp [intOf]; omega
        · obtain rfl : k = 6 := by omega
          have e9 : (s8, (dist : Int)) = (s9, d9) := HH.out
          have E1 : Hid (s9 = s8) := (congrArg Prod.fst e9).symm
          have E2 : Hid (d9 = (dist : Int)) := (congrArg Prod.snd e9).symm
          clear e9 HH
          have x0 := N8.out.cellD 0 _ rfl
          have x1 := N8.out.cellD 1 _ rfl
          have x2 := N8.out.cellD 2 _ rfl
          have f1 := N8.out.frozen 1
          have z0 := G8.out.cellD 0 _ rfl
          have z1 := G8.out.cellD 1 _ rfl
          have z2 := G8.out.cellD 2 _ rfl
          have y0 := G8.out.frozen 0
          have y1 := G8.out.frozen 1
          have y2 := G8.out.frozen 2
          go_wp2
          have kn := (Keeps.self g5 wv).put 1 (.int .i64 ((dist : Int) + 1))
          have gn := kn.blk G8.out (by show ¬ gb = g5; omega)
          refine bodyPost_ret (tok_res1 rfl _ (((gn.set 0 (.int .i64 (n2 + 2))).set 1 (.int .i64 ((dist : Int) + 1))).set 2 (.int .u8 0)) rfl) rfl ?_
          have kb := (((Keeps.self gb (wv.setCell ⟨g5, 1, none⟩ (.int .i64 ((dist : Int) + 1)))).put 0 (.int .i64 (n2 + 2))).put 1 (.int .i64 ((dist : Int) + 1))).put 2 (.int .u8 0)
          have kw := kn.trans kb (T := fun k => k = g5 ∨ k = gb) (fun _ h => .inl h) (fun _ _ h => .inr h)
          exact ⟨A8, n8, c8, by rw [RES.out, E2.out]; rfl, by rw [RES.out]; show RRAt _ L s9 A8 n8 c8; rw [E1.out]; exact RA8.out.keeps kw (fun k hk e => by have e : k = g5 ∨ k = gb := e; omega), (KA.out.trans K8.out (T := RRB L) (fun _ h => h.elim) (fun _ _ h => h)).trans kw (T := RRB L) (fun _ h => h) (fun k hk e => by have e : k = g5 ∨ k = gb := e; have := GBW.out; omega)⟩
  · skip
    -- 1 was, 6 the chance's cell, p1 the chance's field
    have E1 : Hid (kdP s = s.p1) := by show _ = _; unfold kdP; rw [hwas]; rfl
    have E2 : Hid (kdS s = moreF { s with d := dBitS s.d (kdP s), p1 := dBitP s.d (kdP s), was := dBitB s.d (kdP s) }) := by show _ = _; unfold kdS; rw [hwas]; rfl
    have OK1 : Hid (ROkR { s with d := dBitS s.d (kdP s), p1 := dBitP s.d (kdP s), was := dBitB s.d (kdP s) }) := ⟨ok.dok.bit _, ok.zb, ok.l1, ok.l2, ok.l3, dBitB_01 _ _⟩
    obtain ⟨p, hp⟩ : ∃ p, kdP s = p := ⟨_, rfl⟩
    rw [hp] at E1 E2 OK1 hb01 hbv
    have E1 : Hid (s.p1 = p) := E1.out.symm
    rw [hbv] at E2 OK1
    obtain ⟨pn, hpn⟩ : ∃ x, dBitP s.d p = x := ⟨_, rfl⟩
    have BIT := Lib.hid (fun w' (h' : DAt w' L.db 91 s.d) => rdbit_any L.db s.d p w' h' ok.dok.inv)
    rw [hbv, hpn] at BIT
    rw [hpn] at E2 OK1
    obtain ⟨sk, hsk⟩ : ∃ x, kdS s = x := ⟨_, rfl⟩
    rw [hsk] at E2 hks
    have E2 := E2
    have OKK : Hid (ROkR sk) := by show ROkR _; rw [← hsk]; exact ok.kd
    have r0 : wa.cell? ⟨L.rb, 0, none⟩ = some (.pointer (some ⟨L.db, 0, none⟩)) := HA.out.cc.cellD 0 _ rfl
    have r7 : wa.cell? ⟨L.rb, 7, none⟩ = some (.int .i64 1) := by rw [← hwas]; exact HA.out.cc.cellD 7 _ rfl
    have rp : wa.cell? ⟨L.rb, 6, none⟩ = some (.int .i64 p) := by rw [← E1.out]; exact HA.out.cc.cellD 6 _ rfl
    have WAS := Lib.hid hwas
    clear hp hpn hsk hwas E1 ok
    go_wp2
    obtain ⟨mS, mh⟩ : ∃ S : World → Prop, ∀ w', S w' ↔ (w'.cell? ⟨L.rb, 0, none⟩ = some (.pointer (some ⟨L.db, 0, none⟩)) ∧ w'.cell? ⟨L.rb, 7, none⟩ = some (.int .i64 1) ∧ w'.cell? ⟨L.rb, 6, none⟩ = some (.int .i64 p)) := ⟨_, fun _ => Iff.rfl⟩
    have mk0 : ∀ x : Memb mS, x.at_.cell? ⟨L.rb, 0, none⟩ = some (.pointer (some ⟨L.db, 0, none⟩)) := fun x => ((mh _).1 x.is).1
    have mk1 : ∀ x : Memb mS, x.at_.cell? ⟨L.rb, 7, none⟩ = some (.int .i64 1) := fun x => ((mh _).1 x.is).2.1
    have mk2 : ∀ x : Memb mS, x.at_.cell? ⟨L.rb, 6, none⟩ = some (.int .i64 p) := fun x => ((mh _).1 x.is).2.2
    have mn : Nonempty (Memb mS) := ⟨⟨(wa).drew, (mh _).2 ⟨r0, r7, rp⟩⟩⟩
    have mH := Lib.hid mh
    clear mh
    refine wp_region_mix [13] (InS mS) (by kernel_rfl) (by kernel_rfl) (InS.mk ((mH.out _).2 ⟨r0, r7, rp⟩)) ?_
    refine wpMix_seg 13 (by kernel_rfl) (by decide) ?_
    simp only [List.take_succ_cons, List.take_zero, List.drop_succ_cons, List.drop_zero]
    repeat (go_big_quiet_step (fail))
    refine wpQuiet_nil ?_
    refine wpMix_eff (by kernel_rfl) ?_
    go_wp2_with fail
    refine (BIT.out _ HA.out.dc.drew).mono ?_
    rintro e w2 ⟨rfl, d2, k2⟩
    have D2 := Lib.hid d2
    have K2 := Lib.hid ((Keeps.refl (fun k => k = L.db) wa).drew.trans k2 (T := fun k => k = L.db) (fun _ h => h) (fun _ _ h => h))
    have C2 := Lib.hid (K2.out.blk HA.out.cc (by show ¬ _ = _; omega))
    have G2 := Lib.hid (K2.out.blk BA.out (by show ¬ gb = L.db; omega))
    clear d2 k2
    have y7 : w2.cell? ⟨L.rb, 7, none⟩ = some (.int .i64 1) := by have := C2.out.cellD 7 _ rfl; rw [this, WAS.out]
    have yp := C2.out.cellD 6 _ rfl
    have fp := C2.out.frozen 6
    have f7 := C2.out.frozen 7
    go_wp2
    refine MixK.on (InS.mk ((mH.out _).2 (⟨C2.out.cellD 0 _ rfl, y7, (by have := K2.out.cell (p := ⟨L.rb, 6, none⟩) HA.out.cc.lt (by show ¬ L.rb = L.db; omega); exact this.trans rp)⟩))) ?_
    refine wpMix_seg 5 (by kernel_rfl) (by decide) ?_
    simp only [List.take_succ_cons, List.take_zero, List.drop_succ_cons, List.drop_zero]
    repeat (go_big_quiet_step (fail))
    refine wpQuiet_nil ?_
    refine wpMix_nil ?_
    clear mk0 mk1 mk2 mn mH
    go_wp2
    obtain ⟨m2S, m2h⟩ : ∃ S : World → Prop, ∀ w', S w' ↔ (w'.cell? ⟨L.rb, 7, none⟩ = some (.int .i64 1)) := ⟨_, fun _ => Iff.rfl⟩
    have m2k0 : ∀ x : Memb m2S, x.at_.cell? ⟨L.rb, 7, none⟩ = some (.int .i64 1) := fun x => ((m2h _).1 x.is)
    have m2n : Nonempty (Memb m2S) := ⟨⟨(w2).drew, (m2h _).2 (y7)⟩⟩
    have m2H := Lib.hid m2h
    clear m2h
    refine wp_region_mix [9] (InS m2S) (by kernel_rfl) (by kernel_rfl) (InS.mk ((m2H.out _).2 (y7))) ?_
    refine wpMix_seg 9 (by kernel_rfl) (by decide) ?_
    simp only [List.take_succ_cons, List.take_zero, List.drop_succ_cons, List.drop_zero]
    repeat (go_big_quiet_step (fail))
    refine wpQuiet_nil ?_
    refine wpMix_eff (by kernel_rfl) ?_
    go_wp2
    refine MixK.last (by kernel_rfl) ?_
    refine wpMix_nil ?_
    clear m2k0 m2n m2H
    obtain ⟨wm, hwm⟩ : ∃ x, (w2.setCell ⟨L.rb, 6, none⟩ (.int .i64 pn)).drew = x := ⟨_, rfl⟩
    have KM : Hid (Keeps (fun k => k = L.rb) w2 wm) := by show Keeps _ _ _; rw [← hwm]; exact ((Keeps.self L.rb w2).put 6 (.int .i64 pn)).drew
    have CM := Lib.hid (show Blk wm L.rb _ 97 from hwm ▸ (C2.out.set 6 (.int .i64 pn)).drew)
    rw [hwm]
    clear hwm y7 yp fp f7
    have y7 := CM.out.cellD 7 _ rfl
    have f7 := CM.out.frozen 7
    have KS := KM.out.put 7 (.int .i64 bv)
    have r := HA.out
    have RA3 : Hid (RRAt (wm.setCell ⟨L.rb, 7, none⟩ (.int .i64 bv)) L { s with d := dBitS s.d p, p1 := pn, was := bv } A n c) :=
      ⟨CM.out.set 7 _, (r.bs.keeps K2.out (fun b off h0 _ e h => by have := r.lb h0 b off e; have h : b = L.db := h; omega)).keeps KS (fun b off h0 _ e h => by have := r.lb h0 b off e; have h : b = L.rb := h; omega), r.lb, D2.out.keeps KS (by show ¬ _ = _; omega), (r.t1.keeps K2.out (by show ¬ _ = _; omega) (by show ¬ _ = _; omega)).keeps KS (by show ¬ _ = _; omega) (by show ¬ _ = _; omega), (r.t2.keeps K2.out (by show ¬ _ = _; omega) (by show ¬ _ = _; omega)).keeps KS (by show ¬ _ = _; omega) (by show ¬ _ = _; omega), (r.t3.keeps K2.out (by show ¬ _ = _; omega) (by show ¬ _ = _; omega)).keeps KS (by show ¬ _ = _; omega) (by show ¬ _ = _; omega), r.ord⟩
    have K3 : Hid (Keeps (RRB L) wa (wm.setCell ⟨L.rb, 7, none⟩ (.int .i64 bv))) := K2.out.trans KS (T := RRB L) (fun k e => by have e : k = L.db := e; exact ⟨by omega, by omega⟩) (fun k _ e => by have e : k = L.rb := e; exact ⟨by omega, by omega⟩)
    have G3 := Lib.hid (KS.blk G2.out (by show ¬ gb = L.rb; omega))
    have MORE := Lib.hid (rmore_any L _ A n c _ RA3.out OK1.out)
    rw [← E2.out] at MORE
    clear KS r r0 r7 rp D2 K2 C2 G2
    go_wp2_with fail
    refine MORE.out.mono ?_
    rintro e w4 ⟨A4, n4, c4, rfl, ra4, k4⟩
    have RA4 := Lib.hid ra4
    have K4 : Hid (Keeps (RRB L) wa w4) := K3.out.trans k4 (T := RRB L) (fun _ h => h) (fun k _ e => by have e : k = L.db ∨ k = L.rb := e; exact ⟨by omega, by omega⟩)
    have G4 := Lib.hid (k4.blk G3.out (by show ¬ (gb = L.db ∨ gb = L.rb); omega))
    clear ra4 k4 MORE RA3 K3 G3 BIT y7 f7 CM KM
    by_cases hb0 : bv = 0
    · have q0 : (bv == 0) = true := by simp [hb0]
      have RES := Lib.hid (hks.1 hb0)
      have TR := Lib.hid (rtree1_any L sk A4 n4 c4 w4 RA4.out OKK.out)
      have bd := trF_bd 1 8 sk 1 (Int.le_refl _)
      obtain ⟨⟨s5, v5⟩, h5⟩ : ∃ x, trF 1 8 sk 1 = x := ⟨_, rfl⟩
      rw [h5] at TR RES bd
      have bd1 : 256 ≤ v5 := by have := bd.1; omega
      have bd2 : v5 < 512 := by have := bd.2; omega
      have d2' := RA4.out.cc.cellD 2 _ rfl
      clear hks bd h5 hb0
      go_wp2_with fail
      refine TR.out.mono ?_
      rintro e w5 ⟨A5, n5, c5, rfl, ra5, k5⟩
      have RA5 := Lib.hid ra5
      have K5 := Lib.hid (K4.out.trans k5 (T := RRB L) (fun _ h => h) (fun _ _ h => h))
      have G5 := Lib.hid (k5.blk G4.out (by show ¬ (_ ∧ _); omega))
      clear ra5 k5
      have x0 := G5.out.cellD 0 _ rfl
      have x1 := G5.out.cellD 1 _ rfl
      have x2 := G5.out.cellD 2 _ rfl
      have y0 := G5.out.frozen 0
      have y1 := G5.out.frozen 1
      have y2 := G5.out.frozen 2
      obtain ⟨vb, hvb⟩ : ∃ vb, v5 - 256 = vb := ⟨_, rfl⟩
      rw [hvb]
      have hvb0 : 0 ≤ vb := by omega
      have hvb1 : vb ≤ 255 := by omega
      have HVB := Lib.hid hvb
      clear hvb bd1 bd2
      go_wp2
      refine bodyPost_ret (tok_res1 rfl _ (((G5.out.set 0 (.int .i64 0)).set 1 (.int .i64 0)).set 2 (.int .u8 vb)) rfl) rfl ?_
      have kb := (((Keeps.self gb w5).put 0 (.int .i64 0)).put 1 (.int .i64 0)).put 2 (.int .u8 vb)
      exact ⟨A5, n5, c5, by rw [RES.out, ← HVB.out]; rfl, by rw [RES.out]; exact RA5.out.keeps kb (fun k hk e => by have e : k = gb := e; omega), (KA.out.trans K5.out (T := RRB L) (fun _ h => h.elim) (fun _ _ h => h)).trans kb (T := RRB L) (fun _ h => h) (fun k hk e => by have e : k = gb := e; have := GBW.out; omega)⟩
    · skip
      have q0 : (bv == 0) = false := by simp [hb0]
      have RES := Lib.hid (hks.2 hb0)
      have TR := Lib.hid (rtree2_any L sk A4 n4 c4 w4 RA4.out OKK.out)
      have bd := trF_bd 2 8 sk 1 (Int.le_refl _)
      have ok5 := trF_ok 2 8 sk 1 OKK.out
      obtain ⟨⟨s5, v5⟩, h5⟩ : ∃ x, trF 2 8 sk 1 = x := ⟨_, rfl⟩
      rw [h5] at TR RES bd ok5
      have OK5 := Lib.hid ok5
      have bd1 : 256 ≤ v5 := by have := bd.1; omega
      have bd2 : v5 < 512 := by have := bd.2; omega
      have bd3 := trF_bd 3 6 s5 1 (Int.le_refl _)
      have ok7 := trF_ok 3 6 s5 1 ok5
      obtain ⟨⟨s7, v7⟩, h7⟩ : ∃ x, trF 3 6 s5 1 = x := ⟨_, rfl⟩
      have TR3 := Lib.hid (fun A n c w' h' => rtree3_any L s5 A n c w' h' OK5.out)
      rw [h7] at TR3 bd3 ok7
      dsimp only at RES TR TR3
      rw [h7] at RES
      dsimp only at RES
      have OK7 := Lib.hid ok7
      have bd5 : 64 ≤ v7 := by have := bd3.1; omega
      have bd6 : v7 < 128 := by have := bd3.2; omega
      obtain ⟨d0, hd0⟩ : ∃ d0 : Nat, v7 - 64 = d0 := ⟨(v7 - 64).toNat, by omega⟩
      have d064 : d0 < 64 := by omega
      rw [hd0] at RES TR3
      obtain ⟨⟨s9, d9⟩, h9⟩ : ∃ x, hfF 6 s7 d0 = x := ⟨_, rfl⟩
      rw [h9] at RES
      dsimp only at RES
      have H9 := Lib.hid h9
      obtain ⟨n2, hn2⟩ : ∃ n2, v5 - 256 = n2 := ⟨_, rfl⟩
      have n2a : 0 ≤ n2 := by omega
      have n2b : n2 ≤ 255 := by omega
      rw [hn2] at RES TR
      have d3' := RA4.out.cc.cellD 3 _ rfl
      clear hks bd bd3 h5 h7 h9 hb0 ok5 ok7 hd0 bd5 bd6 hn2 bd1 bd2
      go_wp2_with fail
      refine TR.out.mono ?_
      rintro e w5 ⟨A5, n5, c5, rfl, ra5, k5⟩
      have K5 := Lib.hid (K4.out.trans k5 (T := RRB L) (fun _ h => h) (fun _ _ h => h))
      have G5 := Lib.hid (k5.blk G4.out (by show ¬ (_ ∧ _); omega))
      have G5L := Lib.hid G5.out.lt
      obtain ⟨g5, hg5⟩ : ∃ x, w5.heap.size = x := ⟨_, rfl⟩
      have KX : Hid (Keeps None w5 (w5.alloc (.cells #[.int .i64 (n2 + 2), .int .i64 0, .int .u8 0] 43))) := (Keeps.refl None w5).alloc _
      have NX := Lib.hid (Blk.new w5 [.int .i64 (n2 + 2), .int .i64 0, .int .u8 0] 43)
      have RA6 := Lib.hid (ra5.later KX.out)
      have d4' := RA6.out.cc.cellD 4 _ rfl
      have G6 := Lib.hid (KX.out.blk G5.out (fun h => h))
      have K6 := Lib.hid (K5.out.trans KX.out (T := RRB L) (fun _ h => h) (fun _ _ h => h.elim))
      rw [hg5] at NX G5L
      have HG5 := Lib.hid hg5
      have gg : gb < g5 := G5L.out
      clear ra5 k5 TR KX K5 G5 hg5 d3'
      go_wp2_with fail
      rw [HG5.out]
      obtain ⟨w6, hw6⟩ : ∃ x, w5.alloc (.cells #[.int .i64 (n2 + 2), .int .i64 0, .int .u8 0] 43) = x := ⟨_, rfl⟩
      rw [hw6] at RA6 G6 K6 NX
      rw [hw6]
      clear hw6
      refine (TR3.out A5 n5 c5 w6 RA6.out).mono ?_
      rintro e w7 ⟨A7, n7, c7, rfl, ra7, k7⟩
      have RA7 := Lib.hid ra7
      have K7 := Lib.hid (K6.out.trans k7 (T := RRB L) (fun _ h => h) (fun _ _ h => h))
      have G7 := Lib.hid (k7.blk G6.out (by show ¬ (_ ∧ _); omega))
      have N7 := Lib.hid (k7.blk NX.out (by show ¬ (_ ∧ _); omega))
      clear ra7 k7 TR3 RA6 G6 K6 NX d4'
      go_wp2
      go_loopw [6, 7] (fun dv kv wr => ∃ (k n c dist : Nat) (s' : RS) (A : Option Addr), k ≤ 6 ∧ kv = .int .i64 (k : Int) ∧ dv = .int .i64 (dist : Int) ∧ dist < 64 * 2 ^ k ∧ hfF (6 - k) s' dist = (s9, d9) ∧ RRAt wr L s' A n c ∧ ROkR s' ∧ Blk wr gb [.int .i64 0, .int .i64 0, .int .u8 0] 43 ∧ Blk wr g5 [.int .i64 (n2 + 2), .int .i64 0, .int .u8 0] 43 ∧ Keeps (RRB L) wa wr) (fun _ kv _ => 6 - (intOf kv).toNat)
      case atStart => exact ⟨0, n7, c7, d0, s7, A7, by decide, rfl, rfl, by omega, H9.out, RA7.out, OK7.out, G7.out, N7.out, K7.out⟩
      case round =>
        clear RA7 G7 N7 K7
        obtain ⟨k, n8, c8, dist, s8, A8, hk6, rfl, rfl, hdi, hh, hra, hok, hg, hn, hkk⟩ := hrel
        obtain ⟨wv, rfl⟩ : ∃ x, x = wr := ⟨_, rfl⟩
        have hd2 : dist < 4096 := Nat.lt_of_lt_of_le hdi (Nat.mul_le_mul_left 64 (Nat.pow_le_pow_right (n := 2) (by decide) hk6))
        have RA8 := Lib.hid hra
        have OK8 := Lib.hid hok
        have G8 := Lib.hid hg
        have N8 := Lib.hid hn
        have K8 := Lib.hid hkk
        have HH := Lib.hid hh
        have HDI : Hid (dist < 64 * 2 ^ k) := hdi
        clear hra hok hg hn hkk hh hdi
        by_cases hlt : k < 6
        · obtain ⟨j, hj⟩ : ∃ j, 6 - k = j + 1 := ⟨6 - k - 1, by omega⟩
          obtain ⟨b, hb⟩ : ∃ b, dHalfB s8.d = b := ⟨_, rfl⟩
          have b01 := dHalfB_01 s8.d
          rw [hb] at b01
          obtain ⟨bn, rfl⟩ : ∃ bn : Nat, b = bn := ⟨b.toNat, by omega⟩
          have bn1 : bn ≤ 1 := by omega
          have HN : Hid (hfF j (moreF { s8 with d := dHalfS s8.d }) ((2 * dist + bn : Nat) : Int) = (s9, d9)) := by
            have h1 := HH.out
            rw [hj] at h1
            have h2 : hfF (j + 1) s8 (dist : Int) = hfF j (moreF { s8 with d := dHalfS s8.d }) (2 * (dist : Int) + dHalfB s8.d) := rfl
            rw [h2, hb] at h1
            show _ = _
            rw [← h1]
            congr 1
          have HF := Lib.hid (rdhalf_any L.db s8.d wv RA8.out.dc OK8.out.dok.inv)
          rw [hb] at HF
          have JJ := Lib.hid hj
          have e0 := RA8.out.cc.cellD 0 _ rfl
          clear hb hj HH b01
          go_wp2_with fail
          refine HF.out.mono ?_
          rintro e w2 ⟨rfl, d2, k2⟩
          have r := RA8.out
          have RA9 : Hid (RRAt w2 L { s8 with d := dHalfS s8.d } A8 n8 c8) :=
            ⟨k2.blk r.cc (by show ¬ _ = _; omega), r.bs.keeps k2 (fun b off h0 _ e h => by have := r.lb h0 b off e; have h : b = L.db := h; omega), r.lb, d2, r.t1.keeps k2 (by show ¬ _ = _; omega) (by show ¬ _ = _; omega), r.t2.keeps k2 (by show ¬ _ = _; omega) (by show ¬ _ = _; omega), r.t3.keeps k2 (by show ¬ _ = _; omega) (by show ¬ _ = _; omega), r.ord⟩
          have G9 := Lib.hid (k2.blk G8.out (by show ¬ gb = L.db; omega))
          have N9 := Lib.hid (k2.blk N8.out (by show ¬ g5 = L.db; omega))
          have K9 := Lib.hid (K8.out.trans k2 (T := RRB L) (fun _ h => h) (fun k _ e => by have e : k = L.db := e; exact ⟨by omega, by omega⟩))
          clear d2 k2 r HF e0
          go_wp2_with fail
          refine (rmore_any L _ A8 n8 c8 w2 RA9.out OK8.out.half).mono ?_
          rintro e w3 ⟨A3, n3, c3, rfl, r3, k3⟩
          have R3 := Lib.hid r3
          have G3 := Lib.hid (k3.blk G9.out (by show ¬ (gb = L.db ∨ gb = L.rb); omega))
          have N3 := Lib.hid (k3.blk N9.out (by show ¬ (g5 = L.db ∨ g5 = L.rb); omega))
          have K3 := Lib.hid (K9.out.trans k3 (T := RRB L) (fun _ h => h) (fun k _ e => by have e : k = L.db ∨ k = L.rb := e; exact ⟨by omega, by omega⟩))
          clear r3 k3
          go_wp2
          go_roundw
          case rel => exact ⟨k + 1, n3, c3, 2 * dist + bn, _, A3, hlt, by go_num, by go_num, by have := HDI.out; rw [Nat.pow_succ]; omega, by have := HN.out; rw [show 6 - (k + 1) = j by have := JJ.out; omega]; exact this, R3.out, OK8.out.half.more, G3.out, N3.out, K3.out⟩
          case measure => simp [intOf]; omega
        · obtain rfl : k = 6 := by omega
          have e9 : (s8, (dist : Int)) = (s9, d9) := HH.out
          have E1 : Hid (s9 = s8) := (congrArg Prod.fst e9).symm
          have E2 : Hid (d9 = (dist : Int)) := (congrArg Prod.snd e9).symm
          clear e9 HH
          have x0 := N8.out.cellD 0 _ rfl
          have x1 := N8.out.cellD 1 _ rfl
          have x2 := N8.out.cellD 2 _ rfl
          have f1 := N8.out.frozen 1
          have z0 := G8.out.cellD 0 _ rfl
          have z1 := G8.out.cellD 1 _ rfl
          have z2 := G8.out.cellD 2 _ rfl
          have y0 := G8.out.frozen 0
          have y1 := G8.out.frozen 1
          have y2 := G8.out.frozen 2
          go_wp2
          have kn := (Keeps.self g5 wv).put 1 (.int .i64 ((dist : Int) + 1))
          have gn := kn.blk G8.out (by show ¬ gb = g5; omega)
          refine bodyPost_ret (tok_res1 rfl _ (((gn.set 0 (.int .i64 (n2 + 2))).set 1 (.int .i64 ((dist : Int) + 1))).set 2 (.int .u8 0)) rfl) rfl ?_
          have kb := (((Keeps.self gb (wv.setCell ⟨g5, 1, none⟩ (.int .i64 ((dist : Int) + 1)))).put 0 (.int .i64 (n2 + 2))).put 1 (.int .i64 ((dist : Int) + 1))).put 2 (.int .u8 0)
          have kw := kn.trans kb (T := fun k => k = g5 ∨ k = gb) (fun _ h => .inl h) (fun _ _ h => .inr h)
          exact ⟨A8, n8, c8, by rw [RES.out, E2.out]; rfl, by rw [RES.out]; show RRAt _ L s9 A8 n8 c8; rw [E1.out]; exact RA8.out.keeps kw (fun k hk e => by have e : k = g5 ∨ k = gb := e; omega), (KA.out.trans K8.out (T := RRB L) (fun _ h => h.elim) (fun _ _ h => h)).trans kw (T := RRB L) (fun _ h => h) (fun k hk e => by have e : k = g5 ∨ k = gb := e; have := GBW.out; omega)⟩
end Go.Proofs.Ytggjdkkobhefeaa
