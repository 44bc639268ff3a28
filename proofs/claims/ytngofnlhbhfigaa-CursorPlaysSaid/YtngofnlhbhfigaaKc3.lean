/- The walks of a cursor's calls: Write, Flush, At, Held. -/
import Derived.Test.YtngofnlhbhfigaaKc2
namespace Go.Proofs.Ytngofnlhbhfigaa
open Go.RowKit

theorem progK_st (f c : Nat) (s : FS) (k : KS) : (progK f c s k).2.1.at_ = k.at_ ∧ (progK f c s k).2.1.n = k.n ∧ (progK f c s k).2.1.word = k.word ∧ (progK f c s k).2.1.err = (progK f c s k).2.2 := by
  unfold progK
  dsimp only
  split
  · exact ⟨rfl, rfl, rfl, rfl⟩
  · exact ⟨rfl, rfl, rfl, rfl⟩
theorem putK_st (f c : Nat) (s : FS) (k : KS) (z : Int) (h0 : k.err = 0) (h7 : k.n < 8) : (putK f c s k z).2.1.at_ = k.at_ + 1 ∧ (putK f c s k z).2.1.err = (putK f c s k z).2.2 ∧ ((putK f c s k z).2.2 = 0 → (putK f c s k z).2.1.n < 8) := by
  have hp := progK_st f c s (k.got z)
  unfold putK
  split
  · exact ⟨rfl, h0, fun _ => by assumption⟩
  · split
    · rename_i h1 h2
      exact ⟨hp.1, hp.2.2.2.trans h2, fun _ => by show 0 < 8; omega⟩
    · rename_i h1 h2
      exact ⟨hp.1, hp.2.2.2, fun h => absurd h h2⟩
theorem Room.put {f c : Nat} {s : FS} {k : KS} {z : Int} {m : Nat} (h : Room s (m + 264)) (hc : c ≤ 256) (hl : k.word.length = 8) (hn : k.n < 8) : Room (putK f c s k z).1 m := by
  have h1 : Room (progK f c s (k.got z)).1 m := Room.afterProg h hc (by show (k.word.set k.n z).length = 8; rw [List.length_set]; exact hl) (by show k.n + 1 ≤ 8; omega)
  unfold putK
  split
  · exact h.less (by omega)
  · split
    · exact h1
    · exact h1
theorem rowK_cons (f c : Nat) (z : Int) (zs : List Int) (s : FS) (k : KS) : rowK f c (z :: zs) s k = if (putK f c s k z).2.2 ≠ 0 then putK f c s k z else rowK f c zs (putK f c s k z).1 (putK f c s k z).2.1 := rfl
theorem drop_getD {zs : List Int} {j : Nat} (h : j < zs.length) : zs.drop j = zs.getD j 0 :: zs.drop (j + 1) := by
  rw [List.drop_eq_getElem_cons h, getD_get 0 h]

/-- Bytes beside a cursor and its flash. -/
structure KB (w : World) (L : FL) (cb : Nat) (A : Option Addr) (n cap : Nat) (zs : List Int) : Prop where
  bs : Bs w A n cap zs
  ap : ∀ b off, 0 < n → A = some ⟨b, off, none⟩ → ¬ L.O b ∧ b ≠ cb
theorem KB.link {w w' : World} {L L' : FL} {cb : Nat} {A : Option Addr} {n cap : Nat} {zs : List Int} (h : KB w L cb A n cap zs) (l : KLink w w' L L' cb) : KB w' L' cb A n cap zs :=
  ⟨h.bs.keeps l.keeps (fun b off h0 _ e hS => hS.elim (h.ap b off h0 e).1 (h.ap b off h0 e).2), fun b off h0 e => by
    obtain ⟨b', off', e', hb, _⟩ := h.bs.at_ h0
    have h1 := h.ap b off h0 e
    rw [e] at e'
    cases e'
    exact ⟨fun hO => (l.o b hO).elim h1.1 (fun hc => by omega), h1.2⟩⟩
theorem KB.later {w w' : World} {L : FL} {cb : Nat} {A : Option Addr} {n cap : Nat} {zs : List Int} (h : KB w L cb A n cap zs) (hk : Keeps None w w') : KB w' L cb A n cap zs := h.link (KLink.quiet L cb hk)

set_option maxRecDepth 100000 in
theorem kat_any (B : Nat) (L : FL) (s : FS) (cb q f c : Nat) (k : KS) (w : World) (h : KAt w B L s cb q f c k) : Calls Try.prog 55 #[.pointer (some ⟨cb, 0, none⟩)] w (Same (.int .i64 k.at_) w) := by
  have c3 := h.cell.cellD 3 _ rfl
  go_enter Try.func55, Try.ntmps55
  go_wp2
  go_ret
  exact ⟨rfl, rfl⟩
set_option maxRecDepth 100000 in
theorem kheld_any (B : Nat) (L : FL) (s : FS) (cb q f c : Nat) (k : KS) (w : World) (h : KAt w B L s cb q f c k) : Calls Try.prog 56 #[.pointer (some ⟨cb, 0, none⟩)] w (Cloned w (k.word.take k.n)) := by
  have c4 := h.cell.cellD 4 _ rfl
  have hn8 := h.n8
  have HB := Lib.hid h.held
  have H := Lib.hid h
  clear h
  go_enter Try.func56, Try.ntmps56
  go_wp2
  obtain ⟨mS, mh⟩ : ∃ S : World → Prop, ∀ w', S w' ↔ (w'.cell? ⟨cb, 4, none⟩ = some (.int .i64 k.n)) := ⟨_, fun _ => Iff.rfl⟩
  have mk0 : ∀ x : Memb mS, x.at_.cell? ⟨cb, 4, none⟩ = some (.int .i64 k.n) := fun x => ((mh _).1 x.is)
  have mn : Nonempty (Memb mS) := ⟨⟨(w).drew, (mh _).2 (c4)⟩⟩
  have mH := Lib.hid mh
  clear mh
  refine wp_region_mix [8] (InS mS) (by kernel_rfl) (by kernel_rfl) (InS.mk ((mH.out _).2 (c4))) ?_
  refine wpMix_seg 8 (by kernel_rfl) (by decide) ?_
  simp only [List.take_succ_cons, List.take_zero, List.drop_succ_cons, List.drop_zero]
  repeat (first | go_big_quiet_step (fail) | (go_big_quiet_want; first | refine quiet_slice8 (run_slice8 cb 5 k.n hn8) rfl rfl rfl rfl (by simp only [Act.put, List.setIfInBounds_toArray, List.set_cons_succ, List.set_cons_zero]; rfl) ?_; go_big_quiet_on))
  refine wpQuiet_nil ?_
  refine wpMix_eff (by kernel_rfl) ?_
  go_wp2_with fail
  refine (clone_any _ _ _ _ _ HB.out.drew (by omega)).mono ?_
  rintro e w1 ⟨v, rfl, o1, k1⟩
  have O1 := Lib.hid o1
  have K1 := Lib.hid ((Keeps.refl None w).drew.trans k1 (T := None) (fun _ h => h) (fun _ _ h => h))
  clear o1 k1
  go_wp2
  refine MixK.on (InS.mk ((mH.out _).2 ((H.out.later K1.out).cell.cellD 4 _ rfl))) ?_
  refine wpMix_seg 1 (by kernel_rfl) (by decide) ?_
  simp only [List.take_succ_cons, List.take_zero, List.drop_succ_cons, List.drop_zero]
  repeat (first | go_big_quiet_step (fail) | (go_big_quiet_want; first | refine quiet_slice8 (run_slice8 cb 5 k.n hn8) rfl rfl rfl rfl (by simp only [Act.put, List.setIfInBounds_toArray, List.set_cons_succ, List.set_cons_zero]; rfl) ?_; go_big_quiet_on))
  refine wpQuiet_nil ?_
  refine wpMix_nil ?_
  clear mk0 mn mH
  go_wp2
  go_ret
  exact ⟨_, rfl, O1.out, K1.out⟩
set_option maxRecDepth 100000 in
theorem kflush_any (B : Nat) (L : FL) (s : FS) (cb q f c : Nat) (k : KS) (w : World) (h : KAt w B L s cb q f c k) (hr : Room s 264) : Calls Try.prog 53 #[.pointer (some ⟨cb, 0, none⟩)] w (KTurn w B L cb q f c (flushK f c s k)) := by
  have PG := Lib.hid (kprog_any B L s cb q f c k w h hr)
  have H := Lib.hid h
  have c4 := h.cell.cellD 4 _ rfl
  have c14 := h.cell.cellD 14 _ (kcells_err h.len)
  have hn8 := h.n8
  obtain ⟨p, hp⟩ : ∃ p, flushK f c s k = p := ⟨_, rfl⟩
  have hp' := hp
  unfold flushK at hp'
  rw [hp]
  clear hp h
  by_cases q1 : k.err = 0
  · have d1 : (k.err != 0) = false := by simp [q1]
    by_cases q2 : k.n = 0
    · have d2 : ((k.n : Int) == 0) = true := by simp [q2]
      rw [if_pos (.inr q2)] at hp'
      have HP := Lib.hid hp'
      have HQ := Lib.hid q1
      clear hp' q1 q2 PG
      generalize k.err = er at *
      generalize k.n = n at *
      go_enter Try.func53, Try.ntmps53
      go_wp2
      go_ret
      rw [← HP.out]
      exact ⟨rfl, L, H.out, KLink.self w L cb⟩
    · have d2 : ((k.n : Int) == 0) = false := by simp [q2]
      rw [if_neg (by rintro (h | h); exact h q1; exact q2 h)] at hp'
      have HP := Lib.hid hp'
      clear hp' q1 q2
      generalize k.err = er at *
      generalize k.n = n at *
      generalize progK f c s k = pp at *
      go_enter Try.func53, Try.ntmps53
      go_wp2_with fail
      refine PG.out.mono ?_
      rintro e w1 ⟨rfl, h1⟩
      go_wp2
      go_ret
      rw [← HP.out]
      exact ⟨rfl, h1⟩
  · have d1 : (k.err != 0) = true := by simp [q1]
    rw [if_pos (.inl q1)] at hp'
    have HP := Lib.hid hp'
    clear hp' q1 PG
    go_enter Try.func53, Try.ntmps53
    go_wp2
    go_ret
    rw [← HP.out]
    exact ⟨rfl, L, H.out, KLink.self w L cb⟩

set_option maxRecDepth 100000 in
set_option maxHeartbeats 1600000 in
theorem kwrite_any (B : Nat) (L : FL) (s : FS) (cb q f c : Nat) (k : KS) (A : Option Addr) (m cap : Nat) (zs : List Int) (w : World) (h : KAt w B L s cb q f c k) (h7 : k.err = 0 → k.n < 8) (hb : KB w L cb A m cap zs) (hr : Room s (m * 264)) :
    Calls Try.prog 52 #[.pointer (some ⟨cb, 0, none⟩), .slice A m cap] w (KTurn w B L cb q f c (writeK f c s k zs)) := by
  have hc9 : f + c ≤ 256 := by have := h.fc; have := h.fl.n9; omega
  have hal := h.al
  have hml := hb.bs.len
  have hle := hb.bs.le
  have hmx := hb.bs.max
  have H := Lib.hid h
  have HB := Lib.hid hb
  have HR := Lib.hid hr
  obtain ⟨p, hp⟩ : ∃ p, writeK f c s k zs = p := ⟨_, rfl⟩
  rw [hp]
  unfold writeK at hp
  have c14 := H.out.cell.cellD 14 _ (kcells_err H.out.len)
  by_cases q1 : k.err = 0
  · have d1 : (k.err != 0) = false := by simp [q1]
    rw [if_neg (by simpa using q1)] at hp
    have N7 := Lib.hid (h7 q1)
    have ER := Lib.hid q1
    have c0 := H.out.cell.cellD 0 _ rfl
    have c1 := H.out.cell.cellD 1 _ rfl
    have c2 := H.out.cell.cellD 2 _ rfl
    have c3 := H.out.cell.cellD 3 _ rfl
    obtain ⟨sz, hsz⟩ : ∃ x, 1024 * c = x := ⟨_, rfl⟩
    obtain ⟨a, hka⟩ : ∃ x, k.at_ = x := ⟨_, rfl⟩
    have GS := Lib.hid (fun w => gsize_any (some ⟨q, 0, none⟩) f c (by omega) w)
    rw [hsz] at GS hal hp
    rw [hka] at hal hp c3
    obtain ⟨rs, hrs⟩ : ∃ x, sz - a = x := ⟨_, rfl⟩
    rw [hrs] at hp
    have i1 : IntKind.i64.wrap ((sz : Int) - a) = rs := by rw [show (sz : Int) - a = (rs : Int) by omega]; exact wrap_nat _ (by omega)
    have rs9 : rs ≤ 262144 := by omega
    have HRS : Hid (rs + a = 1024 * c) := by show _ = _; omega
    have HKA := Lib.hid hka
    rw [hml] at hp
    by_cases q2 : rs < m
    · have d2 : decide ((rs : Int) < m) = true := decide_eq_true (by omega)
      rw [if_pos q2] at hp
      have HP := Lib.hid hp
      clear hp q1 h h7 hb hr hsz hka hrs hml
      generalize k.err = er at *
      go_enter Try.func52, Try.ntmps52
      go_wp2
      obtain ⟨mS, mh⟩ : ∃ S : World → Prop, ∀ w', S w' ↔ (w'.cell? ⟨cb, 0, none⟩ = some (.pointer (some ⟨q, 0, none⟩)) ∧ w'.cell? ⟨cb, 1, none⟩ = some (.int .i64 f) ∧ w'.cell? ⟨cb, 2, none⟩ = some (.int .i64 c) ∧ w'.cell? ⟨cb, 3, none⟩ = some (.int .i64 a)) := ⟨_, fun _ => Iff.rfl⟩
      have mk0 : ∀ x : Memb mS, x.at_.cell? ⟨cb, 0, none⟩ = some (.pointer (some ⟨q, 0, none⟩)) := fun x => ((mh _).1 x.is).1
      have mk1 : ∀ x : Memb mS, x.at_.cell? ⟨cb, 1, none⟩ = some (.int .i64 f) := fun x => ((mh _).1 x.is).2.1
      have mk2 : ∀ x : Memb mS, x.at_.cell? ⟨cb, 2, none⟩ = some (.int .i64 c) := fun x => ((mh _).1 x.is).2.2.1
      have mk3 : ∀ x : Memb mS, x.at_.cell? ⟨cb, 3, none⟩ = some (.int .i64 a) := fun x => ((mh _).1 x.is).2.2.2
      have mn : Nonempty (Memb mS) := ⟨⟨(w).drew, (mh _).2 ⟨c0, c1, c2, c3⟩⟩⟩
      have mH := Lib.hid mh
      clear mh
      refine wp_region_mix [6] (InS mS) (by kernel_rfl) (by kernel_rfl) (InS.mk ((mH.out _).2 ⟨c0, c1, c2, c3⟩)) ?_
      refine wpMix_seg 6 (by kernel_rfl) (by decide) ?_
      simp only [List.take_succ_cons, List.take_zero, List.drop_succ_cons, List.drop_zero]
      repeat (go_big_quiet_step (fail))
      refine wpQuiet_nil ?_
      refine wpMix_eff (by kernel_rfl) ?_
      go_wp2_with fail
      refine (GS.out _).mono ?_
      rintro e w2 ⟨rfl, k2⟩
      have K2 := Lib.hid (((Keeps.refl None w).drew).trans k2 (T := None) (fun _ h => h) (fun _ _ h => h))
      have H2 := Lib.hid (H.out.later K2.out)
      clear k2
      go_wp2
      refine MixK.on (InS.mk ((mH.out _).2 (⟨H2.out.cell.cellD 0 _ rfl, H2.out.cell.cellD 1 _ rfl, H2.out.cell.cellD 2 _ rfl, HKA.out ▸ H2.out.cell.cellD 3 _ rfl⟩))) ?_
      refine wpMix_seg 7 (by kernel_rfl) (by decide) ?_
      simp only [List.take_succ_cons, List.take_zero, List.drop_succ_cons, List.drop_zero]
      repeat (go_big_quiet_step (fail))
      refine wpQuiet_nil ?_
      refine wpMix_nil ?_
      clear mk0 mk1 mk2 mk3 mn mH
      have L2K := Lib.hid (KLink.quiet L cb K2.out)
      go_wp2
      go_ret
      rw [← HP.out]
      exact ⟨rfl, L, H2.out, L2K.out⟩
    · have d2 : decide ((rs : Int) < m) = false := decide_eq_false (by omega)
      rw [if_neg q2] at hp
      have HP := Lib.hid hp
      have HML := Lib.hid hml
      clear hp q1 h h7 hb hr hsz hka hrs hml
      generalize hke : k.err = er at *
      go_enter Try.func52, Try.ntmps52
      go_wp2
      obtain ⟨mS, mh⟩ : ∃ S : World → Prop, ∀ w', S w' ↔ (w'.cell? ⟨cb, 0, none⟩ = some (.pointer (some ⟨q, 0, none⟩)) ∧ w'.cell? ⟨cb, 1, none⟩ = some (.int .i64 f) ∧ w'.cell? ⟨cb, 2, none⟩ = some (.int .i64 c) ∧ w'.cell? ⟨cb, 3, none⟩ = some (.int .i64 a)) := ⟨_, fun _ => Iff.rfl⟩
      have mk0 : ∀ x : Memb mS, x.at_.cell? ⟨cb, 0, none⟩ = some (.pointer (some ⟨q, 0, none⟩)) := fun x => ((mh _).1 x.is).1
      have mk1 : ∀ x : Memb mS, x.at_.cell? ⟨cb, 1, none⟩ = some (.int .i64 f) := fun x => ((mh _).1 x.is).2.1
      have mk2 : ∀ x : Memb mS, x.at_.cell? ⟨cb, 2, none⟩ = some (.int .i64 c) := fun x => ((mh _).1 x.is).2.2.1
      have mk3 : ∀ x : Memb mS, x.at_.cell? ⟨cb, 3, none⟩ = some (.int .i64 a) := fun x => ((mh _).1 x.is).2.2.2
      have mn : Nonempty (Memb mS) := ⟨⟨(w).drew, (mh _).2 ⟨c0, c1, c2, c3⟩⟩⟩
      have mH := Lib.hid mh
      clear mh
      refine wp_region_mix [6] (InS mS) (by kernel_rfl) (by kernel_rfl) (InS.mk ((mH.out _).2 ⟨c0, c1, c2, c3⟩)) ?_
      refine wpMix_seg 6 (by kernel_rfl) (by decide) ?_
      simp only [List.take_succ_cons, List.take_zero, List.drop_succ_cons, List.drop_zero]
      repeat (go_big_quiet_step (fail))
      refine wpQuiet_nil ?_
      refine wpMix_eff (by kernel_rfl) ?_
      go_wp2_with fail
      refine (GS.out _).mono ?_
      rintro e w2 ⟨rfl, k2⟩
      have K2 := Lib.hid (((Keeps.refl None w).drew).trans k2 (T := None) (fun _ h => h) (fun _ _ h => h))
      have H2 := Lib.hid (H.out.later K2.out)
      clear k2
      go_wp2
      refine MixK.on (InS.mk ((mH.out _).2 (⟨H2.out.cell.cellD 0 _ rfl, H2.out.cell.cellD 1 _ rfl, H2.out.cell.cellD 2 _ rfl, HKA.out ▸ H2.out.cell.cellD 3 _ rfl⟩))) ?_
      refine wpMix_seg 7 (by kernel_rfl) (by decide) ?_
      simp only [List.take_succ_cons, List.take_zero, List.drop_succ_cons, List.drop_zero]
      repeat (go_big_quiet_step (fail))
      refine wpQuiet_nil ?_
      refine wpMix_nil ?_
      clear mk0 mk1 mk2 mk3 mn mH
      have L2K := Lib.hid (KLink.quiet L cb K2.out)
      have KE := Lib.hid (hke.trans ER.out)
      have B2 := Lib.hid (HB.out.link L2K.out)
      clear hke c0 c1 c2 c3 c14 i1 GS H
      go_wp2
      go_loopw [37] (fun iv wr => ∃ (j : Nat) (s1 : FS) (k1 : KS) (L1 : FL), j ≤ m ∧ iv = .int .i64 j ∧ KAt wr B L1 s1 cb q f c k1 ∧ KLink w wr L L1 cb ∧ KB wr L1 cb A m cap zs ∧ Room s1 ((m - j) * 264) ∧ k1.err = 0 ∧ k1.n < 8 ∧ k1.at_ = k.at_ + j ∧ p = rowK f c (zs.drop j) s1 k1) (fun iv _ => m - (intOf iv).toNat)
      case atStart => exact ⟨0, s, k, L, Nat.zero_le _, rfl, H2.out, L2K.out, B2.out, HR.out, KE.out, N7.out, rfl, HP.out.symm⟩
      case round =>
        obtain ⟨j, s1, k1, L1, hj, rfl, hK, hL, hB, hR, he, hn, ha, hp⟩ := hrel
        have HK := Lib.hid hK
        have HL := Lib.hid hL
        have HB1 := Lib.hid hB
        clear H2 L2K B2 HP hK hL hB
        by_cases hlt : j < m
        · obtain ⟨bl, of, z, rfl, hz, hz1, hz2, hc⟩ := HB1.out.bs.get hlt
          have hml := HML.out
          have hcc := HRS.out
          have hka := HKA.out
          rw [drop_getD (by omega), hz, rowK_cons] at hp
          have st := putK_st f c s1 k1 z he hn
          have hR264 : Room s1 ((m - (j + 1)) * 264 + 264) := by
            have : (m - j) * 264 = (m - (j + 1)) * 264 + 264 := by omega
            rw [← this]; exact hR
          have hR1 : Room (putK f c s1 k1 z).1 ((m - (j + 1)) * 264) := Room.put hR264 (by omega) HK.out.len hn
          have PT := Lib.hid (kput_any B L1 s1 cb q f c k1 z wr HK.out hn (by omega) ⟨hz1, hz2⟩ (hR.less (by omega)))
          generalize putK f c s1 k1 z = pp at *
          obtain ⟨s2, k2, e2⟩ := pp
          simp only [] at hp st PT hR1
          have HP := Lib.hid hp
          have HS := Lib.hid st
          have HR1 := Lib.hid hR1
          have HA := Lib.hid ha
          clear hp st hR1 hR264 hz hml hcc hka he hn ha hR
          go_wp2_with fail
          refine PT.out.mono ?_
          rintro e w3 ⟨rfl, L3, h3, l3⟩
          have H3 := Lib.hid h3
          have L3K := Lib.hid (HL.out.trans l3)
          have B3 := Lib.hid (HB1.out.link l3)
          simp only [] at H3
          clear h3 l3
          by_cases q3 : e2 = 0
          · subst q3
            have b3 : ((0 : Int) != 0) = false := rfl
            go_wp2
            go_roundw
            case rel => exact ⟨j + 1, s2, k2, L3, hlt, by go_num, H3.out, L3K.out, B3.out, HR1.out, HS.out.2.1, HS.out.2.2 (by first | rfl | trivial), by rw [HS.out.1, HA.out]; omega, by rw [HP.out]; simp⟩
            case measure => simp [intOf]; omega
          · have b3 : (e2 != 0) = true := by simp [q3]
            go_wp2
            go_ret
            rw [HP.out, if_pos q3]
            exact ⟨rfl, L3, H3.out, L3K.out⟩
        · obtain rfl : j = m := by omega
          rw [List.drop_of_length_le (by rw [HML.out]; exact Nat.le_refl _)] at hp
          have HP := Lib.hid hp
          clear hp
          go_wp2
          go_ret
          rw [HP.out]
          exact ⟨rfl, L1, HK.out, HL.out⟩
  · have d1 : (k.err != 0) = true := by simp [q1]
    rw [if_pos q1] at hp
    have HP := Lib.hid hp
    clear hp q1 h h7 hb hr
    go_enter Try.func52, Try.ntmps52
    go_wp2
    go_ret
    rw [← HP.out]
    exact ⟨rfl, L, H.out, KLink.self w L cb⟩
end Go.Proofs.Ytngofnlhbhfigaa
