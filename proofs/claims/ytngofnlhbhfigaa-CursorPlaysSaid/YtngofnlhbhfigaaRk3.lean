/- The walks of the reference's cursor: Write, Flush. -/
import Derived.Test.YtngofnlhbhfigaaRk2
import Derived.Test.YtngofnlhbhfigaaMix3
namespace Go.Proofs.Ytngofnlhbhfigaa
open Go.RowKit

def RKTurnH (w : World) (B : Nat) (L : RL) (K : RKL) (q f c : Nat) (h0 : Nat) (p : FS × RS × Int) (e : Ending) (w' : World) : Prop :=
  e = .returned (.int .i64 p.2.2) ∧ ∃ L' A' cap', RKAt w' B L' p.1 ⟨K.cb, K.rb, K.eb, A', cap'⟩ q f c p.2.1 ∧ RKLink w w' L L' K ∧
    ∀ b off, 0 < p.2.1.held.length → A' = some ⟨b, off, none⟩ → (0 < h0 ∧ ∃ o, K.A = some ⟨b, o, none⟩) ∨ w.heap.size ≤ b

set_option maxRecDepth 100000 in
set_option maxHeartbeats 3200000 in
theorem rkwrite_any (B : Nat) (L : RL) (s : FS) (K : RKL) (q f c : Nat) (k : RS) (A : Option Addr) (m cap : Nat) (zs : List Int) (w : World) (h : RKAt w B L s K q f c k) (h7 : k.dead = 0 → k.held.length < 8) (hb : RKB w L K A m cap zs) (hr : Room s (m * 264)) :
    Calls Try.prog 61 #[.pointer (some ⟨K.cb, 0, none⟩), .slice A m cap] w (RKTurnH w B L K q f c k.held.length (rwrite f c s k zs)) := by
  have hc9 : f + c ≤ 256 := by have := h.fc; have := h.fl.n9; omega
  have hal := h.al
  have hml := hb.bs.len
  have hle := hb.bs.le
  have hmx := hb.bs.max
  have H := Lib.hid h
  have HB := Lib.hid hb
  have HR := Lib.hid hr
  have AP0 := Lib.hid (fun b off (h0 : 0 < k.held.length) (e : K.A = some ⟨b, off, none⟩) => (show (0 < k.held.length ∧ ∃ o, K.A = some ⟨b, o, none⟩) ∨ w.heap.size ≤ b from .inl ⟨h0, off, e⟩))
  obtain ⟨p, hp⟩ : ∃ p, rwrite f c s k zs = p := ⟨_, rfl⟩
  rw [hp]
  unfold rwrite at hp
  have c0 := H.out.cell.cellD 0 _ rfl
  have c1 := H.out.cell.cellD 1 _ rfl
  have c2 := H.out.cell.cellD 2 _ rfl
  have c3 := H.out.cell.cellD 3 _ rfl
  have c4 := H.out.cell.cellD 4 _ rfl
  have c5 := H.out.cell.cellD 5 _ rfl
  have c6 := H.out.cell.cellD 6 _ rfl
  have c7 := H.out.cell.cellD 7 _ rfl
  clear c4 c6 c7
  by_cases q1 : k.dead = 0
  · have d1 : (k.dead != 0) = false := by simp [q1]
    rw [if_neg (by simpa using q1)] at hp
    have N7 := Lib.hid (h7 q1)
    have ER := Lib.hid q1
    obtain ⟨sz, hsz⟩ : ∃ x, 1024 * c = x := ⟨_, rfl⟩
    obtain ⟨a, hka⟩ : ∃ x, k.at_ = x := ⟨_, rfl⟩
    have GS := Lib.hid (fun w => rgsize_any (some ⟨q, 0, none⟩) f c (by omega) w)
    rw [hsz] at GS hal hp
    rw [hka] at hal hp c3
    obtain ⟨rs, hrs⟩ : ∃ x, sz - a = x := ⟨_, rfl⟩
    rw [hrs] at hp
    have i1 : IntKind.i64.wrap ((sz : Int) - a) = rs := by rw [show (sz : Int) - a = (rs : Int) by omega]; exact wrap_nat _ (by omega)
    have rs9 : rs ≤ 262144 := by omega
    have HRS : Hid (rs + a = 1024 * c) := by show _ = _; omega
    have HKA := Lib.hid hka
    rw [hml] at hp
    obtain ⟨cb, rb, eb, A0, cap0⟩ := K
    simp only [] at c0 c1 c2 c3 c5
    by_cases q2 : rs < m
    · have d2 : decide ((rs : Int) < m) = true := decide_eq_true (by omega)
      rw [if_pos q2] at hp
      have HP := Lib.hid hp
      clear hp q1 h h7 hb hr hsz hka hrs hml
      generalize k.dead = er at *
      go_enter Try.func61, Try.ntmps61
      go_wp2
      obtain ⟨mS, mh⟩ : ∃ S : World → Prop, ∀ w', S w' ↔ (w'.cell? ⟨cb, 0, none⟩ = some (.pointer (some ⟨q, 0, none⟩)) ∧ w'.cell? ⟨cb, 1, none⟩ = some (.int .i64 f) ∧ w'.cell? ⟨cb, 2, none⟩ = some (.int .i64 c) ∧ w'.cell? ⟨cb, 3, none⟩ = some (.int .i64 a)) := ⟨_, fun _ => Iff.rfl⟩
      have mk0 : ∀ x : Memb mS, x.at_.cell? ⟨cb, 0, none⟩ = some (.pointer (some ⟨q, 0, none⟩)) := fun x => ((mh _).1 x.is).1
      have mk1 : ∀ x : Memb mS, x.at_.cell? ⟨cb, 1, none⟩ = some (.int .i64 f) := fun x => ((mh _).1 x.is).2.1
      have mk2 : ∀ x : Memb mS, x.at_.cell? ⟨cb, 2, none⟩ = some (.int .i64 c) := fun x => ((mh _).1 x.is).2.2.1
      have mk3 : ∀ x : Memb mS, x.at_.cell? ⟨cb, 3, none⟩ = some (.int .i64 a) := fun x => ((mh _).1 x.is).2.2.2
      have mn : Nonempty (Memb mS) := ⟨⟨(w).drew, (mh _).2 ⟨c0, c1, c2, c3⟩⟩⟩
      have mH := Lib.hid mh
      clear mh
      refine wp_region_mix [6] (InS mS) (by kernel_rfl) (by kernel_rfl) (InS.mk ((mH.out _).2 ⟨c0, c1, c2, c3⟩)) ?_
      refine wpMix_seg 6 (by kernel_rfl) (by decide) ?_
      simp only [List.take_succ_cons, List.take_zero, List.drop_succ_cons, List.drop_zero]
      repeat (go_big_quiet_step (fail))
      refine wpQuiet_nil ?_
      refine wpMix_eff (by kernel_rfl) ?_
      go_wp2_with fail
      refine (GS.out _).mono ?_
      rintro e w2 ⟨rfl, k2⟩
      have K2 := Lib.hid (((Keeps.refl None w).drew).trans k2 (T := None) (fun _ h => h) (fun _ _ h => h))
      have H2 := Lib.hid (H.out.later K2.out)
      clear k2
      go_wp2
      refine MixK.on (InS.mk ((mH.out _).2 (⟨H2.out.cell.cellD 0 _ rfl, H2.out.cell.cellD 1 _ rfl, H2.out.cell.cellD 2 _ rfl, HKA.out ▸ H2.out.cell.cellD 3 _ rfl⟩))) ?_
      refine wpMix_seg 6 (by kernel_rfl) (by decide) ?_
      simp only [List.take_succ_cons, List.take_zero, List.drop_succ_cons, List.drop_zero]
      repeat (go_big_quiet_step (fail))
      refine wpQuiet_nil ?_
      refine wpMix_nil ?_
      clear mk0 mk1 mk2 mk3 mn mH
      have L2K := Lib.hid (RKLink.quiet L ⟨cb, rb, eb, A0, cap0⟩ K2.out)
      go_wp2
      go_ret
      rw [← HP.out]
      exact ⟨rfl, L, A0, cap0, H2.out, L2K.out, fun b off h0 e => .inl ⟨h0, off, e⟩⟩
    · have d2 : decide ((rs : Int) < m) = false := decide_eq_false (by omega)
      rw [if_neg q2] at hp
      have HP := Lib.hid hp
      have HML := Lib.hid hml
      clear hp q1 h h7 hb hr hsz hka hrs hml
      generalize hke : k.dead = er at *
      go_enter Try.func61, Try.ntmps61
      go_wp2
      obtain ⟨mS, mh⟩ : ∃ S : World → Prop, ∀ w', S w' ↔ (w'.cell? ⟨cb, 0, none⟩ = some (.pointer (some ⟨q, 0, none⟩)) ∧ w'.cell? ⟨cb, 1, none⟩ = some (.int .i64 f) ∧ w'.cell? ⟨cb, 2, none⟩ = some (.int .i64 c) ∧ w'.cell? ⟨cb, 3, none⟩ = some (.int .i64 a)) := ⟨_, fun _ => Iff.rfl⟩
      have mk0 : ∀ x : Memb mS, x.at_.cell? ⟨cb, 0, none⟩ = some (.pointer (some ⟨q, 0, none⟩)) := fun x => ((mh _).1 x.is).1
      have mk1 : ∀ x : Memb mS, x.at_.cell? ⟨cb, 1, none⟩ = some (.int .i64 f) := fun x => ((mh _).1 x.is).2.1
      have mk2 : ∀ x : Memb mS, x.at_.cell? ⟨cb, 2, none⟩ = some (.int .i64 c) := fun x => ((mh _).1 x.is).2.2.1
      have mk3 : ∀ x : Memb mS, x.at_.cell? ⟨cb, 3, none⟩ = some (.int .i64 a) := fun x => ((mh _).1 x.is).2.2.2
      have mn : Nonempty (Memb mS) := ⟨⟨(w).drew, (mh _).2 ⟨c0, c1, c2, c3⟩⟩⟩
      have mH := Lib.hid mh
      clear mh
      refine wp_region_mix [6] (InS mS) (by kernel_rfl) (by kernel_rfl) (InS.mk ((mH.out _).2 ⟨c0, c1, c2, c3⟩)) ?_
      refine wpMix_seg 6 (by kernel_rfl) (by decide) ?_
      simp only [List.take_succ_cons, List.take_zero, List.drop_succ_cons, List.drop_zero]
      repeat (go_big_quiet_step (fail))
      refine wpQuiet_nil ?_
      refine wpMix_eff (by kernel_rfl) ?_
      go_wp2_with fail
      refine (GS.out _).mono ?_
      rintro e w2 ⟨rfl, k2⟩
      have K2 := Lib.hid (((Keeps.refl None w).drew).trans k2 (T := None) (fun _ h => h) (fun _ _ h => h))
      have H2 := Lib.hid (H.out.later K2.out)
      clear k2
      go_wp2
      refine MixK.on (InS.mk ((mH.out _).2 (⟨H2.out.cell.cellD 0 _ rfl, H2.out.cell.cellD 1 _ rfl, H2.out.cell.cellD 2 _ rfl, HKA.out ▸ H2.out.cell.cellD 3 _ rfl⟩))) ?_
      refine wpMix_seg 6 (by kernel_rfl) (by decide) ?_
      simp only [List.take_succ_cons, List.take_zero, List.drop_succ_cons, List.drop_zero]
      repeat (go_big_quiet_step (fail))
      refine wpQuiet_nil ?_
      refine wpMix_nil ?_
      clear mk0 mk1 mk2 mk3 mn mH
      have L2K := Lib.hid (RKLink.quiet L ⟨cb, rb, eb, A0, cap0⟩ K2.out)
      have KE := Lib.hid (hke.trans ER.out)
      have B2 := Lib.hid (HB.out.link L2K.out)
      clear hke c0 c1 c2 c3 c5 i1 GS H
      go_wp2
      go_loopw [5] (fun iv wr => ∃ (j : Nat) (s1 : FS) (k1 : RS) (L1 : RL) (A1 : Option Addr) (cap1 : Nat), j ≤ m ∧ iv = .int .i64 j ∧ RKAt wr B L1 s1 ⟨cb, rb, eb, A1, cap1⟩ q f c k1 ∧ RKLink w wr L L1 ⟨cb, rb, eb, A0, cap0⟩ ∧ RKB wr L1 ⟨cb, rb, eb, A0, cap0⟩ A m cap zs ∧ Room s1 ((m - j) * 264) ∧ k1.dead = 0 ∧ k1.held.length < 8 ∧ k1.at_ = k.at_ + j ∧ p = rrow f c (zs.drop j) s1 k1 ∧ ∀ b off, 0 < k1.held.length → A1 = some ⟨b, off, none⟩ → (0 < k.held.length ∧ ∃ o, A0 = some ⟨b, o, none⟩) ∨ w.heap.size ≤ b) (fun iv _ => m - (intOf iv).toNat)
      case atStart => exact ⟨0, s, k, L, A0, cap0, Nat.zero_le _, rfl, H2.out, L2K.out, B2.out, HR.out, KE.out, N7.out, rfl, HP.out.symm, AP0.out⟩
      case round =>
        obtain ⟨j, s1, k1, L1, A1, cap1, hj, rfl, hK, hL, hB, hR, he, hn, ha, hp, hap⟩ := hrel
        have HK := Lib.hid hK
        have HL := Lib.hid hL
        have HB1 := Lib.hid hB
        have HAP := Lib.hid hap
        clear H2 L2K B2 HP hK hL hB hap
        by_cases hlt : j < m
        · obtain ⟨bl, of, z, rfl, hz, hz1, hz2, hc⟩ := HB1.out.bs.get hlt
          have hml := HML.out
          have hcc := HRS.out
          have hka := HKA.out
          rw [drop_getD (by omega), hz, rrow_cons] at hp
          have st := rput_st (f := f) (c := c) (s := s1) (z := z) he hn
          have hR264 : Room s1 ((m - (j + 1)) * 264 + 264) := by
            have : (m - j) * 264 = (m - (j + 1)) * 264 + 264 := by omega
            rw [← this]; exact hR
          have hR1 : Room (rput f c s1 k1 z).1 ((m - (j + 1)) * 264) := Room.rput hR264 hn
          have hR2 : Room s1 264 := hR264.less (by omega)
          have PD : Hid (rput f c s1 k1 z = _) := rput.eq_1 f c s1 k1 z
          generalize rput f c s1 k1 z = pp at *
          obtain ⟨s2, k2, e2⟩ := pp
          simp only [] at hp st hR1
          have HP := Lib.hid hp
          have HST := Lib.hid st
          have HR1 := Lib.hid hR1
          have HR2 := Lib.hid hR2
          have HA := Lib.hid ha
          have HE := Lib.hid he
          obtain ⟨at1, hd, dead1, rdy1, ent1⟩ := k1
          simp only [] at hn ha PD HE HAP
          obtain ⟨n1, hn1⟩ : ∃ x, hd.length = x := ⟨_, rfl⟩
          have HN1 := Lib.hid hn1
          have at9 : at1 + 1 ≤ 1024 * c := by omega
          have at8 : at1 + 1 ≤ 262144 := by omega
          have na1 := HK.out.na
          simp only [] at na1
          have n17 : n1 < 8 := by omega
          have c3 := HK.out.cell.cellD 3 _ rfl
          have c4 := HK.out.cell.cellD 4 _ rfl
          have z4 := HK.out.cell.frozen 4
          rw [hn1] at c4
          have HBS := Lib.hid HK.out.held
          simp only [] at HBS
          rw [hn1] at HBS
          have NCB : Hid (cb < wr.heap.size) := HK.out.cell.lt
          have HPC := Lib.hid (show ∀ w', Keeps None wr w' → w'.cell? ⟨cb, 4, none⟩ = some (.slice A1 n1 cap1) ∧ w'.cell? ⟨bl, of + j, none⟩ = some (.int .u8 z) from fun w' hk => ⟨by have := (HK.out.later hk).cell.cellD 4 _ rfl; rw [HN1.out] at this; exact this, by
            obtain ⟨bl', of', z', e', hz', _, _, hc'⟩ := ((HB1.out.link (RKLink.quiet L1 _ hk)).bs.get hlt)
            cases e'
            rw [show z' = z from hz'.symm.trans (by assumption)] at hc'
            exact hc'⟩)
          obtain ⟨wv, rfl⟩ : ∃ x, x = wr := ⟨_, rfl⟩
          obtain ⟨n2, hn2⟩ : ∃ x, n1 + 1 = x := ⟨_, rfl⟩
          obtain ⟨at2, hat2⟩ : ∃ x, at1 + 1 = x := ⟨_, rfl⟩
          have HN2 := Lib.hid hn2
          have HAT2 := Lib.hid hat2
          have i2 : IntKind.i64.wrap ((at1 : Int) + 1) = at2 := by rw [show (at1 : Int) + 1 = (at2 : Int) by omega]; exact wrap_nat _ (by omega)
          have LN : Hid ((hd ++ [z]).length = n2) := by show _ = _; rw [List.length_append, List.length_singleton]; omega
          have N28 : Hid (n2 ≤ 8) := by show _ ≤ _; omega
          have NA2 : Hid (n2 ≤ at2) := by show _ ≤ _; omega
          have AT2 : Hid (at2 ≤ 1024 * c) := by show _ ≤ _; omega
          have at28 : at2 ≤ 262144 := by omega
          have n28 : n2 ≤ 8 := by omega
          have n2at : n2 ≤ at2 := by omega
          have ZB : Hid (0 ≤ z ∧ z ≤ 255) := ⟨hz1, hz2⟩
          clear hp st hR1 hR264 hz hml hcc hka he hn ha hR hR2 hn1 hn2 hat2 c3 c4
          go_wp2
          obtain ⟨mS, mh⟩ : ∃ S : World → Prop, ∀ w', S w' ↔ (w'.cell? ⟨cb, 4, none⟩ = some (.slice A1 n1 cap1) ∧ w'.cell? ⟨bl, of + j, none⟩ = some (.int .u8 z)) := ⟨_, fun _ => Iff.rfl⟩
          have mk0 : ∀ x : Memb mS, x.at_.cell? ⟨cb, 4, none⟩ = some (.slice A1 n1 cap1) := fun x => ((mh _).1 x.is).1
          have mk1 : ∀ x : Memb mS, x.at_.cell? ⟨bl, of + j, none⟩ = some (.int .u8 z) := fun x => ((mh _).1 x.is).2
          have mn : Nonempty (Memb mS) := ⟨⟨(wv).drew, (mh _).2 ⟨(HPC.out _ (Keeps.refl None wv).drew).1, (HPC.out _ (Keeps.refl None wv).drew).2⟩⟩⟩
          have mH := Lib.hid mh
          clear mh
          refine wp_region_mix_swap [5, 10, 11, 14] (InS mS) 1 6 11 5 10 (by kernel_rfl) (by kernel_rfl) (InS.mk ((mH.out _).2 ⟨(HPC.out _ (Keeps.refl None wv).drew).1, (HPC.out _ (Keeps.refl None wv).drew).2⟩)) ?_ ?_
          ·
            refine wpMix_seg 5 (by kernel_rfl) (by decide) ?_
            simp only [List.take_succ_cons, List.take_zero, List.drop_succ_cons, List.drop_zero, Nat.reduceSub]
            repeat (go_big_quiet_step (fail))
            refine wpQuiet_nil ?_
            refine wpMix_eff (by kernel_rfl) ?_
            go_wp2_with (at_builtin; refine wpList_append_bs (Own.nil _ wv.heap.size) HBS.out.drew (by simp; omega) (Nat.le_refl _) rfl rfl rfl rfl rfl ?_; intro v2 w2 ho2 hk2)
            rw [List.nil_append] at ho2
            have K2 : Hid (Keeps None wv w2) := (Keeps.refl None wv).drew.trans hk2 (fun _ h => h) (fun i hi e => by simp [Value.ownBlock] at e)
            obtain ⟨A2, cap2, rfl, -, -⟩ := ho2.shape
            rw [HN1.out] at ho2 ⊢
            have O2 := Lib.hid ho2
            clear ho2 hk2
            go_wp2
            refine MixK.on (InS.mk ((mH.out _).2 (HPC.out _ K2.out))) ?_
            refine wpMix_seg 4 (by kernel_rfl) (by decide) ?_
            simp only [List.take_succ_cons, List.take_zero, List.drop_succ_cons, List.drop_zero, Nat.reduceSub]
            repeat (go_big_quiet_step (fail))
            refine wpQuiet_nil ?_
            refine wpMix_eff (by kernel_rfl) ?_
            go_wp2
            have K3 := Lib.hid (K2.out.alloc (.cells #[.int .u8 z] 5))
            have O3 := Lib.hid (O2.out.alloc (.cells #[.int .u8 z] 5))
            have B3 := Lib.hid (Bs.oneAt w2 _ rfl z ZB.out)
            have SZ3 := Lib.hid K3.out.size
            clear K2 O2
            refine MixK.on (InS.mk ((mH.out _).2 (HPC.out _ K3.out))) ?_
            refine wpMix_eff (by kernel_rfl) ?_
            go_wp2_with (at_builtin; refine wpList_append_bs O3.out B3.out (by rw [HN1.out]; omega) SZ3.out rfl rfl rfl rfl rfl ?_; intro v4 w4 ho4 hk4)
            have K4 : Hid (Keeps None wv w4) := K3.out.trans hk4 (fun _ h => h) (fun i hi e => (O3.out.notBelow hi e).elim)
            obtain ⟨A4, cap4, rfl, bs4, ap4⟩ := ho4.shape
            rw [LN.out] at bs4 ⊢
            have BS4 := Lib.hid bs4
            have AP4 := Lib.hid ap4
            clear ho4 hk4 bs4 ap4 K3 O3 B3 SZ3
            go_wp2
            refine MixK.on (InS.mk ((mH.out _).2 (HPC.out _ K4.out))) ?_
            refine wpMix_seg 2 (by kernel_rfl) (by decide) ?_
            simp only [List.take_succ_cons, List.take_zero, List.drop_succ_cons, List.drop_zero, Nat.reduceSub]
            repeat (go_big_quiet_step (fail))
            refine wpQuiet_nil ?_
            refine wpMix_eff (by kernel_rfl) ?_
            have H4 := Lib.hid (HK.out.later K4.out)
            have x3 := H4.out.cell.cellD 3 _ rfl
            have x4 := H4.out.cell.cellD 4 _ rfl
            have z3 := H4.out.cell.frozen 3
            have z4 := H4.out.cell.frozen 4
            go_wp2
            refine MixK.last (by kernel_rfl) ?_
            refine wpMix_nil ?_
            clear mk0 mk1 mn mH
            have g3 : RKAt ((w4.setCell ⟨cb, 4, none⟩ (.slice A4 n2 cap4)).setCell ⟨cb, 3, none⟩ (.int .i64 at2)) B L1 s1 ⟨cb, rb, eb, A4, cap4⟩ q f c ⟨at2, hd ++ [z], dead1, rdy1, ent1⟩ :=
              H4.out.recell (((Keeps.self cb w4).put 4 _).put 3 _) (by simp only [rkcells, LN.out]; exact (H4.out.cell.set 4 (.slice A4 n2 cap4)).set 3 (.int .i64 at2)) rfl rfl (by show Bs _ A4 (hd ++ [z]).length cap4 (hd ++ [z]); rw [LN.out]; exact BS4.out.keeps (((Keeps.self cb w4).put 4 _).put 3 _) (fun b off _ _ e hj => by have := (AP4.out b off e).1; have := NCB.out; omega))
                (fun b off _ e => ⟨fun hO => by have := (AP4.out b off e).1; have := HK.out.fl.lt b hO; omega, fun hX => by have := (AP4.out b off e).1; have := HK.out.xlt b hX; omega, by have := (AP4.out b off e).1; have := HK.out.fl.low _ (.inl (.inl rfl)); have := HK.out.fl.lt _ (.inl (.inl rfl)); omega⟩)
                (by show (hd ++ [z]).length ≤ 8; rw [LN.out]; exact N28.out) (by show (hd ++ [z]).length ≤ at2; rw [LN.out]; exact NA2.out) AT2.out
            have l3 := (HL.out.trans (RKLink.quiet L1 ⟨cb, rb, eb, A1, cap1⟩ K4.out) (fun _ h => h)).trans ((RKLink.put w4 L1 (K := ⟨cb, rb, eb, A1, cap1⟩) (.inl rfl) 4 (.slice A4 n2 cap4)).trans (RKLink.put _ L1 (K := ⟨cb, rb, eb, A1, cap1⟩) (.inl rfl) 3 (.int .i64 at2)) (fun _ h => h)) (fun _ h => h)
            have AP5 := Lib.hid (fun (b off : Nat) (e : A4 = some ⟨b, off, none⟩) => Nat.le_trans HL.out.keeps.size (AP4.out b off e).1)
            have G3 := Lib.hid g3
            have L3K := Lib.hid l3
            have B3 := Lib.hid (HB1.out.link ((RKLink.quiet L1 ⟨cb, rb, eb, A0, cap0⟩ K4.out).trans ((RKLink.put w4 L1 (K := ⟨cb, rb, eb, A0, cap0⟩) (.inl rfl) 4 (.slice A4 n2 cap4)).trans (RKLink.put _ L1 (K := ⟨cb, rb, eb, A0, cap0⟩) (.inl rfl) 3 (.int .i64 at2)) (fun _ h => h)) (fun _ h => h)))
            clear g3 l3 HBS HPC BS4 AP4 H4 HK HL HB1 HAP K4
            by_cases q8 : n2 = 8
            · subst q8
              have PW : Hid ((s2, k2, e2) = if (rword f c s1 ⟨at2, hd ++ [z], dead1, rdy1, ent1⟩ (at2 - 8) (hd ++ [z])).2.2 ≠ 0 then ((rword f c s1 ⟨at2, hd ++ [z], dead1, rdy1, ent1⟩ (at2 - 8) (hd ++ [z])).1, { (rword f c s1 ⟨at2, hd ++ [z], dead1, rdy1, ent1⟩ (at2 - 8) (hd ++ [z])).2.1 with dead := (rword f c s1 ⟨at2, hd ++ [z], dead1, rdy1, ent1⟩ (at2 - 8) (hd ++ [z])).2.2 }, (rword f c s1 ⟨at2, hd ++ [z], dead1, rdy1, ent1⟩ (at2 - 8) (hd ++ [z])).2.2) else ((rword f c s1 ⟨at2, hd ++ [z], dead1, rdy1, ent1⟩ (at2 - 8) (hd ++ [z])).1, { (rword f c s1 ⟨at2, hd ++ [z], dead1, rdy1, ent1⟩ (at2 - 8) (hd ++ [z])).2.1 with dead := 0, held := [] }, 0)) := by
                show _ = _
                rw [PD.out, if_pos (by rw [HN1.out]; exact HN2.out), HAT2.out]
              have WD := Lib.hid (fun w' (h' : RKAt w' B L1 s1 ⟨cb, rb, eb, A4, cap4⟩ q f c ⟨at2, hd ++ [z], dead1, rdy1, ent1⟩) => rkword_any B L1 s1 ⟨cb, rb, eb, A4, cap4⟩ q f c ⟨at2, hd ++ [z], dead1, rdy1, ent1⟩ (at2 - 8) A4 8 cap4 (hd ++ [z]) w' h' (by have := h'.hb; simp only [LN.out] at this; exact this) (by have := NA2.out; have := AT2.out; omega) (Nat.le_refl _) HR2.out)
              have WS := Lib.hid (rword_st f c s1 ⟨at2, hd ++ [z], dead1, rdy1, ent1⟩ (at2 - 8) (hd ++ [z]))
              generalize rword f c s1 ⟨at2, hd ++ [z], dead1, rdy1, ent1⟩ (at2 - 8) (hd ++ [z]) = pw at *
              obtain ⟨s5, k5, e5⟩ := pw
              simp only [] at PW WS
              obtain ⟨ad, had⟩ : ∃ x, at2 - 8 = x := ⟨_, rfl⟩
              rw [had] at WD
              have i3 : IntKind.i64.wrap ((at2 : Int) - 8) = ad := by have := NA2.out; have := AT2.out; rw [show (at2 : Int) - 8 = (ad : Int) by omega]; exact wrap_nat _ (by omega)
              clear had PD
              go_wp2
              obtain ⟨w6, hw6⟩ : ∃ x, (w4.setCell ⟨cb, 4, none⟩ (.slice A4 8 cap4)).setCell ⟨cb, 3, none⟩ (.int .i64 at2) = x := ⟨_, rfl⟩
              rw [hw6] at G3 L3K B3
              rw [hw6]
              clear hw6 x3 x4 z3 z4
              obtain ⟨m2S, m2h⟩ : ∃ S : World → Prop, ∀ w', S w' ↔ (w'.cell? ⟨cb, 3, none⟩ = some (.int .i64 at2) ∧ w'.cell? ⟨cb, 4, none⟩ = some (.slice A4 8 cap4)) := ⟨_, fun _ => Iff.rfl⟩
              have m2k0 : ∀ x : Memb m2S, x.at_.cell? ⟨cb, 3, none⟩ = some (.int .i64 at2) := fun x => ((m2h _).1 x.is).1
              have m2k1 : ∀ x : Memb m2S, x.at_.cell? ⟨cb, 4, none⟩ = some (.slice A4 8 cap4) := fun x => ((m2h _).1 x.is).2
              have m2n : Nonempty (Memb m2S) := ⟨⟨(w6).drew, (m2h _).2 ⟨(by have := G3.out.cell.cellD 3 _ rfl; exact this), (by have := G3.out.cell.cellD 4 _ rfl; simp only [LN.out] at this; exact this)⟩⟩⟩
              have m2H := Lib.hid m2h
              clear m2h
              refine wp_region_mix [11, 14] (InS m2S) (by kernel_rfl) (by kernel_rfl) (InS.mk ((m2H.out _).2 ⟨(by have := G3.out.cell.cellD 3 _ rfl; exact this), (by have := G3.out.cell.cellD 4 _ rfl; simp only [LN.out] at this; exact this)⟩)) ?_
              refine wpMix_seg 11 (by kernel_rfl) (by decide) ?_
              simp only [List.take_succ_cons, List.take_zero, List.drop_succ_cons, List.drop_zero]
              repeat (go_big_quiet_step (fail))
              refine wpQuiet_nil ?_
              refine wpMix_eff (by kernel_rfl) ?_
              go_wp2_with fail
              refine (WD.out _ G3.out.drew).mono ?_
              rintro e w7 ⟨rfl, L7, h7, l7⟩
              have H7 := Lib.hid h7
              have L7K := Lib.hid (L3K.out.trans ((RKLink.quiet L1 ⟨cb, rb, eb, A4, cap4⟩ (Keeps.refl None w6).drew).trans l7 (fun _ h => h)) (fun _ h => h))
              have B7 := Lib.hid (B3.out.link ((RKLink.quiet L1 ⟨cb, rb, eb, A0, cap0⟩ (Keeps.refl None w6).drew).trans (K' := ⟨cb, rb, eb, A4, cap4⟩) l7 (fun _ h => h)))
              simp only [] at H7
              have y3 := H7.out.cell.cellD 3 _ rfl
              have y4 := H7.out.cell.cellD 4 _ rfl
              have y5 := H7.out.cell.cellD 5 _ rfl
              have u5 := H7.out.cell.frozen 5
              have u4 := H7.out.cell.frozen 4
              rw [WS.out.1] at y3
              rw [WS.out.2.1, LN.out] at y4
              have Y3 := Lib.hid y3
              have Y4 := Lib.hid y4
              clear h7 l7
              go_wp2
              refine MixK.on (InS.mk ((m2H.out _).2 (⟨Y3.out, Y4.out⟩))) ?_
              refine wpMix_seg 2 (by kernel_rfl) (by decide) ?_
              simp only [List.take_succ_cons, List.take_zero, List.drop_succ_cons, List.drop_zero]
              repeat (go_big_quiet_step (fail))
              refine wpQuiet_nil ?_
              refine wpMix_eff (by kernel_rfl) ?_
              go_wp2
              refine MixK.last (by kernel_rfl) ?_
              refine wpMix_nil ?_
              clear m2k0 m2k1 m2n m2H
              have hd7 := H7.out.putDead e5
              have HD7 := Lib.hid hd7
              have LD7 := Lib.hid (L7K.out.trans (RKLink.put w7 L7 (K := ⟨cb, rb, eb, A4, cap4⟩) (.inl rfl) 5 (.int .i64 e5)) (fun _ h => h))
              have BD7 := Lib.hid (B7.out.link (RKLink.put w7 L7 (K := ⟨cb, rb, eb, A0, cap0⟩) (.inl rfl) 5 (.int .i64 e5)))
              clear hd7 Y3 Y4 G3 L3K B3 WD i3 i2
              by_cases q9 : e5 = 0
              · subst q9
                have b9 : ((0 : Int) != 0) = false := rfl
                have PX : Hid ((s2, k2, e2) = (s5, { k5 with dead := 0, held := [] }, 0)) := by show _ = _; rw [PW.out, if_neg (by decide)]
                obtain ⟨rfl, rfl, rfl⟩ : s2 = s5 ∧ k2 = { k5 with dead := 0, held := [] } ∧ e2 = 0 := by have := PX.out; simp only [Prod.mk.injEq] at this; exact this
                have hn7 := HD7.out.putNil
                have HN7 := Lib.hid hn7
                clear hn7 PW PX
                go_wp2
                go_roundw
                case rel => exact ⟨j + 1, s2, _, L7, none, 0, hlt, by go_num, HN7.out, LD7.out.trans (RKLink.put _ L7 (K := ⟨cb, rb, eb, A4, cap4⟩) (.inl rfl) 4 (.slice none 0 0)) (fun _ h => h), BD7.out.link (RKLink.put _ L7 (K := ⟨cb, rb, eb, A0, cap0⟩) (.inl rfl) 4 (.slice none 0 0)), HR1.out, rfl, by show 0 < 8; decide, by rw [HST.out.1, HA.out]; omega, by rw [HP.out]; simp, fun b off h0 => absurd h0 (by show ¬ 0 < 0; decide)⟩
                case measure => simp [intOf]; omega
              · have b9 : (e5 != 0) = true := by simp [q9]
                have PX : Hid ((s2, k2, e2) = (s5, { k5 with dead := e5 }, e5)) := by show _ = _; rw [PW.out, if_pos q9]
                obtain ⟨rfl, rfl, rfl⟩ : s2 = s5 ∧ k2 = { k5 with dead := e5 } ∧ e2 = e5 := by have := PX.out; simp only [Prod.mk.injEq] at this; exact this
                clear PW PX
                go_wp2
                go_ret
                rw [HP.out, if_pos q9]
                exact ⟨rfl, L7, A4, cap4, HD7.out, LD7.out, fun b off h0 e => .inr (AP5.out b off e)⟩
            · have d8 : ((n2 : Int) == 8) = false := by simp; omega
              have PX : Hid ((s2, k2, e2) = (s1, ⟨at2, hd ++ [z], dead1, rdy1, ent1⟩, 0)) := by show _ = _; rw [PD.out, if_neg (by rw [HN1.out, HN2.out]; exact q8), HAT2.out]
              obtain ⟨rfl, rfl, rfl⟩ : s2 = s1 ∧ k2 = ⟨at2, hd ++ [z], dead1, rdy1, ent1⟩ ∧ e2 = 0 := by have := PX.out; simp only [Prod.mk.injEq] at this; exact this
              clear PD PX
              go_wp2
              go_roundw
              case rel => exact ⟨j + 1, s2, _, L1, A4, cap4, hlt, by go_num, G3.out, L3K.out, B3.out, HR1.out, HE.out, HST.out.2.2 (by first | rfl | trivial), by rw [HST.out.1, HA.out]; omega, by rw [HP.out]; simp, fun b off h0 e => .inr (AP5.out b off e)⟩
              case measure => simp [intOf]; omega
          ·
            try dsimp only
            try simp only [List.take_succ_cons, List.take_zero, List.drop_succ_cons, List.drop_zero, Nat.reduceSub]
            refine wpMix_seg 1 (by kernel_rfl) (by decide) ?_
            simp only [List.take_succ_cons, List.take_zero, List.drop_succ_cons, List.drop_zero, Nat.reduceSub]
            repeat (go_big_quiet_step (fail))
            refine wpQuiet_nil ?_
            refine wpMix_nil ?_
            try dsimp only
            try simp only [List.take_succ_cons, List.take_zero, List.drop_succ_cons, List.drop_zero, Nat.reduceSub]
            refine wpMix_seg 4 (by kernel_rfl) (by decide) ?_
            simp only [List.take_succ_cons, List.take_zero, List.drop_succ_cons, List.drop_zero, Nat.reduceSub]
            repeat (go_big_quiet_step (fail))
            refine wpQuiet_nil ?_
            refine wpMix_eff (by kernel_rfl) ?_
            go_wp2
            have K2 : Hid (Keeps None wv (wv.alloc (.cells #[.int .u8 z] 5)).drew) := ((Keeps.refl None wv).alloc _).drew
            have B2 := Lib.hid (Bs.oneAt wv _ rfl z ZB.out).drew
            refine MixK.on (InS.mk ((mH.out _).2 (HPC.out _ K2.out))) ?_
            refine wpMix_nil ?_
            try dsimp only
            try simp only [List.take_succ_cons, List.take_zero, List.drop_succ_cons, List.drop_zero, Nat.reduceSub]
            refine wpMix_seg 4 (by kernel_rfl) (by decide) ?_
            simp only [List.take_succ_cons, List.take_zero, List.drop_succ_cons, List.drop_zero, Nat.reduceSub]
            repeat (go_big_quiet_step (fail))
            refine wpQuiet_nil ?_
            refine wpMix_eff (by kernel_rfl) ?_
            go_wp2_with (at_builtin; refine wpList_append_bs (Own.nil _ wv.heap.size) (HBS.out.keeps K2.out (fun _ _ _ _ _ h => h)) (by simp; omega) K2.out.size rfl rfl rfl rfl rfl ?_; intro v3 w3 ho3 hk3)
            rw [List.nil_append] at ho3
            have K3 : Hid (Keeps None wv w3) := K2.out.trans hk3 (fun _ h => h) (fun i hi e => by simp [Value.ownBlock] at e)
            have B3 := Lib.hid (B2.out.keeps hk3 (fun _ _ _ _ _ e => by simp [Value.ownBlock] at e))
            obtain ⟨A3, cap3, rfl, -, -⟩ := ho3.shape
            rw [HN1.out] at ho3 ⊢
            have O3 := Lib.hid ho3
            have SZ3 := Lib.hid K3.out.size
            clear ho3 hk3 K2 B2
            go_wp2
            refine MixK.on (InS.mk ((mH.out _).2 (HPC.out _ K3.out))) ?_
            refine wpMix_nil ?_
            try dsimp only
            try simp only [List.take_succ_cons, List.take_zero, List.drop_succ_cons, List.drop_zero, Nat.reduceSub]
            refine wpMix_eff (by kernel_rfl) ?_
            go_wp2_with (at_builtin; refine wpList_append_bs O3.out B3.out (by rw [HN1.out]; omega) SZ3.out rfl rfl rfl rfl rfl ?_; intro v4 w4 ho4 hk4)
            have K4 : Hid (Keeps None wv w4) := K3.out.trans hk4 (fun _ h => h) (fun i hi e => (O3.out.notBelow hi e).elim)
            obtain ⟨A4, cap4, rfl, bs4, ap4⟩ := ho4.shape
            rw [LN.out] at bs4 ⊢
            have BS4 := Lib.hid bs4
            have AP4 := Lib.hid ap4
            clear ho4 hk4 bs4 ap4 K3 O3 B3 SZ3
            go_wp2
            refine MixK.on (InS.mk ((mH.out _).2 (HPC.out _ K4.out))) ?_
            refine wpMix_seg 2 (by kernel_rfl) (by decide) ?_
            simp only [List.take_succ_cons, List.take_zero, List.drop_succ_cons, List.drop_zero, Nat.reduceSub]
            repeat (go_big_quiet_step (fail))
            refine wpQuiet_nil ?_
            refine wpMix_eff (by kernel_rfl) ?_
            have H4 := Lib.hid (HK.out.later K4.out)
            have x3 := H4.out.cell.cellD 3 _ rfl
            have x4 := H4.out.cell.cellD 4 _ rfl
            have z3 := H4.out.cell.frozen 3
            have z4 := H4.out.cell.frozen 4
            go_wp2
            refine MixK.last (by kernel_rfl) ?_
            refine wpMix_nil ?_
            clear mk0 mk1 mn mH
            have g3 : RKAt ((w4.setCell ⟨cb, 4, none⟩ (.slice A4 n2 cap4)).setCell ⟨cb, 3, none⟩ (.int .i64 at2)) B L1 s1 ⟨cb, rb, eb, A4, cap4⟩ q f c ⟨at2, hd ++ [z], dead1, rdy1, ent1⟩ :=
              H4.out.recell (((Keeps.self cb w4).put 4 _).put 3 _) (by simp only [rkcells, LN.out]; exact (H4.out.cell.set 4 (.slice A4 n2 cap4)).set 3 (.int .i64 at2)) rfl rfl (by show Bs _ A4 (hd ++ [z]).length cap4 (hd ++ [z]); rw [LN.out]; exact BS4.out.keeps (((Keeps.self cb w4).put 4 _).put 3 _) (fun b off _ _ e hj => by have := (AP4.out b off e).1; have := NCB.out; omega))
                (fun b off _ e => ⟨fun hO => by have := (AP4.out b off e).1; have := HK.out.fl.lt b hO; omega, fun hX => by have := (AP4.out b off e).1; have := HK.out.xlt b hX; omega, by have := (AP4.out b off e).1; have := HK.out.fl.low _ (.inl (.inl rfl)); have := HK.out.fl.lt _ (.inl (.inl rfl)); omega⟩)
                (by show (hd ++ [z]).length ≤ 8; rw [LN.out]; exact N28.out) (by show (hd ++ [z]).length ≤ at2; rw [LN.out]; exact NA2.out) AT2.out
            have l3 := (HL.out.trans (RKLink.quiet L1 ⟨cb, rb, eb, A1, cap1⟩ K4.out) (fun _ h => h)).trans ((RKLink.put w4 L1 (K := ⟨cb, rb, eb, A1, cap1⟩) (.inl rfl) 4 (.slice A4 n2 cap4)).trans (RKLink.put _ L1 (K := ⟨cb, rb, eb, A1, cap1⟩) (.inl rfl) 3 (.int .i64 at2)) (fun _ h => h)) (fun _ h => h)
            have AP5 := Lib.hid (fun (b off : Nat) (e : A4 = some ⟨b, off, none⟩) => Nat.le_trans HL.out.keeps.size (AP4.out b off e).1)
            have G3 := Lib.hid g3
            have L3K := Lib.hid l3
            have B3 := Lib.hid (HB1.out.link ((RKLink.quiet L1 ⟨cb, rb, eb, A0, cap0⟩ K4.out).trans ((RKLink.put w4 L1 (K := ⟨cb, rb, eb, A0, cap0⟩) (.inl rfl) 4 (.slice A4 n2 cap4)).trans (RKLink.put _ L1 (K := ⟨cb, rb, eb, A0, cap0⟩) (.inl rfl) 3 (.int .i64 at2)) (fun _ h => h)) (fun _ h => h)))
            clear g3 l3 HBS HPC BS4 AP4 H4 HK HL HB1 HAP K4
            by_cases q8 : n2 = 8
            · subst q8
              have PW : Hid ((s2, k2, e2) = if (rword f c s1 ⟨at2, hd ++ [z], dead1, rdy1, ent1⟩ (at2 - 8) (hd ++ [z])).2.2 ≠ 0 then ((rword f c s1 ⟨at2, hd ++ [z], dead1, rdy1, ent1⟩ (at2 - 8) (hd ++ [z])).1, { (rword f c s1 ⟨at2, hd ++ [z], dead1, rdy1, ent1⟩ (at2 - 8) (hd ++ [z])).2.1 with dead := (rword f c s1 ⟨at2, hd ++ [z], dead1, rdy1, ent1⟩ (at2 - 8) (hd ++ [z])).2.2 }, (rword f c s1 ⟨at2, hd ++ [z], dead1, rdy1, ent1⟩ (at2 - 8) (hd ++ [z])).2.2) else ((rword f c s1 ⟨at2, hd ++ [z], dead1, rdy1, ent1⟩ (at2 - 8) (hd ++ [z])).1, { (rword f c s1 ⟨at2, hd ++ [z], dead1, rdy1, ent1⟩ (at2 - 8) (hd ++ [z])).2.1 with dead := 0, held := [] }, 0)) := by
                show _ = _
                rw [PD.out, if_pos (by rw [HN1.out]; exact HN2.out), HAT2.out]
              have WD := Lib.hid (fun w' (h' : RKAt w' B L1 s1 ⟨cb, rb, eb, A4, cap4⟩ q f c ⟨at2, hd ++ [z], dead1, rdy1, ent1⟩) => rkword_any B L1 s1 ⟨cb, rb, eb, A4, cap4⟩ q f c ⟨at2, hd ++ [z], dead1, rdy1, ent1⟩ (at2 - 8) A4 8 cap4 (hd ++ [z]) w' h' (by have := h'.hb; simp only [LN.out] at this; exact this) (by have := NA2.out; have := AT2.out; omega) (Nat.le_refl _) HR2.out)
              have WS := Lib.hid (rword_st f c s1 ⟨at2, hd ++ [z], dead1, rdy1, ent1⟩ (at2 - 8) (hd ++ [z]))
              generalize rword f c s1 ⟨at2, hd ++ [z], dead1, rdy1, ent1⟩ (at2 - 8) (hd ++ [z]) = pw at *
              obtain ⟨s5, k5, e5⟩ := pw
              simp only [] at PW WS
              obtain ⟨ad, had⟩ : ∃ x, at2 - 8 = x := ⟨_, rfl⟩
              rw [had] at WD
              have i3 : IntKind.i64.wrap ((at2 : Int) - 8) = ad := by have := NA2.out; have := AT2.out; rw [show (at2 : Int) - 8 = (ad : Int) by omega]; exact wrap_nat _ (by omega)
              clear had PD
              go_wp2
              obtain ⟨w6, hw6⟩ : ∃ x, (w4.setCell ⟨cb, 4, none⟩ (.slice A4 8 cap4)).setCell ⟨cb, 3, none⟩ (.int .i64 at2) = x := ⟨_, rfl⟩
              rw [hw6] at G3 L3K B3
              rw [hw6]
              clear hw6 x3 x4 z3 z4
              obtain ⟨m2S, m2h⟩ : ∃ S : World → Prop, ∀ w', S w' ↔ (w'.cell? ⟨cb, 3, none⟩ = some (.int .i64 at2) ∧ w'.cell? ⟨cb, 4, none⟩ = some (.slice A4 8 cap4)) := ⟨_, fun _ => Iff.rfl⟩
              have m2k0 : ∀ x : Memb m2S, x.at_.cell? ⟨cb, 3, none⟩ = some (.int .i64 at2) := fun x => ((m2h _).1 x.is).1
              have m2k1 : ∀ x : Memb m2S, x.at_.cell? ⟨cb, 4, none⟩ = some (.slice A4 8 cap4) := fun x => ((m2h _).1 x.is).2
              have m2n : Nonempty (Memb m2S) := ⟨⟨(w6).drew, (m2h _).2 ⟨(by have := G3.out.cell.cellD 3 _ rfl; exact this), (by have := G3.out.cell.cellD 4 _ rfl; simp only [LN.out] at this; exact this)⟩⟩⟩
              have m2H := Lib.hid m2h
              clear m2h
              refine wp_region_mix [11, 14] (InS m2S) (by kernel_rfl) (by kernel_rfl) (InS.mk ((m2H.out _).2 ⟨(by have := G3.out.cell.cellD 3 _ rfl; exact this), (by have := G3.out.cell.cellD 4 _ rfl; simp only [LN.out] at this; exact this)⟩)) ?_
              refine wpMix_seg 11 (by kernel_rfl) (by decide) ?_
              simp only [List.take_succ_cons, List.take_zero, List.drop_succ_cons, List.drop_zero]
              repeat (go_big_quiet_step (fail))
              refine wpQuiet_nil ?_
              refine wpMix_eff (by kernel_rfl) ?_
              go_wp2_with fail
              refine (WD.out _ G3.out.drew).mono ?_
              rintro e w7 ⟨rfl, L7, h7, l7⟩
              have H7 := Lib.hid h7
              have L7K := Lib.hid (L3K.out.trans ((RKLink.quiet L1 ⟨cb, rb, eb, A4, cap4⟩ (Keeps.refl None w6).drew).trans l7 (fun _ h => h)) (fun _ h => h))
              have B7 := Lib.hid (B3.out.link ((RKLink.quiet L1 ⟨cb, rb, eb, A0, cap0⟩ (Keeps.refl None w6).drew).trans (K' := ⟨cb, rb, eb, A4, cap4⟩) l7 (fun _ h => h)))
              simp only [] at H7
              have y3 := H7.out.cell.cellD 3 _ rfl
              have y4 := H7.out.cell.cellD 4 _ rfl
              have y5 := H7.out.cell.cellD 5 _ rfl
              have u5 := H7.out.cell.frozen 5
              have u4 := H7.out.cell.frozen 4
              rw [WS.out.1] at y3
              rw [WS.out.2.1, LN.out] at y4
              have Y3 := Lib.hid y3
              have Y4 := Lib.hid y4
              clear h7 l7
              go_wp2
              refine MixK.on (InS.mk ((m2H.out _).2 (⟨Y3.out, Y4.out⟩))) ?_
              refine wpMix_seg 2 (by kernel_rfl) (by decide) ?_
              simp only [List.take_succ_cons, List.take_zero, List.drop_succ_cons, List.drop_zero]
              repeat (go_big_quiet_step (fail))
              refine wpQuiet_nil ?_
              refine wpMix_eff (by kernel_rfl) ?_
              go_wp2
              refine MixK.last (by kernel_rfl) ?_
              refine wpMix_nil ?_
              clear m2k0 m2k1 m2n m2H
              have hd7 := H7.out.putDead e5
              have HD7 := Lib.hid hd7
              have LD7 := Lib.hid (L7K.out.trans (RKLink.put w7 L7 (K := ⟨cb, rb, eb, A4, cap4⟩) (.inl rfl) 5 (.int .i64 e5)) (fun _ h => h))
              have BD7 := Lib.hid (B7.out.link (RKLink.put w7 L7 (K := ⟨cb, rb, eb, A0, cap0⟩) (.inl rfl) 5 (.int .i64 e5)))
              clear hd7 Y3 Y4 G3 L3K B3 WD i3 i2
              by_cases q9 : e5 = 0
              · subst q9
                have b9 : ((0 : Int) != 0) = false := rfl
                have PX : Hid ((s2, k2, e2) = (s5, { k5 with dead := 0, held := [] }, 0)) := by show _ = _; rw [PW.out, if_neg (by decide)]
                obtain ⟨rfl, rfl, rfl⟩ : s2 = s5 ∧ k2 = { k5 with dead := 0, held := [] } ∧ e2 = 0 := by have := PX.out; simp only [Prod.mk.injEq] at this; exact this
                have hn7 := HD7.out.putNil
                have HN7 := Lib.hid hn7
                clear hn7 PW PX
                go_wp2
                go_roundw
                case rel => exact ⟨j + 1, s2, _, L7, none, 0, hlt, by go_num, HN7.out, LD7.out.trans (RKLink.put _ L7 (K := ⟨cb, rb, eb, A4, cap4⟩) (.inl rfl) 4 (.slice none 0 0)) (fun _ h => h), BD7.out.link (RKLink.put _ L7 (K := ⟨cb, rb, eb, A0, cap0⟩) (.inl rfl) 4 (.slice none 0 0)), HR1.out, rfl, by show 0 < 8; decide, by rw [HST.out.1, HA.out]; omega, by rw [HP.out]; simp, fun b off h0 => absurd h0 (by show ¬ 0 < 0; decide)⟩
                case measure => simp [intOf]; omega
              · have b9 : (e5 != 0) = true := by simp [q9]
                have PX : Hid ((s2, k2, e2) = (s5, { k5 with dead := e5 }, e5)) := by show _ = _; rw [PW.out, if_pos q9]
                obtain ⟨rfl, rfl, rfl⟩ : s2 = s5 ∧ k2 = { k5 with dead := e5 } ∧ e2 = e5 := by have := PX.out; simp only [Prod.mk.injEq] at this; exact this
                clear PW PX
                go_wp2
                go_ret
                rw [HP.out, if_pos q9]
                exact ⟨rfl, L7, A4, cap4, HD7.out, LD7.out, fun b off h0 e => .inr (AP5.out b off e)⟩
            · have d8 : ((n2 : Int) == 8) = false := by simp; omega
              have PX : Hid ((s2, k2, e2) = (s1, ⟨at2, hd ++ [z], dead1, rdy1, ent1⟩, 0)) := by show _ = _; rw [PD.out, if_neg (by rw [HN1.out, HN2.out]; exact q8), HAT2.out]
              obtain ⟨rfl, rfl, rfl⟩ : s2 = s1 ∧ k2 = ⟨at2, hd ++ [z], dead1, rdy1, ent1⟩ ∧ e2 = 0 := by have := PX.out; simp only [Prod.mk.injEq] at this; exact this
              clear PD PX
              go_wp2
              go_roundw
              case rel => exact ⟨j + 1, s2, _, L1, A4, cap4, hlt, by go_num, G3.out, L3K.out, B3.out, HR1.out, HE.out, HST.out.2.2 (by first | rfl | trivial), by rw [HST.out.1, HA.out]; omega, by rw [HP.out]; simp, fun b off h0 e => .inr (AP5.out b off e)⟩
              case measure => simp [intOf]; omega
        · obtain rfl : j = m := by omega
          rw [List.drop_of_length_le (by rw [HML.out]; exact Nat.le_refl _)] at hp
          have HP := Lib.hid hp
          clear hp
          go_wp2
          go_ret
          rw [HP.out]
          exact ⟨rfl, L1, A1, cap1, HK.out, HL.out, HAP.out⟩
  · have d1 : (k.dead != 0) = true := by simp [q1]
    rw [if_pos q1] at hp
    have HP := Lib.hid hp
    clear hp q1 h h7 hb hr
    go_enter Try.func61, Try.ntmps61
    go_wp2
    go_ret
    rw [← HP.out]
    exact ⟨rfl, L, K.A, K.cap, H.out, RKLink.quiet L K (Keeps.refl None w), AP0.out⟩
end Go.Proofs.Ytngofnlhbhfigaa
