/- The walks of the reference's cursor: Flush, NewCursor. -/
import Derived.Test.YtngofnlhbhfigaaRk3
import Derived.Test.YtngofnlhbhfigaaKc4
namespace Go.Proofs.Ytngofnlhbhfigaa
open Go.RowKit

set_option maxRecDepth 100000 in
set_option maxHeartbeats 1600000 in
theorem rkflush_any (B : Nat) (L : RL) (s : FS) (K : RKL) (q f c : Nat) (k : RS) (w : World) (h : RKAt w B L s K q f c k) (h7 : k.dead = 0 → k.held.length < 8) (ha : 0 < k.held.length → k.at_ - k.held.length < 1024 * c) (hr : Room s 264) :
    Calls Try.prog 62 #[.pointer (some ⟨K.cb, 0, none⟩)] w (RKTurn w B L K q f c (rflush f c s k)) := by
  have hal := h.al
  have hna := h.na
  have hc9 : f + c ≤ 256 := by have := h.fc; have := h.fl.n9; omega
  have H := Lib.hid h
  obtain ⟨p, hp⟩ : ∃ p, rflush f c s k = p := ⟨_, rfl⟩
  have hp' := hp
  unfold rflush at hp'
  rw [hp]
  have c0 := H.out.cell.cellD 0 _ rfl
  have c1 := H.out.cell.cellD 1 _ rfl
  have c2 := H.out.cell.cellD 2 _ rfl
  have c3 := H.out.cell.cellD 3 _ rfl
  have c4 := H.out.cell.cellD 4 _ rfl
  have c5 := H.out.cell.cellD 5 _ rfl
  have c6 := H.out.cell.cellD 6 _ rfl
  have c7 := H.out.cell.cellD 7 _ rfl
  clear hp h c0 c1 c2 c6 c7
  by_cases q1 : k.dead = 0
  · have d1 : (k.dead == 0) = true := by simp [q1]
    by_cases q2 : 0 < k.held.length
    · have d2 : decide (0 < (k.held.length : Int)) = true := decide_eq_true (by omega)
      have d3 : decide (0 < k.held.length) = true := decide_eq_true q2
      rw [if_pos ⟨q1, q2⟩] at hp'
      have hn8 := h7 q1
      have haa := ha q2
      obtain ⟨cb, rb, eb, A0, cap0⟩ := K
      obtain ⟨at1, hd, dead1, rdy1, ent1⟩ := k
      simp only [] at hp' hal hna q1 q2 c3 c4 c5 hn8 haa d1 d2 d3
      obtain ⟨n1, hn1⟩ : ∃ x, hd.length = x := ⟨_, rfl⟩
      have HN1 := Lib.hid hn1
      have LN : Hid ((hd ++ blankN ((8 - n1 : Nat) : Int)).length = 8) := by show _ = _; rw [List.length_append, hn1]; unfold blankN; rw [List.length_replicate]; omega
      have LB0 : (blankN ((8 - n1 : Nat) : Int)).length = 8 - n1 := by unfold blankN; rw [List.length_replicate]; omega
      have LB := Lib.hid LB0
      clear LB0
      have HBS := Lib.hid H.out.held
      simp only [] at HBS
      rw [hn1] at c4 hp' HBS d2 d3
      obtain ⟨ad, had⟩ : ∃ x, at1 - n1 = x := ⟨_, rfl⟩
      obtain ⟨bn, hbn⟩ : ∃ x, 8 - n1 = x := ⟨_, rfl⟩
      rw [had] at hp'
      rw [hbn] at hp' LN LB
      have i1 : IntKind.i64.wrap ((at1 : Int) - n1) = ad := by rw [show (at1 : Int) - n1 = (ad : Int) by omega]; exact wrap_nat _ (by omega)
      have i2 : IntKind.i64.wrap (8 - (n1 : Int)) = bn := by rw [show 8 - (n1 : Int) = (bn : Int) by omega]; exact wrap_nat _ (by omega)
      have hn9 : n1 < 8 := by omega
      have hbn8 : bn ≤ 8 := by omega
      have WD := Lib.hid (fun w' A4 cap4 (h' : RKAt w' B L s ⟨cb, rb, eb, A0, cap0⟩ q f c ⟨at1, hd, dead1, rdy1, ent1⟩) (hb' : RKB w' L ⟨cb, rb, eb, A0, cap0⟩ A4 8 cap4 (hd ++ blankN (bn : Int))) => rkword_any B L s ⟨cb, rb, eb, A0, cap0⟩ q f c ⟨at1, hd, dead1, rdy1, ent1⟩ ad A4 8 cap4 (hd ++ blankN (bn : Int)) w' h' hb' (by omega) (Nat.le_refl _) hr)
      have WS := Lib.hid (rword_st f c s ⟨at1, hd, dead1, rdy1, ent1⟩ ad (hd ++ blankN (bn : Int)))
      generalize rword f c s ⟨at1, hd, dead1, rdy1, ent1⟩ ad (hd ++ blankN (bn : Int)) = pw at *
      obtain ⟨s5, k5, e5⟩ := pw
      simp only [] at hp' WS
      have PW := Lib.hid hp'.symm
      have BK := Lib.hid (fun w' => rblank_any (bn : Int) w')
      have HPC := Lib.hid (show ∀ w', Keeps None w w' → w'.cell? ⟨cb, 3, none⟩ = some (.int .i64 at1) ∧ w'.cell? ⟨cb, 4, none⟩ = some (.slice A0 n1 cap0) from fun w' hk => ⟨(H.out.later hk).cell.cellD 3 _ rfl, by have := (H.out.later hk).cell.cellD 4 _ rfl; rw [HN1.out] at this; exact this⟩)
      clear hp' q1 q2 hn1 had hbn hn8 haa h7 ha hr hna
      go_enter Try.func62, Try.ntmps62
      go_wp2
      obtain ⟨mS, mh⟩ : ∃ S : World → Prop, ∀ w', S w' ↔ (w'.cell? ⟨cb, 3, none⟩ = some (.int .i64 at1) ∧ w'.cell? ⟨cb, 4, none⟩ = some (.slice A0 n1 cap0)) := ⟨_, fun _ => Iff.rfl⟩
      have mk0 : ∀ x : Memb mS, x.at_.cell? ⟨cb, 3, none⟩ = some (.int .i64 at1) := fun x => ((mh _).1 x.is).1
      have mk1 : ∀ x : Memb mS, x.at_.cell? ⟨cb, 4, none⟩ = some (.slice A0 n1 cap0) := fun x => ((mh _).1 x.is).2
      have mn : Nonempty (Memb mS) := ⟨⟨(w).drew, (mh _).2 ⟨(HPC.out _ (Keeps.refl None w).drew).1, (HPC.out _ (Keeps.refl None w).drew).2⟩⟩⟩
      have mH := Lib.hid mh
      clear mh
      refine wp_region_mix [16, 23, 24, 25, 28] (InS mS) (by kernel_rfl) (by kernel_rfl) (InS.mk ((mH.out _).2 ⟨(HPC.out _ (Keeps.refl None w).drew).1, (HPC.out _ (Keeps.refl None w).drew).2⟩)) ?_
      refine wpMix_seg 16 (by kernel_rfl) (by decide) ?_
      simp only [List.take_succ_cons, List.take_zero, List.drop_succ_cons, List.drop_zero]
      repeat (go_big_quiet_step (fail))
      refine wpQuiet_nil ?_
      refine wpMix_eff (by kernel_rfl) ?_
      go_wp2_with (at_builtin; refine wpList_append_bs (Own.nil _ w.heap.size) HBS.out.drew (by simp; omega) (Nat.le_refl _) rfl rfl rfl rfl rfl ?_; intro v2 w2 ho2 hk2)
      rw [List.nil_append] at ho2
      have K2 : Hid (Keeps None w w2) := (Keeps.refl None w).drew.trans hk2 (fun _ h => h) (fun i hi e => by simp [Value.ownBlock] at e)
      obtain ⟨A2, cap2, rfl, -, -⟩ := ho2.shape
      rw [HN1.out] at ho2 ⊢
      have O2 := Lib.hid ho2
      clear ho2 hk2
      go_wp2
      refine MixK.on (InS.mk ((mH.out _).2 (HPC.out _ K2.out))) ?_
      refine wpMix_seg 6 (by kernel_rfl) (by decide) ?_
      simp only [List.take_succ_cons, List.take_zero, List.drop_succ_cons, List.drop_zero]
      repeat (go_big_quiet_step (fail))
      refine wpQuiet_nil ?_
      refine wpMix_eff (by kernel_rfl) ?_
      go_wp2_with fail
      refine (BK.out _).mono ?_
      rintro e w3 ⟨v3, rfl, o3, k3⟩
      obtain ⟨A3, cap3, rfl, b3, -⟩ := o3.shape
      have K3 := Lib.hid (K2.out.trans k3 (T := None) (fun _ h => h) (fun _ _ h => h))
      have O3 := Lib.hid (O2.out.keeps k3 (fun _ _ h => h))
      have B3 := Lib.hid b3
      have SZ3 := Lib.hid K3.out.size
      clear K2 O2 o3 b3 k3
      go_wp2
      refine MixK.on (InS.mk ((mH.out _).2 (HPC.out _ K3.out))) ?_
      refine wpMix_eff (by kernel_rfl) ?_
      go_wp2_with (at_builtin; go_loud (refine wpList_append_bs O3.out B3.out (by rw [HN1.out, LB.out]; omega) SZ3.out rfl rfl rfl rfl rfl ?_); intro v4 w4 ho4 hk4)
      have K4 : Hid (Keeps None w w4) := K3.out.trans hk4 (fun _ h => h) (fun i hi e => (O3.out.notBelow hi e).elim)
      obtain ⟨A4, cap4, rfl, bs4, ap4⟩ := ho4.shape
      rw [LN.out] at bs4 ⊢
      have BS4 := Lib.hid bs4
      have AP4 := Lib.hid ap4
      clear ho4 hk4 bs4 ap4 K3 O3 B3 SZ3
      go_wp2
      refine MixK.on (InS.mk ((mH.out _).2 (HPC.out _ K4.out))) ?_
      refine wpMix_eff (by kernel_rfl) ?_
      have H4 := Lib.hid (H.out.later K4.out)
      go_wp2_with fail
      refine (WD.out _ A4 cap4 H4.out ⟨BS4.out, fun b off _ e => ⟨fun hO => by have := (AP4.out b off e).1; have := H.out.fl.lt b hO; omega, fun hX => by have := (AP4.out b off e).1; have := H.out.xlt b hX; omega⟩⟩).mono ?_
      rintro e w7 ⟨rfl, L7, h7, l7⟩
      have H7 := Lib.hid h7
      have L7K := Lib.hid ((RKLink.quiet L ⟨cb, rb, eb, A0, cap0⟩ K4.out).trans l7 (fun _ h => h))
      simp only [] at H7
      have y3 := H7.out.cell.cellD 3 _ rfl
      have y4 := H7.out.cell.cellD 4 _ rfl
      have y5 := H7.out.cell.cellD 5 _ rfl
      have u5 := H7.out.cell.frozen 5
      rw [WS.out.1] at y3
      rw [WS.out.2.1, HN1.out] at y4
      have Y3 := Lib.hid y3
      have Y4 := Lib.hid y4
      clear h7 l7
      go_wp2
      refine MixK.on (InS.mk ((mH.out _).2 (⟨Y3.out, Y4.out⟩))) ?_
      refine wpMix_seg 2 (by kernel_rfl) (by decide) ?_
      simp only [List.take_succ_cons, List.take_zero, List.drop_succ_cons, List.drop_zero]
      repeat (go_big_quiet_step (fail))
      refine wpQuiet_nil ?_
      refine wpMix_eff (by kernel_rfl) ?_
      go_wp2
      refine MixK.last (by kernel_rfl) ?_
      refine wpMix_nil ?_
      clear mk0 mk1 mn mH
      go_wp2
      go_ret
      rw [PW.out]
      exact ⟨rfl, L7, H7.out.putDead e5, L7K.out.trans (RKLink.put w7 L7 (K := ⟨cb, rb, eb, A0, cap0⟩) (.inl rfl) 5 (.int .i64 e5)) (fun _ h => h)⟩
    · have d2 : decide (0 < (k.held.length : Int)) = false := decide_eq_false (by omega)
      have d3 : decide (0 < k.held.length) = false := decide_eq_false q2
      rw [if_neg (fun h => q2 h.2)] at hp'
      have HP := Lib.hid hp'
      clear hp' q1 q2
      generalize k.dead = er at *
      generalize k.held.length = n at *
      go_enter Try.func62, Try.ntmps62
      go_wp2
      go_ret
      rw [← HP.out]
      exact ⟨rfl, L, H.out, RKLink.quiet L K (Keeps.refl None w)⟩
  · have d1 : (k.dead == 0) = false := by simp [q1]
    rw [if_neg (fun h => q1 h.1)] at hp'
    have HP := Lib.hid hp'
    clear hp' q1
    go_enter Try.func62, Try.ntmps62
    go_wp2
    go_ret
    rw [← HP.out]
    exact ⟨rfl, L, H.out, RKLink.quiet L K (Keeps.refl None w)⟩
end Go.Proofs.Ytngofnlhbhfigaa
