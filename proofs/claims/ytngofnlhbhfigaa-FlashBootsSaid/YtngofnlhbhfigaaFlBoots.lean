/-
  For every row of calls and every number of steps, the law FlashBoots returns true: with power again all stands as it was left, and nothing is armed. No condition.
-/
import Derived.Test.YtngofnlhbhfigaaFlPlays
import Derived.Test.YtngofnlhbhfigaaKcLaw
namespace Go.Proofs.Ytngofnlhbhfigaa
open Go.RowKit Go.ChangeShapes Go.WideShapes Go.ChangeAt Go.Deep

theorem erase_nrm {c : Nat} {s : FS} (h : Nrm c s) {r : Nat} (hr : r < c) :
    s.eraseF r = ({ s with b := splice s.b (1024 * r) (List.replicate 1024 255), er := s.er.set r (s.er.getD r 0 + 1), steps := s.steps + 1 }, 0) := by
  have h1 := gerase_nrm h hr
  unfold FS.gerase at h1
  rw [if_neg (by rw [h.dark]; decide), if_neg (by omega)] at h1
  have e : (((0 : Nat) : Int) + (r : Int)) = r := by omega
  rwa [e] at h1
/-- Behind i erasures, one by one in turn, the sectors that were erased are blank. -/
structure BootI (i : Nat) (s : FS) : Prop where
  nrm : Nrm 2 s
  bl : ∀ x, x < i → x < 2 → ∀ y, y < 1024 → s.b.getD (1024 * x + y) 0 = 255
theorem BootI.next {i : Nat} {s : FS} (h : BootI i s) : (s.eraseF ((i % 2 : Nat) : Int)).2 = 0 ∧ BootI (i + 1) (s.eraseF ((i % 2 : Nat) : Int)).1 := by
  have hr : i % 2 < 2 := Nat.mod_lt _ (by decide)
  rw [erase_nrm h.nrm hr]
  have hl : 1024 * (i % 2) + (List.replicate 1024 (255 : Int)).length ≤ s.b.length := by rw [List.length_replicate, h.nrm.bl]; omega
  refine ⟨rfl, ⟨h.nrm.dark, h.nrm.left, ?_, ?_⟩, fun x hx h2 y hy => ?_⟩
  · show (splice _ _ _).length = _; rw [splice_len _ _ _ hl]; exact h.nrm.bl
  · show (s.er.set _ _).length = 2; rw [List.length_set]; exact h.nrm.el
  · show (splice s.b (1024 * (i % 2)) (List.replicate 1024 255)).getD (1024 * x + y) 0 = 255
    rw [splice_getD _ _ _ hl, List.length_replicate]
    split
    · exact rep_getD _ _ (by omega)
    · exact h.bl x (by omega) h2 y hy
theorem BootI.all {s : FS} (h : BootI 20 s) : blankB (s.peekF 0 2048) = true := by
  have hb := h.nrm.bl
  have e : s.peekF 0 2048 = s.b := by
    have := peek_eq (s := s) (a := 0) (n := 2048) (X := s.b) (by omega) (by omega) (fun i _ => by rw [Nat.zero_add])
    exact this
  rw [e]
  unfold blankB
  refine decide_eq_true fun i hi => ?_
  rw [hb] at hi
  have := h.bl (i / 1024) (by omega) (by omega) (i % 1024) (Nat.mod_lt _ (by decide))
  rwa [show 1024 * (i / 1024) + i % 1024 = i by omega] at this
theorem boot_start {s : FS} (hb : s.b.length = 2048) (he : s.er.length = 2) : BootI 0 s.bootF := ⟨⟨rfl, (show (-1 : Int) < 0 by decide), hb, he⟩, fun x hx => absurd hx (Nat.not_lt_zero x)⟩
set_option maxRecDepth 100000 in
set_option maxHeartbeats 3200000 in
theorem boots2_any (after : Int) (A : Option Addr) (m cap : Nat) (xs : List Value) (F : Nat → Ac) (W : World) (h : ActsAt W A m cap xs F) :
    Calls Try.prog 7 #[.slice A m cap, .int .i64 after] W fun e w' => e = .returned (.bool true) ∧ Below W.heap.size W w' := by
  have FEW := Lib.hid (fun w hk => few2_any A m cap xs F W w h hk)
  have m1 := h.sl.2.1
  have m2 := h.sl.2.2.1
  cases hfw : fewB m F with
  | false =>
    rw [hfw] at FEW
    clear hfw h
    go_enter Try.func7, Try.ntmps7
    go_wp2_with fail
    refine (alive2_any W).mono ?_
    rintro e w1 ⟨rfl, K1⟩
    go_wp2_with fail
    refine (FEW.out _ K1).mono ?_
    rintro e w' ⟨rfl, rfl⟩
    go_wp2
    go_ret
    exact ⟨rfl, K1.below (fun _ _ h => h)⟩
  | true =>
  rw [hfw] at FEW
  obtain ⟨f1a, f1b⟩ := fewB_yes hfw
  have FB := Lib.hid f1b
  clear hfw f1b
  by_cases g1 : 1000 < after
  · have d1 : decide (1000 < after) = true := decide_eq_true g1
    clear h
    go_enter Try.func7, Try.ntmps7
    go_wp2_with fail
    refine (alive2_any W).mono ?_
    rintro e w1 ⟨rfl, K1⟩
    go_wp2_with fail
    refine (FEW.out _ K1).mono ?_
    rintro e w' ⟨rfl, rfl⟩
    go_wp2
    go_ret
    exact ⟨rfl, K1.below (fun _ _ h => h)⟩
  have d1 : decide (1000 < after) = false := decide_eq_false g1
  have HAC := Lib.hid h
  have RM := Lib.hid (newF_roomK 2)
  have EL0 : Hid ((newF 2).er.length = 2) := rfl
  have NW := Lib.hid (fun w (hk : Keeps None W w) => lnew hk 2)
  have NR := Lib.hid (fun w => rfnew_any 2 w)
  have MK := Lib.hid (fun (w1 w2 w3 : World) q L Lr hf h1 hg h3 => FR.made (W := W) (w1 := w1) (w2 := w2) (w3 := w3) (q := q) (L := L) (Lr := Lr) (k := 2) hf h1 hg h3)
  unfold RMade at NR
  generalize newF 2 = f0 at *
  clear h
  go_enter Try.func7, Try.ntmps7
  go_wp2_with fail
  refine (alive2_any W).mono ?_
  rintro e w1 ⟨rfl, K1⟩
  go_wp2_with fail
  refine (FEW.out _ K1).mono ?_
  rintro e w' ⟨rfl, rfl⟩
  have HK1 := Lib.hid K1
  clear K1
  go_wp2_with fail
  refine (NW.out _ HK1.out).mono ?_
  rintro e w2 ⟨q, L, rfl, hF⟩
  have HF := Lib.hid hF
  clear hF NW
  go_wp2_with fail
  refine (NR.out _).mono ?_
  rintro e w3 ⟨Lr, rfl, hg, -, k3⟩
  have H3 := Lib.hid (MK.out w1 w2 w3 q L Lr HF.out HF.out.keeps hg k3)
  clear hg k3 HF MK NR
  generalize Lr.bf = qr at *
  generalize w1.heap.size = B0 at *
  generalize w2.heap.size = B1 at *
  go_wp2
  go_loopw [8] (fun iv wr => ∃ (j : Nat) (s : FS) (L : FL) (r : FS) (Lr : RL), j ≤ m ∧ iv = .int .i64 j ∧ FR W wr B0 q L s B1 qr Lr r ∧ Sim s r ∧ Room s ((m - j) * 1101 + 100000) ∧ s.er.length = 2) (fun iv _ => m - (intOf iv).toNat)
  case atStart => exact ⟨0, f0, L, f0, Lr, Nat.zero_le _, rfl, H3.out, Sim.self f0, RM.out.less (by omega), EL0.out⟩
  case round =>
    obtain ⟨j, s, L, r, Lr, hj, rfl, hF, hS, hR, hE⟩ := hrel
    have HF := Lib.hid hF
    have HS := Lib.hid hS
    have HR := Lib.hid hR
    have HE := Lib.hid hE
    clear hF hS hR hE H3 RM
    by_cases hlt : j < m
    · obtain ⟨b, off, rfl, y0, y1, y2, y3, -⟩ := HAC.out.cells HF.out.keeps hlt
      have DO := Lib.hid (fun w' (hw : FR W w' B0 q L s B1 qr Lr r) => do2_any hw HS.out ((m - (j + 1)) * 1101 + 100000) (HR.out.less (by omega)) (F j).k (F j).a (F j).n (F j).A (F j).l (F j).c (F j).zs (HAC.out.at_ j hlt).b (FB.out j hlt) (HAC.out.at_ j hlt).nb)
      rw [HE.out] at DO
      generalize (F j).k = fk at *
      generalize (F j).a = fa at *
      generalize (F j).n = fn at *
      generalize (F j).A = fA at *
      generalize (F j).l = fl at *
      generalize (F j).c = fc at *
      go_wp2_with fail
      refine (DO.out _ HF.out).mono ?_
      rintro e w4 ⟨rfl, L4, s4, Lr4, r4, h4, i4, rm4, el4⟩
      have H4 := Lib.hid h4
      have S4 := Lib.hid i4
      have R4 := Lib.hid rm4
      have E4 := Lib.hid el4
      clear h4 i4 rm4 el4
      go_wp2
      go_roundw
      case rel => exact ⟨j + 1, s4, L4, r4, Lr4, hlt, by go_num, H4.out, S4.out, R4.out, E4.out⟩
      case measure => simp [intOf]; omega
    · obtain rfl : j = m := by omega
      have hbl : s.b.length = 2048 := by rw [HF.out.f.at_.bl, HF.out.f.at_.nN, ← HF.out.f.at_.el, HE.out]
      have PK : Hid (s.peekF 0 2048 = s.b) := by
        have := peek_eq (s := s) (a := 0) (n := 2048) (X := s.b) (by omega) hbl (fun i _ => by rw [Nat.zero_add])
        exact this
      have HL0 : Hid (LF W wr B0 q L s) := HF.out.f
      have ab : (s.armF after []).b = s.b := by unfold FS.armF; split <;> rfl
      have ae : (s.armF after []).er = s.er := by unfold FS.armF; split <;> rfl
      have BI := Lib.hid (boot_start (s := s.armF after []) (by rw [ab]; exact hbl) (by rw [ae]; exact HE.out))
      have RB : Hid (Room (s.armF after []).bootF 50000) := ((HR.out.less (show 50000 + 1101 + 1101 ≤ _ by omega)).armF after []).bootF
      have PB : Hid ((s.armF after []).bootF.peekF 0 2048 = s.b) := by
        have := peek_eq (s := (s.armF after []).bootF) (a := 0) (n := 2048) (X := s.b) (by show 0 + 2048 ≤ (s.armF after []).b.length; rw [ab]; omega) hbl (fun i _ => by rw [Nat.zero_add]; show (s.armF after []).b.getD i 0 = _; rw [ab])
        exact this
      have HBL := Lib.hid hbl
      clear hbl ab ae HF HR HS HE
      go_wp2_with fail
      refine (lpeek HL0.out 0 2048).mono ?_
      rw [PK.out]
      rintro e w4 ⟨v4, rfl, o4, k4⟩
      obtain ⟨A4, c4, rfl, b4⟩ := slice_of_own o4
      rw [HBL.out] at b4 ⊢
      have H4 := Lib.hid (HL0.out.later k4)
      have o4' := o4
      have LB4 := Lib.hid (Lb.new (n := 2048) HL0.out.at_ (by rw [HBL.out] at o4; exact o4))
      clear o4 k4 b4 o4' HL0
      go_wp2_with fail
      refine (larm H4.out (bsNil _) (by decide) after (by omega)).mono ?_
      rintro e w5 ⟨rfl, L5, h5, t5⟩
      have H5 := Lib.hid h5
      have LB5 := Lib.hid (LB4.out.turn t5)
      clear h5 t5 LB4 H4
      go_wp2_with fail
      refine (lboot H5.out).mono ?_
      rintro e w6 ⟨rfl, L6, h6, t6⟩
      have H6 := Lib.hid h6
      have B6 := Lib.hid (LB5.out.turn t6).bs
      have OF : Hid (∀ w', LF W w' B0 q L6 (s.armF after []).bootF → Calls Try.prog 33 #[.pointer (some ⟨q, 0, none⟩)] w' (Same (.bool false) w')) := fun w' h' => loff h'
      clear h6 t6 LB5 H5
      generalize (s.armF after []).bootF = s6 at *
      obtain ⟨sz, hsz⟩ : ∃ sz, strOf s.b = sz := ⟨_, rfl⟩
      have HSZ := Lib.hid hsz
      have qz : (sz.toList == sz.toList) = true := by simp
      clear hsz
      go_wp2
      obtain ⟨m3S, m3h⟩ : ∃ S : World → Prop, ∀ w', S w' ↔ (((convert 22 9 (.slice A4 2048 c4)).run Try.prog w' = .ok (.string sz) w')) := ⟨_, fun _ => Iff.rfl⟩
      have m3k0 : ∀ x : Memb m3S, (convert 22 9 (.slice A4 2048 c4)).run Try.prog x.at_ = .ok (.string sz) x.at_ := fun x => ((m3h _).1 x.is)
      have m3n : Nonempty (Memb m3S) := ⟨⟨(w6).drew, (m3h _).2 ((HSZ.out ▸ run_str B6.out.drew))⟩⟩
      have m3H := Lib.hid m3h
      clear m3h
      refine wp_region_mix [1, 4, 5] (InS m3S) (by kernel_rfl) (by kernel_rfl) (InS.mk ((m3H.out _).2 ((HSZ.out ▸ run_str B6.out.drew)))) ?_
      refine wpMix_seg 1 (by kernel_rfl) (by decide) ?_
      simp only [List.take_succ_cons, List.take_zero, List.drop_succ_cons, List.drop_zero]
      repeat (first | go_big_quiet_step (fail) | (go_big_quiet_want; first | refine quiet_conv m3k0 rfl rfl rfl (by simp only [Act.put, List.setIfInBounds_toArray, List.set_cons_succ, List.set_cons_zero]; rfl) ?_; go_big_quiet_on))
      refine wpQuiet_nil ?_
      refine wpMix_eff (by kernel_rfl) ?_
      go_wp2_with fail
      refine (OF.out _ H6.out.drew).mono ?_
      rintro e w' ⟨rfl, rfl⟩
      go_wp2
      refine MixK.on (InS.mk ((m3H.out _).2 ((HSZ.out ▸ run_str B6.out.drew)))) ?_
      refine wpMix_seg 2 (by kernel_rfl) (by decide) ?_
      simp only [List.take_succ_cons, List.take_zero, List.drop_succ_cons, List.drop_zero]
      repeat (first | go_big_quiet_step (fail) | (go_big_quiet_want; first | refine quiet_conv m3k0 rfl rfl rfl (by simp only [Act.put, List.setIfInBounds_toArray, List.set_cons_succ, List.set_cons_zero]; rfl) ?_; go_big_quiet_on))
      refine wpQuiet_nil ?_
      refine wpMix_eff (by kernel_rfl) ?_
      go_wp2_with fail
      refine (lpeek H6.out.drew 0 2048).mono ?_
      rw [PB.out]
      rintro e w7 ⟨v7, rfl, o7, k7⟩
      obtain ⟨A7, c7, rfl, b7⟩ := slice_of_own o7
      rw [HBL.out] at b7 ⊢
      have H7 := Lib.hid (H6.out.drew.later k7)
      have B7 := Lib.hid (B6.out.drew.keeps k7 (fun _ _ _ _ _ h => h))
      have sd := run_str b7
      rw [HSZ.out] at sd
      clear o7 b7 k7
      go_wp2
      refine MixK.on (InS.mk ((m3H.out _).2 ((HSZ.out ▸ run_str B7.out)))) ?_
      refine wpMix_eff (by kernel_rfl) ?_
      go_wp2
      refine MixK.on (InS.mk ((m3H.out _).2 ((HSZ.out ▸ run_str B7.out)))) ?_
      refine wpMix_seg 4 (by kernel_rfl) (by decide) ?_
      simp only [List.take_succ_cons, List.take_zero, List.drop_succ_cons, List.drop_zero]
      repeat (first | go_big_quiet_step (fail) | (go_big_quiet_want; first | refine quiet_conv m3k0 rfl rfl rfl (by simp only [Act.put, List.setIfInBounds_toArray, List.set_cons_succ, List.set_cons_zero]; rfl) ?_; go_big_quiet_on))
      refine wpQuiet_nil ?_
      refine wpMix_nil ?_
      clear m3k0 m3n m3H
      clear B6 B7 H6
      go_wp2
      go_loopw [10] (fun iv wr => ∃ (i : Nat) (s1 : FS) (L1 : FL), i ≤ 20 ∧ iv = .int .i64 i ∧ LF W wr B0 q L1 s1 ∧ BootI i s1 ∧ Room s1 ((20 - i) * 1101)) (fun iv _ => 20 - (intOf iv).toNat)
      case atStart => exact ⟨0, s6, L6, Nat.zero_le _, rfl, H7.out, BI.out, RB.out.less (by decide)⟩
      case round =>
        obtain ⟨i, s1, L1, hi, rfl, h1, b1, r1⟩ := hrel
        have H1 := Lib.hid h1
        have I1 := Lib.hid b1
        have R1 := Lib.hid r1
        clear h1 b1 r1 H7
        by_cases hit : i < 20
        · have nx := I1.out.next
          have rn : Room (s1.eraseF ((i % 2 : Nat) : Int)).1 ((20 - (i + 1)) * 1101) := (R1.out.less (by omega)).eraseF _
          obtain ⟨i2, hi2⟩ : ∃ x, i % 2 = x := ⟨_, rfl⟩
          have w2 : ((i : Int) % 2) = i2 := by omega
          have ER := Lib.hid (lerase H1.out (i2 : Int) (by have := R1.out.st; omega) (fun x => by have := R1.out.er x; omega))
          rw [hi2] at nx rn
          generalize s1.eraseF (i2 : Int) = p at *
          obtain ⟨s2, e2⟩ := p
          obtain ⟨ne, nb⟩ := nx
          simp only [] at ne nb rn
          subst ne
          have NB := Lib.hid nb
          have RN := Lib.hid rn
          clear nb rn hi2
          go_wp2_with fail
          refine ER.out.mono ?_
          rintro e w9 ⟨rfl, L9, h9, -⟩
          have H9 := Lib.hid h9
          simp only [] at H9
          clear h9
          go_wp2_with fail
          refine (num2_any _ _).mono ?_
          rintro e w' ⟨rfl, rfl⟩
          go_wp2
          go_roundw
          case rel => exact ⟨i + 1, s2, L9, hit, by go_num, H9.out, NB.out, RN.out⟩
          case measure => simp [intOf]; omega
        · obtain rfl : i = 20 := by omega
          have AL := Lib.hid I1.out.all
          go_wp2_with fail
          refine (lpeek H1.out 0 2048).mono ?_
          rintro e w9 ⟨v9, rfl, o9, k9⟩
          obtain ⟨A9, c9, rfl, b9⟩ := slice_of_own o9
          have IB := Lib.hid (isBlank_any _ _ _ _ _ b9)
          rw [AL.out] at IB
          have K9 := Lib.hid (H1.out.later k9).keeps
          clear o9 b9 k9
          go_wp2_with fail
          refine IB.out.mono ?_
          rintro e w' ⟨rfl, rfl⟩
          go_wp2
          go_ret
          exact ⟨rfl, K9.out.below (fun _ _ h => h)⟩
theorem boots2_all (after : Int) (A : Option Addr) (m cap : Nat) (xs : List Value) (W : World) (hs : IsSl W A m cap 4 xs) (h : ∀ i, i < m → ∃ c, ActAt W xs i c) :
    Calls Try.prog 7 #[.slice A m cap, .int .i64 after] W fun e w' => e = .returned (.bool true) ∧ Below W.heap.size W w' := by
  obtain ⟨F, hF⟩ := acts_of hs h
  exact boots2_any after A m cap xs F W hF
set_option maxRecDepth 100000 in
theorem FlashBoots_lifted (os : Os) (started : os.Started) (H : Type) (enc : TypeId × Value → H) :
    ReturnsInHanded {} Try.checked os 7 .any (Rows.flashBootsSpec.pre6 enc Try.prog Try.f7 Rows.flashBootsRow.domain false) (Rows.flashBootsSpec.post enc Try.prog Try.f7 false true false false) := by
  refine returnsInHanded_of_change (C := Try.checked) Try.own started (by kernel_rfl) Try.func7
    (ChangeSpec.witness6 (enc := enc) (C := Try.checked) false ⟨#[], #[.slice none 0 0, .int .i64 0], []⟩ 8 (by kernel_rfl) (by kernel_rfl) (by kernel_rfl) (by kernel_rfl)) ?_
  intro W base args ds gs before hval0 hW hcnd _
  have hval : ∀ (j : Nat) t v, Try.f7.params[j]? = some t → args[j]? = some v → Value.okWide Try.prog W .any base t v := hval0
  have hW' := hW
  obtain ⟨p, q, hA0, hV, rfl, hfz, hnd⟩ := hW
  have hA : DataW.TrodAll enc Try.prog W 0 (fun _ => true) true Try.f7.params.toList args.toList ds p := hA0
  rw [Try.params7] at hA hval
  obtain ⟨v0, vs0, d0, ds0, p0, q0, hargs, rfl, rfl, h0, r0⟩ := trodAll_cons hA
  obtain ⟨v1, vs1, d1, ds1, p1, q1, rfl, rfl, rfl, h1, r1⟩ := trodAll_cons r0
  obtain ⟨rfl, rfl, rfl⟩ := trodAll_nil r1
  obtain rfl : args = #[v0, v1] := by cases args; simp_all
  obtain ⟨rfl, rfl⟩ := trodVars_none hV
  have k0 := h0
  have lt0 : ∀ x ∈ p0, x.block < W.heap.size := by obtain ⟨m, hm⟩ := k0; exact DataW.trod_lt m _ _ _ hm
  obtain ⟨a0, len0, cap0, rfl⟩ := okWide_slice Try.underlying42 (hval 0 42 v0 rfl rfl)
  obtain ⟨z0, s0, f0⟩ := open_structs' Try.underlying42 Try.underlying48 (by kernel_rfl) (by kernel_rfl) (by decide) h0
  have k1 := h1
  have lt1 : ∀ x ∈ p1, x.block < W.heap.size := by obtain ⟨m, hm⟩ := k1; exact DataW.trod_lt m _ _ _ hm
  obtain ⟨a1, rfl, rfl, rfl, w1⟩ := open_int Try.underlying3 (hval 1 3 v1 rfl rfl) h1
  clear hA0 hval0
  refine (boots2_all a1 a0 len0 cap0 z0 W s0 (fun i hi => by obtain ⟨y0, e0, _⟩ := fld_int f0 (j := 0) rfl Try.underlying3 hi; obtain ⟨y1, e1, _⟩ := fld_int f0 (j := 1) rfl Try.underlying3 hi; obtain ⟨y2, e2, w2⟩ := fld_int f0 (j := 2) rfl Try.underlying3 hi; obtain ⟨A, l, c, zs, e3, hb⟩ := fld_bytes f0 (j := 3) rfl rfl hi; exact ⟨⟨y0, y1, y2, A, l, c, zs⟩, e0, e1, e2, e3, hb, (wf_i64_bd w2).2⟩)).mono fun e W' ⟨he, bel⟩ => ?_
  subst he
  exact ⟨_, rfl, _, _, _, [], _, [], hW', trodAll_mk1 (shut_bool Try.underlying4 _), (trodAll_cons_mk (Below.trod Try.laidOut (by kernel_rfl) (of_decide_eq_true (by kernel_rfl)) k0 bel lt0) (trodAll_cons_mk (Below.trod Try.laidOut (by kernel_rfl) (of_decide_eq_true (by kernel_rfl)) k1 bel lt1) trodAll_mk0)), rfl, bel.frame _, fun h => by cases h⟩

set_option maxRecDepth 100000 in
theorem FlashBoots_closed : joinedFacts Try.checked.prog 7 Try.f7 Rows.flashBootsSpec Rows.flashBootsRow = true := by
  unfold joinedFacts
  rw [closed_laid, closed_maps, closed_heard, closed_plain, closed_mayEnter, closed_lifts, closed_make]
  kernel_rfl

theorem FlashBoots_holds : Rows.FlashBootsSaid :=
  OpenClaim.holds_of_wide 7 Try.f7 rfl rfl rfl rfl rfl rfl rfl ⟨rfl, rfl, rfl, rfl, rfl⟩ rfl rfl rfl rfl rfl (by kernel_rfl) Try.func7 FlashBoots_closed
    (of_decide_eq_true (by kernel_rfl)) (by unfold Func.isWrapper; first | (rw [if_pos (by decide +kernel)]; kernel_rfl) | (rw [if_neg (by decide +kernel)]; exact ⟨rfl, rfl⟩))
    (fun os started H enc _ => FlashBoots_lifted os started H enc)
#print axioms FlashBoots_holds
end Go.Proofs.Ytngofnlhbhfigaa
