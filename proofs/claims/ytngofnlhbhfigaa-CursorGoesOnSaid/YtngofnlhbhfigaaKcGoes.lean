/-
  For every filling, row of bytes and cut, the law CursorGoesOn returns true: another cursor that begins where one was Flushed goes on alike. No condition.
-/
import Derived.Test.YtngofnlhbhfigaaKcOnce
namespace Go.Proofs.Ytngofnlhbhfigaa
open Go.RowKit Go.ChangeShapes Go.WideShapes Go.ChangeAt

theorem held_cut {s5 : FS} {k5 : KS} {cut m : Nat} {zs : List Int} (hl : zs.length = m) (hcm : cut ≤ m) {c : Nat} {ok : Nat → Int → Prop} {b0 er0 : Nat → Int} {r0 u : Nat} (h : KInv c ok (fun i => zs.getD i 0) b0 er0 r0 s5 k5 u) (ha : k5.at_ = cut) {lo : Nat} (hlo : cut - cut % 8 = lo) :
    k5.word.take k5.n = (zs.drop lo).take (cut - lo) := by
  have hn := h.n
  rw [h.held, ha]
  rw [ha] at hn
  refine List.ext_getElem (by rw [List.length_map, List.length_range, List.length_take, List.length_drop, hl]; omega) fun i h1 h2 => ?_
  rw [List.length_map, List.length_range] at h1
  have e : ((zs.drop lo).take (cut - lo)).getD i 0 = zs.getD (lo + i) 0 := cut_getD _ _ _ _ (by omega)
  rw [getD_get 0 h2] at e
  rw [e]
  simp only [List.getElem_map, List.getElem_range]
  congr 1; omega

theorem Bs.dropAll0 {w : World} {b off m : Nat} {zs : List Int} (h : Bs w (some ⟨b, off, none⟩) m m zs) : Bs w (some ⟨b, off, none⟩) 0 0 (zs.drop m) := by
  rw [List.drop_of_length_le (by rw [h.len]; exact Nat.le_refl _)]
  exact Bs.empty w _ 0 (by decide)
theorem Bs.dropAll1 {w : World} {b off m : Nat} {zs : List Int} (h : Bs w (some ⟨b, off, none⟩) m m zs) : Bs w (some ⟨b, off, none⟩) 0 0 ((zs.drop m).take (m - m)) := by
  rw [Nat.sub_self, List.take_zero]
  exact Bs.empty w _ 0 (by decide)
theorem Bs.zero1 {w : World} {A : Option Addr} {cap : Nat} {zs : List Int} (h : Bs w A 0 cap zs) : Bs w A 0 cap ((zs.drop 0).take (0 - 0)) := by
  have e : zs = [] := List.eq_nil_of_length_eq_zero h.len
  subst e
  exact h
set_option maxRecDepth 100000 in
set_option maxHeartbeats 3200000 in
theorem goes4_any (A0 A : Option Addr) (m0 c0 m cap : Nat) (zs0 zs : List Int) (cut : Int) (W : World) (h0 : Bs W A0 m0 c0 zs0) (h1 : Bs W A m cap zs) :
    Calls Try.prog 13 #[.slice A0 m0 c0, .slice A m cap, .int .i64 cut] W fun e w' => e = .returned (.bool true) ∧ Below W.heap.size W w' := by
  have l0 := h0.le
  have m9 := h0.max
  have l1 := h1.le
  have m1 := h1.max
  by_cases g1 : 300 < m0
  · have d1 : decide (300 < (m0 : Int)) = true := decide_eq_true (by omega)
    clear h0 h1
    go_enter Try.func13, Try.ntmps13
    go_wp2_with fail
    refine (alive4_any W).mono ?_
    rintro e w1 ⟨rfl, K1⟩
    go_wp2
    go_ret
    exact ⟨rfl, K1.below (fun _ _ h => h)⟩
  have d1 : decide (300 < (m0 : Int)) = false := decide_eq_false (by omega)
  by_cases g2 : 4096 < m
  · have d2 : decide (4096 < (m : Int)) = true := decide_eq_true (by omega)
    clear h0 h1
    go_enter Try.func13, Try.ntmps13
    go_wp2_with fail
    refine (alive4_any W).mono ?_
    rintro e w1 ⟨rfl, K1⟩
    go_wp2
    go_ret
    exact ⟨rfl, K1.below (fun _ _ h => h)⟩
  have d2 : decide (4096 < (m : Int)) = false := decide_eq_false (by omega)
  by_cases g3 : cut < 0
  · have d3 : decide (cut < 0) = true := decide_eq_true g3
    clear h0 h1
    go_enter Try.func13, Try.ntmps13
    go_wp2_with fail
    refine (alive4_any W).mono ?_
    rintro e w1 ⟨rfl, K1⟩
    go_wp2
    go_ret
    exact ⟨rfl, K1.below (fun _ _ h => h)⟩
  have d3 : decide (cut < 0) = false := decide_eq_false g3
  by_cases g4 : (m : Int) < cut
  · have d4 : decide ((m : Int) < cut) = true := decide_eq_true g4
    clear h0 h1
    go_enter Try.func13, Try.ntmps13
    go_wp2_with fail
    refine (alive4_any W).mono ?_
    rintro e w1 ⟨rfl, K1⟩
    go_wp2
    go_ret
    exact ⟨rfl, K1.below (fun _ _ h => h)⟩
  have d4 : decide ((m : Int) < cut) = false := decide_eq_false g4
  obtain ⟨cut, rfl⟩ : ∃ x : Nat, cut = x := ⟨cut.toNat, by omega⟩
  have hcm : cut ≤ m := by omega
  have N2 := Lib.hid num4_any
  have FI := Lib.hid (fun w hk => filled4_any A0 m0 c0 zs0 W w hk h0 (by omega))
  have HB := Lib.hid h1
  obtain ⟨c8, hc8⟩ : ∃ x, cut / 8 = x := ⟨_, rfl⟩
  obtain ⟨lo, hlo⟩ : ∃ x, c8 * 8 = x := ⟨_, rfl⟩
  have i1 : ((cut : Int) / 8) = c8 := by omega
  have j1 : IntKind.i64.wrap ((c8 : Int) * 8) = lo := by rw [show (c8 : Int) * 8 = (lo : Int) by omega]; exact wrap_nat _ (by omega)
  have hloc : lo ≤ cut := by omega
  have HLO : Hid (cut - cut % 8 = lo) := by show _ = _; omega
  have hcc : cut ≤ cap := by omega
  clear h0 hc8 hlo
  by_cases hm : 0 < m
  · obtain ⟨b, off, rfl, -, -⟩ := h1.at_ hm
    by_cases hc : cap = cut
    · obtain rfl : m = cut := by omega
      subst hc
      by_cases hl : lo = cap
      · subst hl
        clear h1
        -- .slice (some ⟨b, off, none⟩) 0 0 b[lo:cut], 0 how many bytes are left, Bs.dropAll0 HB.out Bs of b[cut:] at W, Bs.dropAll1 HB.out Bs of b[lo:cut] at W, .slice (some ⟨b, off, none⟩) lo lo b, lo the cut, lo b's length, lo the cut's word
        have SC := Lib.hid (Bs.dropAll1 HB.out)
        have SE := Lib.hid (Bs.dropAll0 HB.out)
        obtain ⟨hs, hhs⟩ : ∃ hs, (zs.drop lo).take (lo - lo) = hs := ⟨_, rfl⟩
        have LH : Hid (hs.length = 0) := by show _ = _; rw [← hhs, List.length_take, List.length_drop, HB.out.len]; omega
        rw [hhs] at SC
        have HHS := Lib.hid hhs
        clear hhs
        go_enter Try.func13, Try.ntmps13
        go_wp2_with fail
        refine (alive4_any W).mono ?_
        rintro e w1 ⟨rfl, K1⟩
        have HK1 := Lib.hid K1
        clear K1
        go_wp2_with fail
        refine (FI.out _ HK1.out).mono ?_
        rintro e w2 ⟨q, L, s, rfl, hF, hS⟩
        have HF := Lib.hid hF
        have hI := start_inv hS.nrm (a := 0) (by decide) okB (fun i => zs.getD i 0) (fun i hi => absurd hi (Nat.not_lt_zero i)) (fun i _ hi => absurd hi (by omega))
        have HI := Lib.hid hI
        have PS := Lib.hid (start_new hS.nrm 0 (by decide))
        have RM := Lib.hid hS.room
        have EL := Lib.hid hS.nrm.el
        have AT : Hid ((k0 s 0).at_ = 0) := rfl
        generalize k0 s 0 = kk at *
        clear hF FI hI hS
        go_wp2_with fail
        refine (lgof HF.out 0 4).mono ?_
        rw [EL.out]
        rintro e w3 ⟨rfl, k3⟩
        rw [ofF_yes (show someB 0 4 ((4 : Nat) : Int) = true from rfl), Int.zero_add]
        have H3 := Lib.hid ((HF.out.later k3).alloc (.cells #[.pointer (some ⟨q, 0, none⟩), .int .i64 0, .int .i64 4] 27))
        have R3 := Lib.hid (Blk.new w3 [.pointer (some ⟨q, 0, none⟩), .int .i64 0, .int .i64 4] 27)
        have NB3 : Hid (¬ L.O w3.heap.size) := fun hO => by have := (HF.out.later k3).at_.lt _ hO; omega
        have SZ3 : Hid (w3.heap.size < (w3.alloc (.cells #[.pointer (some ⟨q, 0, none⟩), .int .i64 0, .int .i64 4] 27)).heap.size) := by show w3.heap.size < _; simp
        clear k3 HF
        go_wp2_with fail
        refine (lknew (f := 0) (c := 4) H3.out (by rw [EL.out]; decide) ((0 : Nat) : Int)).mono ?_
        rw [PS.out]
        rintro e w4 ⟨cb, rfl, h4, c4, k4⟩
        have H4 := Lib.hid h4
        have R4 := Lib.hid (k4.blk R3.out (fun h => h))
        have CB4 : Hid (w3.heap.size ≠ cb) := fun e => by have := SZ3.out; omega
        generalize w3.heap.size = rb at *
        clear h4 H3 R3 SZ3 c4 k4
        go_wp2_with fail
        refine (N2.out _ _).mono ?_
        rintro e w' ⟨rfl, rfl⟩
        go_wp2_with fail
        refine (write4_nrm (N := lo) (zs := zs.take lo) (ps := []) (fb := []) (fun i => byte_getD HB.out.byte i) okB_255 (okB_can (fun i => byte_getD HB.out.byte i)) H4.out HI.out (KB.arg (HB.out.take hcm) H4.out) (fun i hi => by rw [AT.out, Nat.zero_add, take_getD2 _ _ _ hi]) (by rw [AT.out, Nat.zero_add]) (by omega) (by decide) IsSl.none rfl (by decide) IsSl.none rfl (by decide) (fun n i z _ h1 h2 => okB_fl i z h1 h2) 10000000 (RM.out.less (by omega))).mono ?_
        rintro e w5 ⟨rfl, L5, s5, k5, h5, l5, i5, a5, r5⟩
        have H5 := Lib.hid h5
        have R5 := Lib.hid (l5.keeps.blk R4.out (fun h => h.elim NB3.out CB4.out))
        have hN5 := i5.core.nrm
        have hur := i5.core.ur
        have hI6 := start_inv hN5 (a := lo) (by omega) okB (fun i => zs.getD i 0) (fun i hi => i5.core.low i hi) (fun i h1 h2 => i5.core.mid i h1 (by omega))
        have PS6 := Lib.hid (start_new hN5 lo (by omega))
        have hh := held_cut (lo := lo) HB.out.len hcm hI6 rfl (by have := HLO.out; omega)
        rw [HHS.out] at hh
        have HH := Lib.hid hh
        have HI6 := Lib.hid hI6
        have RM6 := Lib.hid r5
        have EL6 := Lib.hid hN5.el
        have AT6 : Hid ((k0 s5 lo).at_ = lo) := rfl
        generalize k0 s5 lo = kk6 at *
        clear h5 l5 i5 a5 r5 hN5 hur hI6 hh H4 R4 HI PS RM AT NB3 CB4
        have x0 := R5.out.cellD 0 _ rfl
        have x1 := R5.out.cellD 1 _ rfl
        have x2 := R5.out.cellD 2 _ rfl
        go_wp2_with fail
        refine (lknew (f := 0) (c := 4) H5.out.lf (by rw [EL6.out]; decide) lo).mono ?_
        rw [PS6.out]
        rintro e w6 ⟨cb6, rfl, h6, -, -⟩
        have H6 := Lib.hid h6
        clear h6 H5 R5 x0 x1 x2
        obtain ⟨sh, hsh⟩ : ∃ sh, strOf hs = sh := ⟨_, rfl⟩
        have HSH := Lib.hid hsh
        have qh : (sh.toList == sh.toList) = true := by simp
        obtain ⟨sb, hsb⟩ : ∃ sb, strOf zs = sb := ⟨_, rfl⟩
        have HSB := Lib.hid hsb
        have qb : (sb.toList == sb.toList) = true := by simp
        have CV := Lib.hid (fun w' (hk : Keeps None W w') => show (convert 22 9 (.slice (some ⟨b, off, none⟩) 0 0)).run Try.prog w' = .ok (.string sh) w' from HSH.out ▸ run_str (SC.out.keeps hk (fun _ _ _ _ _ h => h)))
        have CB := Lib.hid (fun w' (hk : Keeps None W w') => show (convert 22 9 (.slice (some ⟨b, off, none⟩) lo lo)).run Try.prog w' = .ok (.string sb) w' from HSB.out ▸ run_str (HB.out.keeps hk (fun _ _ _ _ _ h => h)))
        clear hsh hsb
        go_wp2
        obtain ⟨mS, mh⟩ : ∃ S : World → Prop, ∀ w', S w' ↔ (((convert 22 9 (.slice (some ⟨b, off, none⟩) 0 0)).run Try.prog w' = .ok (.string sh) w')) := ⟨_, fun _ => Iff.rfl⟩
        have mk0 : ∀ x : Memb mS, (convert 22 9 (.slice (some ⟨b, off, none⟩) 0 0)).run Try.prog x.at_ = .ok (.string sh) x.at_ := fun x => ((mh _).1 x.is)
        have mn : Nonempty (Memb mS) := ⟨⟨(w6).drew, (mh _).2 (CV.out _ H6.out.keeps.drew)⟩⟩
        have mH := Lib.hid mh
        clear mh
        refine wp_region_mix [1, 9, 10, 25] (InS mS) (by kernel_rfl) (by kernel_rfl) (InS.mk ((mH.out _).2 (CV.out _ H6.out.keeps.drew))) ?_
        refine wpMix_seg 1 (by kernel_rfl) (by decide) ?_
        simp only [List.take_succ_cons, List.take_zero, List.drop_succ_cons, List.drop_zero]
        repeat (first | go_big_quiet_step (fail) | (go_big_quiet_want; first | refine quiet_conv mk0 rfl rfl rfl (by simp only [Act.put, List.setIfInBounds_toArray, List.set_cons_succ, List.set_cons_zero]; rfl) ?_; go_big_quiet_on))
        refine wpQuiet_nil ?_
        refine wpMix_eff (by kernel_rfl) ?_
        go_wp2_with fail
        refine (N2.out _ _).mono ?_
        rintro e w' ⟨rfl, rfl⟩
        go_wp2
        refine MixK.on (InS.mk ((mH.out _).2 (CV.out _ H6.out.keeps.drew))) ?_
        refine wpMix_seg 7 (by kernel_rfl) (by decide) ?_
        simp only [List.take_succ_cons, List.take_zero, List.drop_succ_cons, List.drop_zero]
        repeat (first | go_big_quiet_step (fail) | (go_big_quiet_want; first | refine quiet_conv mk0 rfl rfl rfl (by simp only [Act.put, List.setIfInBounds_toArray, List.set_cons_succ, List.set_cons_zero]; rfl) ?_; go_big_quiet_on))
        refine wpQuiet_nil ?_
        refine wpMix_eff (by kernel_rfl) ?_
        go_wp2_with fail
        refine (lkheld H6.out.drew).mono ?_
        rw [HH.out]
        rintro e w7 ⟨v7, rfl, o7, k7⟩
        obtain ⟨A7, c7, rfl, b7⟩ := slice_of_own o7
        rw [LH.out] at b7 ⊢
        have H7 := Lib.hid (H6.out.drew.later k7)
        have sc := run_str b7
        rw [HSH.out] at sc
        clear o7 b7 k7
        go_wp2
        refine MixK.on (InS.mk ((mH.out _).2 ((CV.out _ H7.out.keeps)))) ?_
        refine wpMix_eff (by kernel_rfl) ?_
        go_wp2
        refine MixK.on (InS.mk ((mH.out _).2 ((CV.out _ H7.out.keeps)))) ?_
        refine wpMix_seg 14 (by kernel_rfl) (by decide) ?_
        simp only [List.take_succ_cons, List.take_zero, List.drop_succ_cons, List.drop_zero]
        repeat (first | go_big_quiet_step (fail) | (go_big_quiet_want; first | refine quiet_conv mk0 rfl rfl rfl (by simp only [Act.put, List.setIfInBounds_toArray, List.set_cons_succ, List.set_cons_zero]; rfl) ?_; go_big_quiet_on))
        refine wpQuiet_nil ?_
        refine wpMix_eff (by kernel_rfl) ?_
        go_wp2_with fail
        refine (write4_nrm (N := lo) (m := 0) (zs := zs.drop lo) (ps := []) (fb := []) (fun i => byte_getD HB.out.byte i) okB_255 (okB_can (fun i => byte_getD HB.out.byte i)) H7.out HI6.out (KB.arg SE.out H7.out) (fun i hi => by rw [AT6.out, drop_getD2]) (by have := AT6.out; omega) (by omega) (by decide) IsSl.none rfl (by decide) IsSl.none rfl (by decide) (fun n i z _ h1 h2 => okB_fl i z h1 h2) 0 (RM6.out.less (by omega))).mono ?_
        rintro e w8 ⟨rfl, L8, s8, k8, h8, -, i8, a8, -⟩
        have H8 := Lib.hid h8
        have hml := HB.out.len
        have hbl := i8.core.nrm.bl
        have PK : Hid (s8.peekF 0 lo = zs) := (show s8.peekF ((0 : Nat) : Int) (lo : Int) = zs from peek_eq (a := 0) (n := lo) (by omega) hml fun i hi => by rw [Nat.zero_add]; exact i8.core.low i hi)
        have A8 := Lib.hid a8
        clear h8 i8 a8 hml hbl
        go_wp2
        refine MixK.on (InS.mk ((mH.out _).2 ((CV.out _ H8.out.keeps)))) ?_
        refine wpMix_seg 2 (by kernel_rfl) (by decide) ?_
        simp only [List.take_succ_cons, List.take_zero, List.drop_succ_cons, List.drop_zero]
        repeat (first | go_big_quiet_step (fail) | (go_big_quiet_want; first | refine quiet_conv mk0 rfl rfl rfl (by simp only [Act.put, List.setIfInBounds_toArray, List.set_cons_succ, List.set_cons_zero]; rfl) ?_; go_big_quiet_on))
        refine wpQuiet_nil ?_
        refine wpMix_nil ?_
        clear mk0 mn mH
        go_wp2
        obtain ⟨m2S, m2h⟩ : ∃ S : World → Prop, ∀ w', S w' ↔ (((convert 22 9 (.slice (some ⟨b, off, none⟩) lo lo)).run Try.prog w' = .ok (.string sb) w')) := ⟨_, fun _ => Iff.rfl⟩
        have m2k0 : ∀ x : Memb m2S, (convert 22 9 (.slice (some ⟨b, off, none⟩) lo lo)).run Try.prog x.at_ = .ok (.string sb) x.at_ := fun x => ((m2h _).1 x.is)
        have m2n : Nonempty (Memb m2S) := ⟨⟨(w8).drew, (m2h _).2 (CB.out _ H8.out.keeps.drew)⟩⟩
        have m2H := Lib.hid m2h
        clear m2h
        refine wp_region_mix [3, 4, 10] (InS m2S) (by kernel_rfl) (by kernel_rfl) (InS.mk ((m2H.out _).2 (CB.out _ H8.out.keeps.drew))) ?_
        refine wpMix_seg 3 (by kernel_rfl) (by decide) ?_
        simp only [List.take_succ_cons, List.take_zero, List.drop_succ_cons, List.drop_zero]
        repeat (first | go_big_quiet_step (fail) | (go_big_quiet_want; first | refine quiet_conv m2k0 rfl rfl rfl (by simp only [Act.put, List.setIfInBounds_toArray, List.set_cons_succ, List.set_cons_zero]; rfl) ?_; go_big_quiet_on))
        refine wpQuiet_nil ?_
        refine wpMix_eff (by kernel_rfl) ?_
        go_wp2_with fail
        refine (lpeek H8.out.drew.lf 0 lo).mono ?_
        rw [PK.out]
        rintro e w9 ⟨v9, rfl, o9, k9⟩
        obtain ⟨A9, c9, rfl, b9⟩ := slice_of_own o9
        rw [HB.out.len] at b9 ⊢
        have H9 := Lib.hid (H8.out.drew.later k9)
        have sd := run_str b9
        rw [HSB.out] at sd
        clear o9 b9 k9
        go_wp2
        refine MixK.on (InS.mk ((m2H.out _).2 ((CB.out _ H9.out.keeps)))) ?_
        refine wpMix_eff (by kernel_rfl) ?_
        go_wp2
        refine MixK.on (InS.mk ((m2H.out _).2 ((CB.out _ H9.out.keeps)))) ?_
        refine wpMix_seg 5 (by kernel_rfl) (by decide) ?_
        simp only [List.take_succ_cons, List.take_zero, List.drop_succ_cons, List.drop_zero]
        repeat (first | go_big_quiet_step (fail) | (go_big_quiet_want; first | refine quiet_conv m2k0 rfl rfl rfl (by simp only [Act.put, List.setIfInBounds_toArray, List.set_cons_succ, List.set_cons_zero]; rfl) ?_; go_big_quiet_on))
        refine wpQuiet_nil ?_
        refine wpMix_eff (by kernel_rfl) ?_
        go_wp2_with fail
        refine (lkat H9.out).mono ?_
        rintro e w' ⟨rfl, rfl⟩
        rw [A8.out]
        go_wp2
        refine MixK.on (InS.mk ((m2H.out _).2 ((CB.out _ H9.out.keeps)))) ?_
        refine wpMix_seg 5 (by kernel_rfl) (by decide) ?_
        simp only [List.take_succ_cons, List.take_zero, List.drop_succ_cons, List.drop_zero]
        repeat (first | go_big_quiet_step (fail) | (go_big_quiet_want; first | refine quiet_conv m2k0 rfl rfl rfl (by simp only [Act.put, List.setIfInBounds_toArray, List.set_cons_succ, List.set_cons_zero]; rfl) ?_; go_big_quiet_on))
        refine wpQuiet_nil ?_
        refine wpMix_nil ?_
        clear m2k0 m2n m2H
        go_wp2
        go_ret
        exact ⟨by first | rfl | simp, H9.out.keeps.below (fun _ _ h => h)⟩
      · have hcl : ¬ cap = lo := fun e => hl e.symm
        clear h1
        -- .slice (some ⟨b, off + lo, none⟩) (cap - lo) (cap - lo) b[lo:cut], 0 how many bytes are left, Bs.dropAll0 HB.out Bs of b[cut:] at W, Bs.take (k := cap - lo) (HB.out.drop (k := lo) (by omega)) (by omega) Bs of b[lo:cut] at W, .slice (some ⟨b, off, none⟩) cap cap b, cap the cut, cap b's length, lo the cut's word
        have SC := Lib.hid (Bs.take (k := cap - lo) (HB.out.drop (k := lo) (by omega)) (by omega))
        have SE := Lib.hid (Bs.dropAll0 HB.out)
        obtain ⟨hs, hhs⟩ : ∃ hs, (zs.drop lo).take (cap - lo) = hs := ⟨_, rfl⟩
        have LH : Hid (hs.length = cap - lo) := by show _ = _; rw [← hhs, List.length_take, List.length_drop, HB.out.len]; omega
        rw [hhs] at SC
        have HHS := Lib.hid hhs
        clear hhs
        go_enter Try.func13, Try.ntmps13
        go_wp2_with fail
        refine (alive4_any W).mono ?_
        rintro e w1 ⟨rfl, K1⟩
        have HK1 := Lib.hid K1
        clear K1
        go_wp2_with fail
        refine (FI.out _ HK1.out).mono ?_
        rintro e w2 ⟨q, L, s, rfl, hF, hS⟩
        have HF := Lib.hid hF
        have hI := start_inv hS.nrm (a := 0) (by decide) okB (fun i => zs.getD i 0) (fun i hi => absurd hi (Nat.not_lt_zero i)) (fun i _ hi => absurd hi (by omega))
        have HI := Lib.hid hI
        have PS := Lib.hid (start_new hS.nrm 0 (by decide))
        have RM := Lib.hid hS.room
        have EL := Lib.hid hS.nrm.el
        have AT : Hid ((k0 s 0).at_ = 0) := rfl
        generalize k0 s 0 = kk at *
        clear hF FI hI hS
        go_wp2_with fail
        refine (lgof HF.out 0 4).mono ?_
        rw [EL.out]
        rintro e w3 ⟨rfl, k3⟩
        rw [ofF_yes (show someB 0 4 ((4 : Nat) : Int) = true from rfl), Int.zero_add]
        have H3 := Lib.hid ((HF.out.later k3).alloc (.cells #[.pointer (some ⟨q, 0, none⟩), .int .i64 0, .int .i64 4] 27))
        have R3 := Lib.hid (Blk.new w3 [.pointer (some ⟨q, 0, none⟩), .int .i64 0, .int .i64 4] 27)
        have NB3 : Hid (¬ L.O w3.heap.size) := fun hO => by have := (HF.out.later k3).at_.lt _ hO; omega
        have SZ3 : Hid (w3.heap.size < (w3.alloc (.cells #[.pointer (some ⟨q, 0, none⟩), .int .i64 0, .int .i64 4] 27)).heap.size) := by show w3.heap.size < _; simp
        clear k3 HF
        go_wp2_with fail
        refine (lknew (f := 0) (c := 4) H3.out (by rw [EL.out]; decide) ((0 : Nat) : Int)).mono ?_
        rw [PS.out]
        rintro e w4 ⟨cb, rfl, h4, c4, k4⟩
        have H4 := Lib.hid h4
        have R4 := Lib.hid (k4.blk R3.out (fun h => h))
        have CB4 : Hid (w3.heap.size ≠ cb) := fun e => by have := SZ3.out; omega
        generalize w3.heap.size = rb at *
        clear h4 H3 R3 SZ3 c4 k4
        go_wp2_with fail
        refine (N2.out _ _).mono ?_
        rintro e w' ⟨rfl, rfl⟩
        go_wp2_with fail
        refine (write4_nrm (N := cap) (zs := zs.take cap) (ps := []) (fb := []) (fun i => byte_getD HB.out.byte i) okB_255 (okB_can (fun i => byte_getD HB.out.byte i)) H4.out HI.out (KB.arg (HB.out.take hcm) H4.out) (fun i hi => by rw [AT.out, Nat.zero_add, take_getD2 _ _ _ hi]) (by rw [AT.out, Nat.zero_add]) (by omega) (by decide) IsSl.none rfl (by decide) IsSl.none rfl (by decide) (fun n i z _ h1 h2 => okB_fl i z h1 h2) 10000000 (RM.out.less (by omega))).mono ?_
        rintro e w5 ⟨rfl, L5, s5, k5, h5, l5, i5, a5, r5⟩
        have H5 := Lib.hid h5
        have R5 := Lib.hid (l5.keeps.blk R4.out (fun h => h.elim NB3.out CB4.out))
        have hN5 := i5.core.nrm
        have hur := i5.core.ur
        have hI6 := start_inv hN5 (a := cap) (by omega) okB (fun i => zs.getD i 0) (fun i hi => i5.core.low i hi) (fun i h1 h2 => i5.core.mid i h1 (by omega))
        have PS6 := Lib.hid (start_new hN5 cap (by omega))
        have hh := held_cut (lo := lo) HB.out.len hcm hI6 rfl (by have := HLO.out; omega)
        rw [HHS.out] at hh
        have HH := Lib.hid hh
        have HI6 := Lib.hid hI6
        have RM6 := Lib.hid r5
        have EL6 := Lib.hid hN5.el
        have AT6 : Hid ((k0 s5 cap).at_ = cap) := rfl
        generalize k0 s5 cap = kk6 at *
        clear h5 l5 i5 a5 r5 hN5 hur hI6 hh H4 R4 HI PS RM AT NB3 CB4
        have x0 := R5.out.cellD 0 _ rfl
        have x1 := R5.out.cellD 1 _ rfl
        have x2 := R5.out.cellD 2 _ rfl
        go_wp2_with fail
        refine (lknew (f := 0) (c := 4) H5.out.lf (by rw [EL6.out]; decide) cap).mono ?_
        rw [PS6.out]
        rintro e w6 ⟨cb6, rfl, h6, -, -⟩
        have H6 := Lib.hid h6
        clear h6 H5 R5 x0 x1 x2
        obtain ⟨sh, hsh⟩ : ∃ sh, strOf hs = sh := ⟨_, rfl⟩
        have HSH := Lib.hid hsh
        have qh : (sh.toList == sh.toList) = true := by simp
        obtain ⟨sb, hsb⟩ : ∃ sb, strOf zs = sb := ⟨_, rfl⟩
        have HSB := Lib.hid hsb
        have qb : (sb.toList == sb.toList) = true := by simp
        have CV := Lib.hid (fun w' (hk : Keeps None W w') => show (convert 22 9 (.slice (some ⟨b, off + lo, none⟩) (cap - lo) (cap - lo))).run Try.prog w' = .ok (.string sh) w' from HSH.out ▸ run_str (SC.out.keeps hk (fun _ _ _ _ _ h => h)))
        have CB := Lib.hid (fun w' (hk : Keeps None W w') => show (convert 22 9 (.slice (some ⟨b, off, none⟩) cap cap)).run Try.prog w' = .ok (.string sb) w' from HSB.out ▸ run_str (HB.out.keeps hk (fun _ _ _ _ _ h => h)))
        clear hsh hsb
        go_wp2
        obtain ⟨mS, mh⟩ : ∃ S : World → Prop, ∀ w', S w' ↔ (((convert 22 9 (.slice (some ⟨b, off + lo, none⟩) (cap - lo) (cap - lo))).run Try.prog w' = .ok (.string sh) w')) := ⟨_, fun _ => Iff.rfl⟩
        have mk0 : ∀ x : Memb mS, (convert 22 9 (.slice (some ⟨b, off + lo, none⟩) (cap - lo) (cap - lo))).run Try.prog x.at_ = .ok (.string sh) x.at_ := fun x => ((mh _).1 x.is)
        have mn : Nonempty (Memb mS) := ⟨⟨(w6).drew, (mh _).2 (CV.out _ H6.out.keeps.drew)⟩⟩
        have mH := Lib.hid mh
        clear mh
        refine wp_region_mix [1, 9, 10, 25] (InS mS) (by kernel_rfl) (by kernel_rfl) (InS.mk ((mH.out _).2 (CV.out _ H6.out.keeps.drew))) ?_
        refine wpMix_seg 1 (by kernel_rfl) (by decide) ?_
        simp only [List.take_succ_cons, List.take_zero, List.drop_succ_cons, List.drop_zero]
        repeat (first | go_big_quiet_step (fail) | (go_big_quiet_want; first | refine quiet_conv mk0 rfl rfl rfl (by simp only [Act.put, List.setIfInBounds_toArray, List.set_cons_succ, List.set_cons_zero]; rfl) ?_; go_big_quiet_on))
        refine wpQuiet_nil ?_
        refine wpMix_eff (by kernel_rfl) ?_
        go_wp2_with fail
        refine (N2.out _ _).mono ?_
        rintro e w' ⟨rfl, rfl⟩
        go_wp2
        refine MixK.on (InS.mk ((mH.out _).2 (CV.out _ H6.out.keeps.drew))) ?_
        refine wpMix_seg 7 (by kernel_rfl) (by decide) ?_
        simp only [List.take_succ_cons, List.take_zero, List.drop_succ_cons, List.drop_zero]
        repeat (first | go_big_quiet_step (fail) | (go_big_quiet_want; first | refine quiet_conv mk0 rfl rfl rfl (by simp only [Act.put, List.setIfInBounds_toArray, List.set_cons_succ, List.set_cons_zero]; rfl) ?_; go_big_quiet_on))
        refine wpQuiet_nil ?_
        refine wpMix_eff (by kernel_rfl) ?_
        go_wp2_with fail
        refine (lkheld H6.out.drew).mono ?_
        rw [HH.out]
        rintro e w7 ⟨v7, rfl, o7, k7⟩
        obtain ⟨A7, c7, rfl, b7⟩ := slice_of_own o7
        rw [LH.out] at b7 ⊢
        have H7 := Lib.hid (H6.out.drew.later k7)
        have sc := run_str b7
        rw [HSH.out] at sc
        clear o7 b7 k7
        go_wp2
        refine MixK.on (InS.mk ((mH.out _).2 ((CV.out _ H7.out.keeps)))) ?_
        refine wpMix_eff (by kernel_rfl) ?_
        go_wp2
        refine MixK.on (InS.mk ((mH.out _).2 ((CV.out _ H7.out.keeps)))) ?_
        refine wpMix_seg 14 (by kernel_rfl) (by decide) ?_
        simp only [List.take_succ_cons, List.take_zero, List.drop_succ_cons, List.drop_zero]
        repeat (first | go_big_quiet_step (fail) | (go_big_quiet_want; first | refine quiet_conv mk0 rfl rfl rfl (by simp only [Act.put, List.setIfInBounds_toArray, List.set_cons_succ, List.set_cons_zero]; rfl) ?_; go_big_quiet_on))
        refine wpQuiet_nil ?_
        refine wpMix_eff (by kernel_rfl) ?_
        go_wp2_with fail
        refine (write4_nrm (N := cap) (m := 0) (zs := zs.drop cap) (ps := []) (fb := []) (fun i => byte_getD HB.out.byte i) okB_255 (okB_can (fun i => byte_getD HB.out.byte i)) H7.out HI6.out (KB.arg SE.out H7.out) (fun i hi => by rw [AT6.out, drop_getD2]) (by have := AT6.out; omega) (by omega) (by decide) IsSl.none rfl (by decide) IsSl.none rfl (by decide) (fun n i z _ h1 h2 => okB_fl i z h1 h2) 0 (RM6.out.less (by omega))).mono ?_
        rintro e w8 ⟨rfl, L8, s8, k8, h8, -, i8, a8, -⟩
        have H8 := Lib.hid h8
        have hml := HB.out.len
        have hbl := i8.core.nrm.bl
        have PK : Hid (s8.peekF 0 cap = zs) := (show s8.peekF ((0 : Nat) : Int) (cap : Int) = zs from peek_eq (a := 0) (n := cap) (by omega) hml fun i hi => by rw [Nat.zero_add]; exact i8.core.low i hi)
        have A8 := Lib.hid a8
        clear h8 i8 a8 hml hbl
        go_wp2
        refine MixK.on (InS.mk ((mH.out _).2 ((CV.out _ H8.out.keeps)))) ?_
        refine wpMix_seg 2 (by kernel_rfl) (by decide) ?_
        simp only [List.take_succ_cons, List.take_zero, List.drop_succ_cons, List.drop_zero]
        repeat (first | go_big_quiet_step (fail) | (go_big_quiet_want; first | refine quiet_conv mk0 rfl rfl rfl (by simp only [Act.put, List.setIfInBounds_toArray, List.set_cons_succ, List.set_cons_zero]; rfl) ?_; go_big_quiet_on))
        refine wpQuiet_nil ?_
        refine wpMix_nil ?_
        clear mk0 mn mH
        go_wp2
        obtain ⟨m2S, m2h⟩ : ∃ S : World → Prop, ∀ w', S w' ↔ (((convert 22 9 (.slice (some ⟨b, off, none⟩) cap cap)).run Try.prog w' = .ok (.string sb) w')) := ⟨_, fun _ => Iff.rfl⟩
        have m2k0 : ∀ x : Memb m2S, (convert 22 9 (.slice (some ⟨b, off, none⟩) cap cap)).run Try.prog x.at_ = .ok (.string sb) x.at_ := fun x => ((m2h _).1 x.is)
        have m2n : Nonempty (Memb m2S) := ⟨⟨(w8).drew, (m2h _).2 (CB.out _ H8.out.keeps.drew)⟩⟩
        have m2H := Lib.hid m2h
        clear m2h
        refine wp_region_mix [3, 4, 10] (InS m2S) (by kernel_rfl) (by kernel_rfl) (InS.mk ((m2H.out _).2 (CB.out _ H8.out.keeps.drew))) ?_
        refine wpMix_seg 3 (by kernel_rfl) (by decide) ?_
        simp only [List.take_succ_cons, List.take_zero, List.drop_succ_cons, List.drop_zero]
        repeat (first | go_big_quiet_step (fail) | (go_big_quiet_want; first | refine quiet_conv m2k0 rfl rfl rfl (by simp only [Act.put, List.setIfInBounds_toArray, List.set_cons_succ, List.set_cons_zero]; rfl) ?_; go_big_quiet_on))
        refine wpQuiet_nil ?_
        refine wpMix_eff (by kernel_rfl) ?_
        go_wp2_with fail
        refine (lpeek H8.out.drew.lf 0 cap).mono ?_
        rw [PK.out]
        rintro e w9 ⟨v9, rfl, o9, k9⟩
        obtain ⟨A9, c9, rfl, b9⟩ := slice_of_own o9
        rw [HB.out.len] at b9 ⊢
        have H9 := Lib.hid (H8.out.drew.later k9)
        have sd := run_str b9
        rw [HSB.out] at sd
        clear o9 b9 k9
        go_wp2
        refine MixK.on (InS.mk ((m2H.out _).2 ((CB.out _ H9.out.keeps)))) ?_
        refine wpMix_eff (by kernel_rfl) ?_
        go_wp2
        refine MixK.on (InS.mk ((m2H.out _).2 ((CB.out _ H9.out.keeps)))) ?_
        refine wpMix_seg 5 (by kernel_rfl) (by decide) ?_
        simp only [List.take_succ_cons, List.take_zero, List.drop_succ_cons, List.drop_zero]
        repeat (first | go_big_quiet_step (fail) | (go_big_quiet_want; first | refine quiet_conv m2k0 rfl rfl rfl (by simp only [Act.put, List.setIfInBounds_toArray, List.set_cons_succ, List.set_cons_zero]; rfl) ?_; go_big_quiet_on))
        refine wpQuiet_nil ?_
        refine wpMix_eff (by kernel_rfl) ?_
        go_wp2_with fail
        refine (lkat H9.out).mono ?_
        rintro e w' ⟨rfl, rfl⟩
        rw [A8.out]
        go_wp2
        refine MixK.on (InS.mk ((m2H.out _).2 ((CB.out _ H9.out.keeps)))) ?_
        refine wpMix_seg 5 (by kernel_rfl) (by decide) ?_
        simp only [List.take_succ_cons, List.take_zero, List.drop_succ_cons, List.drop_zero]
        repeat (first | go_big_quiet_step (fail) | (go_big_quiet_want; first | refine quiet_conv m2k0 rfl rfl rfl (by simp only [Act.put, List.setIfInBounds_toArray, List.set_cons_succ, List.set_cons_zero]; rfl) ?_; go_big_quiet_on))
        refine wpQuiet_nil ?_
        refine wpMix_nil ?_
        clear m2k0 m2n m2H
        go_wp2
        go_ret
        exact ⟨by first | rfl | simp, H9.out.keeps.below (fun _ _ h => h)⟩
    · have hcl : ¬ cap = lo := by omega
      clear h1
      -- .slice (some ⟨b, off + lo, none⟩) (cut - lo) (cap - lo) b[lo:cut], m - cut how many bytes are left, HB.out.drop hcm Bs of b[cut:] at W, Bs.take (k := cut - lo) (HB.out.drop (k := lo) (by omega)) (by omega) Bs of b[lo:cut] at W, .slice (some ⟨b, off, none⟩) m cap b, cut the cut, m b's length, lo the cut's word
      have SC := Lib.hid (Bs.take (k := cut - lo) (HB.out.drop (k := lo) (by omega)) (by omega))
      have SE := Lib.hid (HB.out.drop hcm)
      obtain ⟨hs, hhs⟩ : ∃ hs, (zs.drop lo).take (cut - lo) = hs := ⟨_, rfl⟩
      have LH : Hid (hs.length = cut - lo) := by show _ = _; rw [← hhs, List.length_take, List.length_drop, HB.out.len]; omega
      rw [hhs] at SC
      have HHS := Lib.hid hhs
      clear hhs
      go_enter Try.func13, Try.ntmps13
      go_wp2_with fail
      refine (alive4_any W).mono ?_
      rintro e w1 ⟨rfl, K1⟩
      have HK1 := Lib.hid K1
      clear K1
      go_wp2_with fail
      refine (FI.out _ HK1.out).mono ?_
      rintro e w2 ⟨q, L, s, rfl, hF, hS⟩
      have HF := Lib.hid hF
      have hI := start_inv hS.nrm (a := 0) (by decide) okB (fun i => zs.getD i 0) (fun i hi => absurd hi (Nat.not_lt_zero i)) (fun i _ hi => absurd hi (by omega))
      have HI := Lib.hid hI
      have PS := Lib.hid (start_new hS.nrm 0 (by decide))
      have RM := Lib.hid hS.room
      have EL := Lib.hid hS.nrm.el
      have AT : Hid ((k0 s 0).at_ = 0) := rfl
      generalize k0 s 0 = kk at *
      clear hF FI hI hS
      go_wp2_with fail
      refine (lgof HF.out 0 4).mono ?_
      rw [EL.out]
      rintro e w3 ⟨rfl, k3⟩
      rw [ofF_yes (show someB 0 4 ((4 : Nat) : Int) = true from rfl), Int.zero_add]
      have H3 := Lib.hid ((HF.out.later k3).alloc (.cells #[.pointer (some ⟨q, 0, none⟩), .int .i64 0, .int .i64 4] 27))
      have R3 := Lib.hid (Blk.new w3 [.pointer (some ⟨q, 0, none⟩), .int .i64 0, .int .i64 4] 27)
      have NB3 : Hid (¬ L.O w3.heap.size) := fun hO => by have := (HF.out.later k3).at_.lt _ hO; omega
      have SZ3 : Hid (w3.heap.size < (w3.alloc (.cells #[.pointer (some ⟨q, 0, none⟩), .int .i64 0, .int .i64 4] 27)).heap.size) := by show w3.heap.size < _; simp
      clear k3 HF
      go_wp2_with fail
      refine (lknew (f := 0) (c := 4) H3.out (by rw [EL.out]; decide) ((0 : Nat) : Int)).mono ?_
      rw [PS.out]
      rintro e w4 ⟨cb, rfl, h4, c4, k4⟩
      have H4 := Lib.hid h4
      have R4 := Lib.hid (k4.blk R3.out (fun h => h))
      have CB4 : Hid (w3.heap.size ≠ cb) := fun e => by have := SZ3.out; omega
      generalize w3.heap.size = rb at *
      clear h4 H3 R3 SZ3 c4 k4
      go_wp2_with fail
      refine (N2.out _ _).mono ?_
      rintro e w' ⟨rfl, rfl⟩
      go_wp2_with fail
      refine (write4_nrm (N := cut) (zs := zs.take cut) (ps := []) (fb := []) (fun i => byte_getD HB.out.byte i) okB_255 (okB_can (fun i => byte_getD HB.out.byte i)) H4.out HI.out (KB.arg (HB.out.take hcm) H4.out) (fun i hi => by rw [AT.out, Nat.zero_add, take_getD2 _ _ _ hi]) (by rw [AT.out, Nat.zero_add]) (by omega) (by decide) IsSl.none rfl (by decide) IsSl.none rfl (by decide) (fun n i z _ h1 h2 => okB_fl i z h1 h2) 10000000 (RM.out.less (by omega))).mono ?_
      rintro e w5 ⟨rfl, L5, s5, k5, h5, l5, i5, a5, r5⟩
      have H5 := Lib.hid h5
      have R5 := Lib.hid (l5.keeps.blk R4.out (fun h => h.elim NB3.out CB4.out))
      have hN5 := i5.core.nrm
      have hur := i5.core.ur
      have hI6 := start_inv hN5 (a := cut) (by omega) okB (fun i => zs.getD i 0) (fun i hi => i5.core.low i hi) (fun i h1 h2 => i5.core.mid i h1 (by omega))
      have PS6 := Lib.hid (start_new hN5 cut (by omega))
      have hh := held_cut (lo := lo) HB.out.len hcm hI6 rfl (by have := HLO.out; omega)
      rw [HHS.out] at hh
      have HH := Lib.hid hh
      have HI6 := Lib.hid hI6
      have RM6 := Lib.hid r5
      have EL6 := Lib.hid hN5.el
      have AT6 : Hid ((k0 s5 cut).at_ = cut) := rfl
      generalize k0 s5 cut = kk6 at *
      clear h5 l5 i5 a5 r5 hN5 hur hI6 hh H4 R4 HI PS RM AT NB3 CB4
      have x0 := R5.out.cellD 0 _ rfl
      have x1 := R5.out.cellD 1 _ rfl
      have x2 := R5.out.cellD 2 _ rfl
      go_wp2_with fail
      refine (lknew (f := 0) (c := 4) H5.out.lf (by rw [EL6.out]; decide) cut).mono ?_
      rw [PS6.out]
      rintro e w6 ⟨cb6, rfl, h6, -, -⟩
      have H6 := Lib.hid h6
      clear h6 H5 R5 x0 x1 x2
      obtain ⟨sh, hsh⟩ : ∃ sh, strOf hs = sh := ⟨_, rfl⟩
      have HSH := Lib.hid hsh
      have qh : (sh.toList == sh.toList) = true := by simp
      obtain ⟨sb, hsb⟩ : ∃ sb, strOf zs = sb := ⟨_, rfl⟩
      have HSB := Lib.hid hsb
      have qb : (sb.toList == sb.toList) = true := by simp
      have CV := Lib.hid (fun w' (hk : Keeps None W w') => show (convert 22 9 (.slice (some ⟨b, off + lo, none⟩) (cut - lo) (cap - lo))).run Try.prog w' = .ok (.string sh) w' from HSH.out ▸ run_str (SC.out.keeps hk (fun _ _ _ _ _ h => h)))
      have CB := Lib.hid (fun w' (hk : Keeps None W w') => show (convert 22 9 (.slice (some ⟨b, off, none⟩) m cap)).run Try.prog w' = .ok (.string sb) w' from HSB.out ▸ run_str (HB.out.keeps hk (fun _ _ _ _ _ h => h)))
      clear hsh hsb
      go_wp2
      obtain ⟨mS, mh⟩ : ∃ S : World → Prop, ∀ w', S w' ↔ (((convert 22 9 (.slice (some ⟨b, off + lo, none⟩) (cut - lo) (cap - lo))).run Try.prog w' = .ok (.string sh) w')) := ⟨_, fun _ => Iff.rfl⟩
      have mk0 : ∀ x : Memb mS, (convert 22 9 (.slice (some ⟨b, off + lo, none⟩) (cut - lo) (cap - lo))).run Try.prog x.at_ = .ok (.string sh) x.at_ := fun x => ((mh _).1 x.is)
      have mn : Nonempty (Memb mS) := ⟨⟨(w6).drew, (mh _).2 (CV.out _ H6.out.keeps.drew)⟩⟩
      have mH := Lib.hid mh
      clear mh
      refine wp_region_mix [1, 9, 10, 25] (InS mS) (by kernel_rfl) (by kernel_rfl) (InS.mk ((mH.out _).2 (CV.out _ H6.out.keeps.drew))) ?_
      refine wpMix_seg 1 (by kernel_rfl) (by decide) ?_
      simp only [List.take_succ_cons, List.take_zero, List.drop_succ_cons, List.drop_zero]
      repeat (first | go_big_quiet_step (fail) | (go_big_quiet_want; first | refine quiet_conv mk0 rfl rfl rfl (by simp only [Act.put, List.setIfInBounds_toArray, List.set_cons_succ, List.set_cons_zero]; rfl) ?_; go_big_quiet_on))
      refine wpQuiet_nil ?_
      refine wpMix_eff (by kernel_rfl) ?_
      go_wp2_with fail
      refine (N2.out _ _).mono ?_
      rintro e w' ⟨rfl, rfl⟩
      go_wp2
      refine MixK.on (InS.mk ((mH.out _).2 (CV.out _ H6.out.keeps.drew))) ?_
      refine wpMix_seg 7 (by kernel_rfl) (by decide) ?_
      simp only [List.take_succ_cons, List.take_zero, List.drop_succ_cons, List.drop_zero]
      repeat (first | go_big_quiet_step (fail) | (go_big_quiet_want; first | refine quiet_conv mk0 rfl rfl rfl (by simp only [Act.put, List.setIfInBounds_toArray, List.set_cons_succ, List.set_cons_zero]; rfl) ?_; go_big_quiet_on))
      refine wpQuiet_nil ?_
      refine wpMix_eff (by kernel_rfl) ?_
      go_wp2_with fail
      refine (lkheld H6.out.drew).mono ?_
      rw [HH.out]
      rintro e w7 ⟨v7, rfl, o7, k7⟩
      obtain ⟨A7, c7, rfl, b7⟩ := slice_of_own o7
      rw [LH.out] at b7 ⊢
      have H7 := Lib.hid (H6.out.drew.later k7)
      have sc := run_str b7
      rw [HSH.out] at sc
      clear o7 b7 k7
      go_wp2
      refine MixK.on (InS.mk ((mH.out _).2 ((CV.out _ H7.out.keeps)))) ?_
      refine wpMix_eff (by kernel_rfl) ?_
      go_wp2
      refine MixK.on (InS.mk ((mH.out _).2 ((CV.out _ H7.out.keeps)))) ?_
      refine wpMix_seg 14 (by kernel_rfl) (by decide) ?_
      simp only [List.take_succ_cons, List.take_zero, List.drop_succ_cons, List.drop_zero]
      repeat (first | go_big_quiet_step (fail) | (go_big_quiet_want; first | refine quiet_conv mk0 rfl rfl rfl (by simp only [Act.put, List.setIfInBounds_toArray, List.set_cons_succ, List.set_cons_zero]; rfl) ?_; go_big_quiet_on))
      refine wpQuiet_nil ?_
      refine wpMix_eff (by kernel_rfl) ?_
      go_wp2_with fail
      refine (write4_nrm (N := m) (m := m - cut) (zs := zs.drop cut) (ps := []) (fb := []) (fun i => byte_getD HB.out.byte i) okB_255 (okB_can (fun i => byte_getD HB.out.byte i)) H7.out HI6.out (KB.arg SE.out H7.out) (fun i hi => by rw [AT6.out, drop_getD2]) (by have := AT6.out; omega) (by omega) (by decide) IsSl.none rfl (by decide) IsSl.none rfl (by decide) (fun n i z _ h1 h2 => okB_fl i z h1 h2) 0 (RM6.out.less (by omega))).mono ?_
      rintro e w8 ⟨rfl, L8, s8, k8, h8, -, i8, a8, -⟩
      have H8 := Lib.hid h8
      have hml := HB.out.len
      have hbl := i8.core.nrm.bl
      have PK : Hid (s8.peekF 0 m = zs) := (show s8.peekF ((0 : Nat) : Int) (m : Int) = zs from peek_eq (a := 0) (n := m) (by omega) hml fun i hi => by rw [Nat.zero_add]; exact i8.core.low i hi)
      have A8 := Lib.hid a8
      clear h8 i8 a8 hml hbl
      go_wp2
      refine MixK.on (InS.mk ((mH.out _).2 ((CV.out _ H8.out.keeps)))) ?_
      refine wpMix_seg 2 (by kernel_rfl) (by decide) ?_
      simp only [List.take_succ_cons, List.take_zero, List.drop_succ_cons, List.drop_zero]
      repeat (first | go_big_quiet_step (fail) | (go_big_quiet_want; first | refine quiet_conv mk0 rfl rfl rfl (by simp only [Act.put, List.setIfInBounds_toArray, List.set_cons_succ, List.set_cons_zero]; rfl) ?_; go_big_quiet_on))
      refine wpQuiet_nil ?_
      refine wpMix_nil ?_
      clear mk0 mn mH
      go_wp2
      obtain ⟨m2S, m2h⟩ : ∃ S : World → Prop, ∀ w', S w' ↔ (((convert 22 9 (.slice (some ⟨b, off, none⟩) m cap)).run Try.prog w' = .ok (.string sb) w')) := ⟨_, fun _ => Iff.rfl⟩
      have m2k0 : ∀ x : Memb m2S, (convert 22 9 (.slice (some ⟨b, off, none⟩) m cap)).run Try.prog x.at_ = .ok (.string sb) x.at_ := fun x => ((m2h _).1 x.is)
      have m2n : Nonempty (Memb m2S) := ⟨⟨(w8).drew, (m2h _).2 (CB.out _ H8.out.keeps.drew)⟩⟩
      have m2H := Lib.hid m2h
      clear m2h
      refine wp_region_mix [3, 4, 10] (InS m2S) (by kernel_rfl) (by kernel_rfl) (InS.mk ((m2H.out _).2 (CB.out _ H8.out.keeps.drew))) ?_
      refine wpMix_seg 3 (by kernel_rfl) (by decide) ?_
      simp only [List.take_succ_cons, List.take_zero, List.drop_succ_cons, List.drop_zero]
      repeat (first | go_big_quiet_step (fail) | (go_big_quiet_want; first | refine quiet_conv m2k0 rfl rfl rfl (by simp only [Act.put, List.setIfInBounds_toArray, List.set_cons_succ, List.set_cons_zero]; rfl) ?_; go_big_quiet_on))
      refine wpQuiet_nil ?_
      refine wpMix_eff (by kernel_rfl) ?_
      go_wp2_with fail
      refine (lpeek H8.out.drew.lf 0 m).mono ?_
      rw [PK.out]
      rintro e w9 ⟨v9, rfl, o9, k9⟩
      obtain ⟨A9, c9, rfl, b9⟩ := slice_of_own o9
      rw [HB.out.len] at b9 ⊢
      have H9 := Lib.hid (H8.out.drew.later k9)
      have sd := run_str b9
      rw [HSB.out] at sd
      clear o9 b9 k9
      go_wp2
      refine MixK.on (InS.mk ((m2H.out _).2 ((CB.out _ H9.out.keeps)))) ?_
      refine wpMix_eff (by kernel_rfl) ?_
      go_wp2
      refine MixK.on (InS.mk ((m2H.out _).2 ((CB.out _ H9.out.keeps)))) ?_
      refine wpMix_seg 5 (by kernel_rfl) (by decide) ?_
      simp only [List.take_succ_cons, List.take_zero, List.drop_succ_cons, List.drop_zero]
      repeat (first | go_big_quiet_step (fail) | (go_big_quiet_want; first | refine quiet_conv m2k0 rfl rfl rfl (by simp only [Act.put, List.setIfInBounds_toArray, List.set_cons_succ, List.set_cons_zero]; rfl) ?_; go_big_quiet_on))
      refine wpQuiet_nil ?_
      refine wpMix_eff (by kernel_rfl) ?_
      go_wp2_with fail
      refine (lkat H9.out).mono ?_
      rintro e w' ⟨rfl, rfl⟩
      rw [A8.out]
      go_wp2
      refine MixK.on (InS.mk ((m2H.out _).2 ((CB.out _ H9.out.keeps)))) ?_
      refine wpMix_seg 5 (by kernel_rfl) (by decide) ?_
      simp only [List.take_succ_cons, List.take_zero, List.drop_succ_cons, List.drop_zero]
      repeat (first | go_big_quiet_step (fail) | (go_big_quiet_want; first | refine quiet_conv m2k0 rfl rfl rfl (by simp only [Act.put, List.setIfInBounds_toArray, List.set_cons_succ, List.set_cons_zero]; rfl) ?_; go_big_quiet_on))
      refine wpQuiet_nil ?_
      refine wpMix_nil ?_
      clear m2k0 m2n m2H
      go_wp2
      go_ret
      exact ⟨by first | rfl | simp, H9.out.keeps.below (fun _ _ h => h)⟩
  · obtain rfl : m = 0 := by omega
    obtain rfl : cut = 0 := by omega
    obtain rfl : lo = 0 := by omega
    obtain rfl : c8 = 0 := by omega
    clear h1
    by_cases hc : cap = 0
    · subst hc
      -- .slice A 0 0 b[lo:cut], 0 how many bytes are left, HB.out Bs of b[cut:] at W, Bs.zero1 HB.out Bs of b[lo:cut] at W, .slice A 0 0 b, (0 : Nat) the cut, 0 b's length, (0 : Nat) the cut's word
      have SC := Lib.hid (Bs.zero1 HB.out)
      have SE := Lib.hid (HB.out)
      obtain ⟨hs, hhs⟩ : ∃ hs, (zs.drop (0 : Nat)).take ((0 : Nat) - (0 : Nat)) = hs := ⟨_, rfl⟩
      have LH : Hid (hs.length = 0) := by show _ = _; rw [← hhs, List.length_take, List.length_drop, HB.out.len]; omega
      rw [hhs] at SC
      have HHS := Lib.hid hhs
      clear hhs
      go_enter Try.func13, Try.ntmps13
      go_wp2_with fail
      refine (alive4_any W).mono ?_
      rintro e w1 ⟨rfl, K1⟩
      have HK1 := Lib.hid K1
      clear K1
      go_wp2_with fail
      refine (FI.out _ HK1.out).mono ?_
      rintro e w2 ⟨q, L, s, rfl, hF, hS⟩
      have HF := Lib.hid hF
      have hI := start_inv hS.nrm (a := 0) (by decide) okB (fun i => zs.getD i 0) (fun i hi => absurd hi (Nat.not_lt_zero i)) (fun i _ hi => absurd hi (by omega))
      have HI := Lib.hid hI
      have PS := Lib.hid (start_new hS.nrm 0 (by decide))
      have RM := Lib.hid hS.room
      have EL := Lib.hid hS.nrm.el
      have AT : Hid ((k0 s 0).at_ = 0) := rfl
      generalize k0 s 0 = kk at *
      clear hF FI hI hS
      go_wp2_with fail
      refine (lgof HF.out 0 4).mono ?_
      rw [EL.out]
      rintro e w3 ⟨rfl, k3⟩
      rw [ofF_yes (show someB 0 4 ((4 : Nat) : Int) = true from rfl), Int.zero_add]
      have H3 := Lib.hid ((HF.out.later k3).alloc (.cells #[.pointer (some ⟨q, 0, none⟩), .int .i64 0, .int .i64 4] 27))
      have R3 := Lib.hid (Blk.new w3 [.pointer (some ⟨q, 0, none⟩), .int .i64 0, .int .i64 4] 27)
      have NB3 : Hid (¬ L.O w3.heap.size) := fun hO => by have := (HF.out.later k3).at_.lt _ hO; omega
      have SZ3 : Hid (w3.heap.size < (w3.alloc (.cells #[.pointer (some ⟨q, 0, none⟩), .int .i64 0, .int .i64 4] 27)).heap.size) := by show w3.heap.size < _; simp
      clear k3 HF
      go_wp2_with fail
      refine (lknew (f := 0) (c := 4) H3.out (by rw [EL.out]; decide) ((0 : Nat) : Int)).mono ?_
      rw [PS.out]
      rintro e w4 ⟨cb, rfl, h4, c4, k4⟩
      have H4 := Lib.hid h4
      have R4 := Lib.hid (k4.blk R3.out (fun h => h))
      have CB4 : Hid (w3.heap.size ≠ cb) := fun e => by have := SZ3.out; omega
      generalize w3.heap.size = rb at *
      clear h4 H3 R3 SZ3 c4 k4
      go_wp2_with fail
      refine (N2.out _ _).mono ?_
      rintro e w' ⟨rfl, rfl⟩
      go_wp2_with fail
      refine (write4_nrm (N := (0 : Nat)) (zs := zs.take (0 : Nat)) (ps := []) (fb := []) (fun i => byte_getD HB.out.byte i) okB_255 (okB_can (fun i => byte_getD HB.out.byte i)) H4.out HI.out (KB.arg (HB.out.take hcm) H4.out) (fun i hi => by rw [AT.out, Nat.zero_add, take_getD2 _ _ _ hi]) (by rw [AT.out, Nat.zero_add]) (by omega) (by decide) IsSl.none rfl (by decide) IsSl.none rfl (by decide) (fun n i z _ h1 h2 => okB_fl i z h1 h2) 10000000 (RM.out.less (by omega))).mono ?_
      rintro e w5 ⟨rfl, L5, s5, k5, h5, l5, i5, a5, r5⟩
      have H5 := Lib.hid h5
      have R5 := Lib.hid (l5.keeps.blk R4.out (fun h => h.elim NB3.out CB4.out))
      have hN5 := i5.core.nrm
      have hur := i5.core.ur
      have hI6 := start_inv hN5 (a := (0 : Nat)) (by omega) okB (fun i => zs.getD i 0) (fun i hi => i5.core.low i hi) (fun i h1 h2 => i5.core.mid i h1 (by omega))
      have PS6 := Lib.hid (start_new hN5 (0 : Nat) (by omega))
      have hh := held_cut (lo := (0 : Nat)) HB.out.len hcm hI6 rfl (by have := HLO.out; omega)
      rw [HHS.out] at hh
      have HH := Lib.hid hh
      have HI6 := Lib.hid hI6
      have RM6 := Lib.hid r5
      have EL6 := Lib.hid hN5.el
      have AT6 : Hid ((k0 s5 (0 : Nat)).at_ = (0 : Nat)) := rfl
      generalize k0 s5 (0 : Nat) = kk6 at *
      clear h5 l5 i5 a5 r5 hN5 hur hI6 hh H4 R4 HI PS RM AT NB3 CB4
      have x0 := R5.out.cellD 0 _ rfl
      have x1 := R5.out.cellD 1 _ rfl
      have x2 := R5.out.cellD 2 _ rfl
      go_wp2_with fail
      refine (lknew (f := 0) (c := 4) H5.out.lf (by rw [EL6.out]; decide) (0 : Nat)).mono ?_
      rw [PS6.out]
      rintro e w6 ⟨cb6, rfl, h6, -, -⟩
      have H6 := Lib.hid h6
      clear h6 H5 R5 x0 x1 x2
      obtain ⟨sh, hsh⟩ : ∃ sh, strOf hs = sh := ⟨_, rfl⟩
      have HSH := Lib.hid hsh
      have qh : (sh.toList == sh.toList) = true := by simp
      obtain ⟨sb, hsb⟩ : ∃ sb, strOf zs = sb := ⟨_, rfl⟩
      have HSB := Lib.hid hsb
      have qb : (sb.toList == sb.toList) = true := by simp
      have CV := Lib.hid (fun w' (hk : Keeps None W w') => show (convert 22 9 (.slice A 0 0)).run Try.prog w' = .ok (.string sh) w' from HSH.out ▸ run_str (SC.out.keeps hk (fun _ _ _ _ _ h => h)))
      have CB := Lib.hid (fun w' (hk : Keeps None W w') => show (convert 22 9 (.slice A 0 0)).run Try.prog w' = .ok (.string sb) w' from HSB.out ▸ run_str (HB.out.keeps hk (fun _ _ _ _ _ h => h)))
      clear hsh hsb
      go_wp2
      obtain ⟨mS, mh⟩ : ∃ S : World → Prop, ∀ w', S w' ↔ (((convert 22 9 (.slice A 0 0)).run Try.prog w' = .ok (.string sh) w')) := ⟨_, fun _ => Iff.rfl⟩
      have mk0 : ∀ x : Memb mS, (convert 22 9 (.slice A 0 0)).run Try.prog x.at_ = .ok (.string sh) x.at_ := fun x => ((mh _).1 x.is)
      have mn : Nonempty (Memb mS) := ⟨⟨(w6).drew, (mh _).2 (CV.out _ H6.out.keeps.drew)⟩⟩
      have mH := Lib.hid mh
      clear mh
      refine wp_region_mix [1, 9, 10, 25] (InS mS) (by kernel_rfl) (by kernel_rfl) (InS.mk ((mH.out _).2 (CV.out _ H6.out.keeps.drew))) ?_
      refine wpMix_seg 1 (by kernel_rfl) (by decide) ?_
      simp only [List.take_succ_cons, List.take_zero, List.drop_succ_cons, List.drop_zero]
      repeat (first | go_big_quiet_step (fail) | (go_big_quiet_want; first | refine quiet_conv mk0 rfl rfl rfl (by simp only [Act.put, List.setIfInBounds_toArray, List.set_cons_succ, List.set_cons_zero]; rfl) ?_; go_big_quiet_on))
      refine wpQuiet_nil ?_
      refine wpMix_eff (by kernel_rfl) ?_
      go_wp2_with fail
      refine (N2.out _ _).mono ?_
      rintro e w' ⟨rfl, rfl⟩
      go_wp2
      refine MixK.on (InS.mk ((mH.out _).2 (CV.out _ H6.out.keeps.drew))) ?_
      refine wpMix_seg 7 (by kernel_rfl) (by decide) ?_
      simp only [List.take_succ_cons, List.take_zero, List.drop_succ_cons, List.drop_zero]
      repeat (first | go_big_quiet_step (fail) | (go_big_quiet_want; first | refine quiet_conv mk0 rfl rfl rfl (by simp only [Act.put, List.setIfInBounds_toArray, List.set_cons_succ, List.set_cons_zero]; rfl) ?_; go_big_quiet_on))
      refine wpQuiet_nil ?_
      refine wpMix_eff (by kernel_rfl) ?_
      go_wp2_with fail
      refine (lkheld H6.out.drew).mono ?_
      rw [HH.out]
      rintro e w7 ⟨v7, rfl, o7, k7⟩
      obtain ⟨A7, c7, rfl, b7⟩ := slice_of_own o7
      rw [LH.out] at b7 ⊢
      have H7 := Lib.hid (H6.out.drew.later k7)
      have sc := run_str b7
      rw [HSH.out] at sc
      clear o7 b7 k7
      go_wp2
      refine MixK.on (InS.mk ((mH.out _).2 ((CV.out _ H7.out.keeps)))) ?_
      refine wpMix_eff (by kernel_rfl) ?_
      go_wp2
      refine MixK.on (InS.mk ((mH.out _).2 ((CV.out _ H7.out.keeps)))) ?_
      refine wpMix_seg 14 (by kernel_rfl) (by decide) ?_
      simp only [List.take_succ_cons, List.take_zero, List.drop_succ_cons, List.drop_zero]
      repeat (first | go_big_quiet_step (fail) | (go_big_quiet_want; first | refine quiet_conv mk0 rfl rfl rfl (by simp only [Act.put, List.setIfInBounds_toArray, List.set_cons_succ, List.set_cons_zero]; rfl) ?_; go_big_quiet_on))
      refine wpQuiet_nil ?_
      refine wpMix_eff (by kernel_rfl) ?_
      go_wp2_with fail
      refine (write4_nrm (N := 0) (m := 0) (zs := zs.drop (0 : Nat)) (ps := []) (fb := []) (fun i => byte_getD HB.out.byte i) okB_255 (okB_can (fun i => byte_getD HB.out.byte i)) H7.out HI6.out (KB.arg SE.out H7.out) (fun i hi => by rw [AT6.out, drop_getD2]) (by have := AT6.out; omega) (by omega) (by decide) IsSl.none rfl (by decide) IsSl.none rfl (by decide) (fun n i z _ h1 h2 => okB_fl i z h1 h2) 0 (RM6.out.less (by omega))).mono ?_
      rintro e w8 ⟨rfl, L8, s8, k8, h8, -, i8, a8, -⟩
      have H8 := Lib.hid h8
      have hml := HB.out.len
      have hbl := i8.core.nrm.bl
      have PK : Hid (s8.peekF 0 0 = zs) := (show s8.peekF ((0 : Nat) : Int) (0 : Int) = zs from peek_eq (a := 0) (n := 0) (by omega) hml fun i hi => by rw [Nat.zero_add]; exact i8.core.low i hi)
      have A8 := Lib.hid a8
      clear h8 i8 a8 hml hbl
      go_wp2
      refine MixK.on (InS.mk ((mH.out _).2 ((CV.out _ H8.out.keeps)))) ?_
      refine wpMix_seg 2 (by kernel_rfl) (by decide) ?_
      simp only [List.take_succ_cons, List.take_zero, List.drop_succ_cons, List.drop_zero]
      repeat (first | go_big_quiet_step (fail) | (go_big_quiet_want; first | refine quiet_conv mk0 rfl rfl rfl (by simp only [Act.put, List.setIfInBounds_toArray, List.set_cons_succ, List.set_cons_zero]; rfl) ?_; go_big_quiet_on))
      refine wpQuiet_nil ?_
      refine wpMix_nil ?_
      clear mk0 mn mH
      go_wp2
      obtain ⟨m2S, m2h⟩ : ∃ S : World → Prop, ∀ w', S w' ↔ (((convert 22 9 (.slice A 0 0)).run Try.prog w' = .ok (.string sb) w')) := ⟨_, fun _ => Iff.rfl⟩
      have m2k0 : ∀ x : Memb m2S, (convert 22 9 (.slice A 0 0)).run Try.prog x.at_ = .ok (.string sb) x.at_ := fun x => ((m2h _).1 x.is)
      have m2n : Nonempty (Memb m2S) := ⟨⟨(w8).drew, (m2h _).2 (CB.out _ H8.out.keeps.drew)⟩⟩
      have m2H := Lib.hid m2h
      clear m2h
      refine wp_region_mix [3, 4, 10] (InS m2S) (by kernel_rfl) (by kernel_rfl) (InS.mk ((m2H.out _).2 (CB.out _ H8.out.keeps.drew))) ?_
      refine wpMix_seg 3 (by kernel_rfl) (by decide) ?_
      simp only [List.take_succ_cons, List.take_zero, List.drop_succ_cons, List.drop_zero]
      repeat (first | go_big_quiet_step (fail) | (go_big_quiet_want; first | refine quiet_conv m2k0 rfl rfl rfl (by simp only [Act.put, List.setIfInBounds_toArray, List.set_cons_succ, List.set_cons_zero]; rfl) ?_; go_big_quiet_on))
      refine wpQuiet_nil ?_
      refine wpMix_eff (by kernel_rfl) ?_
      go_wp2_with fail
      refine (lpeek H8.out.drew.lf 0 0).mono ?_
      rw [PK.out]
      rintro e w9 ⟨v9, rfl, o9, k9⟩
      obtain ⟨A9, c9, rfl, b9⟩ := slice_of_own o9
      rw [HB.out.len] at b9 ⊢
      have H9 := Lib.hid (H8.out.drew.later k9)
      have sd := run_str b9
      rw [HSB.out] at sd
      clear o9 b9 k9
      go_wp2
      refine MixK.on (InS.mk ((m2H.out _).2 ((CB.out _ H9.out.keeps)))) ?_
      refine wpMix_eff (by kernel_rfl) ?_
      go_wp2
      refine MixK.on (InS.mk ((m2H.out _).2 ((CB.out _ H9.out.keeps)))) ?_
      refine wpMix_seg 5 (by kernel_rfl) (by decide) ?_
      simp only [List.take_succ_cons, List.take_zero, List.drop_succ_cons, List.drop_zero]
      repeat (first | go_big_quiet_step (fail) | (go_big_quiet_want; first | refine quiet_conv m2k0 rfl rfl rfl (by simp only [Act.put, List.setIfInBounds_toArray, List.set_cons_succ, List.set_cons_zero]; rfl) ?_; go_big_quiet_on))
      refine wpQuiet_nil ?_
      refine wpMix_eff (by kernel_rfl) ?_
      go_wp2_with fail
      refine (lkat H9.out).mono ?_
      rintro e w' ⟨rfl, rfl⟩
      rw [A8.out]
      go_wp2
      refine MixK.on (InS.mk ((m2H.out _).2 ((CB.out _ H9.out.keeps)))) ?_
      refine wpMix_seg 5 (by kernel_rfl) (by decide) ?_
      simp only [List.take_succ_cons, List.take_zero, List.drop_succ_cons, List.drop_zero]
      repeat (first | go_big_quiet_step (fail) | (go_big_quiet_want; first | refine quiet_conv m2k0 rfl rfl rfl (by simp only [Act.put, List.setIfInBounds_toArray, List.set_cons_succ, List.set_cons_zero]; rfl) ?_; go_big_quiet_on))
      refine wpQuiet_nil ?_
      refine wpMix_nil ?_
      clear m2k0 m2n m2H
      go_wp2
      go_ret
      exact ⟨by first | rfl | simp, H9.out.keeps.below (fun _ _ h => h)⟩
    ·
      -- .slice A 0 cap b[lo:cut], 0 how many bytes are left, HB.out Bs of b[cut:] at W, Bs.zero1 HB.out Bs of b[lo:cut] at W, .slice A 0 cap b, (0 : Nat) the cut, 0 b's length, (0 : Nat) the cut's word
      have SC := Lib.hid (Bs.zero1 HB.out)
      have SE := Lib.hid (HB.out)
      obtain ⟨hs, hhs⟩ : ∃ hs, (zs.drop (0 : Nat)).take ((0 : Nat) - (0 : Nat)) = hs := ⟨_, rfl⟩
      have LH : Hid (hs.length = 0) := by show _ = _; rw [← hhs, List.length_take, List.length_drop, HB.out.len]; omega
      rw [hhs] at SC
      have HHS := Lib.hid hhs
      clear hhs
      go_enter Try.func13, Try.ntmps13
      go_wp2_with fail
      refine (alive4_any W).mono ?_
      rintro e w1 ⟨rfl, K1⟩
      have HK1 := Lib.hid K1
      clear K1
      go_wp2_with fail
      refine (FI.out _ HK1.out).mono ?_
      rintro e w2 ⟨q, L, s, rfl, hF, hS⟩
      have HF := Lib.hid hF
      have hI := start_inv hS.nrm (a := 0) (by decide) okB (fun i => zs.getD i 0) (fun i hi => absurd hi (Nat.not_lt_zero i)) (fun i _ hi => absurd hi (by omega))
      have HI := Lib.hid hI
      have PS := Lib.hid (start_new hS.nrm 0 (by decide))
      have RM := Lib.hid hS.room
      have EL := Lib.hid hS.nrm.el
      have AT : Hid ((k0 s 0).at_ = 0) := rfl
      generalize k0 s 0 = kk at *
      clear hF FI hI hS
      go_wp2_with fail
      refine (lgof HF.out 0 4).mono ?_
      rw [EL.out]
      rintro e w3 ⟨rfl, k3⟩
      rw [ofF_yes (show someB 0 4 ((4 : Nat) : Int) = true from rfl), Int.zero_add]
      have H3 := Lib.hid ((HF.out.later k3).alloc (.cells #[.pointer (some ⟨q, 0, none⟩), .int .i64 0, .int .i64 4] 27))
      have R3 := Lib.hid (Blk.new w3 [.pointer (some ⟨q, 0, none⟩), .int .i64 0, .int .i64 4] 27)
      have NB3 : Hid (¬ L.O w3.heap.size) := fun hO => by have := (HF.out.later k3).at_.lt _ hO; omega
      have SZ3 : Hid (w3.heap.size < (w3.alloc (.cells #[.pointer (some ⟨q, 0, none⟩), .int .i64 0, .int .i64 4] 27)).heap.size) := by show w3.heap.size < _; simp
      clear k3 HF
      go_wp2_with fail
      refine (lknew (f := 0) (c := 4) H3.out (by rw [EL.out]; decide) ((0 : Nat) : Int)).mono ?_
      rw [PS.out]
      rintro e w4 ⟨cb, rfl, h4, c4, k4⟩
      have H4 := Lib.hid h4
      have R4 := Lib.hid (k4.blk R3.out (fun h => h))
      have CB4 : Hid (w3.heap.size ≠ cb) := fun e => by have := SZ3.out; omega
      generalize w3.heap.size = rb at *
      clear h4 H3 R3 SZ3 c4 k4
      go_wp2_with fail
      refine (N2.out _ _).mono ?_
      rintro e w' ⟨rfl, rfl⟩
      go_wp2_with fail
      refine (write4_nrm (N := (0 : Nat)) (zs := zs.take (0 : Nat)) (ps := []) (fb := []) (fun i => byte_getD HB.out.byte i) okB_255 (okB_can (fun i => byte_getD HB.out.byte i)) H4.out HI.out (KB.arg (HB.out.take hcm) H4.out) (fun i hi => by rw [AT.out, Nat.zero_add, take_getD2 _ _ _ hi]) (by rw [AT.out, Nat.zero_add]) (by omega) (by decide) IsSl.none rfl (by decide) IsSl.none rfl (by decide) (fun n i z _ h1 h2 => okB_fl i z h1 h2) 10000000 (RM.out.less (by omega))).mono ?_
      rintro e w5 ⟨rfl, L5, s5, k5, h5, l5, i5, a5, r5⟩
      have H5 := Lib.hid h5
      have R5 := Lib.hid (l5.keeps.blk R4.out (fun h => h.elim NB3.out CB4.out))
      have hN5 := i5.core.nrm
      have hur := i5.core.ur
      have hI6 := start_inv hN5 (a := (0 : Nat)) (by omega) okB (fun i => zs.getD i 0) (fun i hi => i5.core.low i hi) (fun i h1 h2 => i5.core.mid i h1 (by omega))
      have PS6 := Lib.hid (start_new hN5 (0 : Nat) (by omega))
      have hh := held_cut (lo := (0 : Nat)) HB.out.len hcm hI6 rfl (by have := HLO.out; omega)
      rw [HHS.out] at hh
      have HH := Lib.hid hh
      have HI6 := Lib.hid hI6
      have RM6 := Lib.hid r5
      have EL6 := Lib.hid hN5.el
      have AT6 : Hid ((k0 s5 (0 : Nat)).at_ = (0 : Nat)) := rfl
      generalize k0 s5 (0 : Nat) = kk6 at *
      clear h5 l5 i5 a5 r5 hN5 hur hI6 hh H4 R4 HI PS RM AT NB3 CB4
      have x0 := R5.out.cellD 0 _ rfl
      have x1 := R5.out.cellD 1 _ rfl
      have x2 := R5.out.cellD 2 _ rfl
      go_wp2_with fail
      refine (lknew (f := 0) (c := 4) H5.out.lf (by rw [EL6.out]; decide) (0 : Nat)).mono ?_
      rw [PS6.out]
      rintro e w6 ⟨cb6, rfl, h6, -, -⟩
      have H6 := Lib.hid h6
      clear h6 H5 R5 x0 x1 x2
      obtain ⟨sh, hsh⟩ : ∃ sh, strOf hs = sh := ⟨_, rfl⟩
      have HSH := Lib.hid hsh
      have qh : (sh.toList == sh.toList) = true := by simp
      obtain ⟨sb, hsb⟩ : ∃ sb, strOf zs = sb := ⟨_, rfl⟩
      have HSB := Lib.hid hsb
      have qb : (sb.toList == sb.toList) = true := by simp
      have CV := Lib.hid (fun w' (hk : Keeps None W w') => show (convert 22 9 (.slice A 0 cap)).run Try.prog w' = .ok (.string sh) w' from HSH.out ▸ run_str (SC.out.keeps hk (fun _ _ _ _ _ h => h)))
      have CB := Lib.hid (fun w' (hk : Keeps None W w') => show (convert 22 9 (.slice A 0 cap)).run Try.prog w' = .ok (.string sb) w' from HSB.out ▸ run_str (HB.out.keeps hk (fun _ _ _ _ _ h => h)))
      clear hsh hsb
      go_wp2
      obtain ⟨mS, mh⟩ : ∃ S : World → Prop, ∀ w', S w' ↔ (((convert 22 9 (.slice A 0 cap)).run Try.prog w' = .ok (.string sh) w')) := ⟨_, fun _ => Iff.rfl⟩
      have mk0 : ∀ x : Memb mS, (convert 22 9 (.slice A 0 cap)).run Try.prog x.at_ = .ok (.string sh) x.at_ := fun x => ((mh _).1 x.is)
      have mn : Nonempty (Memb mS) := ⟨⟨(w6).drew, (mh _).2 (CV.out _ H6.out.keeps.drew)⟩⟩
      have mH := Lib.hid mh
      clear mh
      refine wp_region_mix [1, 9, 10, 25] (InS mS) (by kernel_rfl) (by kernel_rfl) (InS.mk ((mH.out _).2 (CV.out _ H6.out.keeps.drew))) ?_
      refine wpMix_seg 1 (by kernel_rfl) (by decide) ?_
      simp only [List.take_succ_cons, List.take_zero, List.drop_succ_cons, List.drop_zero]
      repeat (first | go_big_quiet_step (fail) | (go_big_quiet_want; first | refine quiet_conv mk0 rfl rfl rfl (by simp only [Act.put, List.setIfInBounds_toArray, List.set_cons_succ, List.set_cons_zero]; rfl) ?_; go_big_quiet_on))
      refine wpQuiet_nil ?_
      refine wpMix_eff (by kernel_rfl) ?_
      go_wp2_with fail
      refine (N2.out _ _).mono ?_
      rintro e w' ⟨rfl, rfl⟩
      go_wp2
      refine MixK.on (InS.mk ((mH.out _).2 (CV.out _ H6.out.keeps.drew))) ?_
      refine wpMix_seg 7 (by kernel_rfl) (by decide) ?_
      simp only [List.take_succ_cons, List.take_zero, List.drop_succ_cons, List.drop_zero]
      repeat (first | go_big_quiet_step (fail) | (go_big_quiet_want; first | refine quiet_conv mk0 rfl rfl rfl (by simp only [Act.put, List.setIfInBounds_toArray, List.set_cons_succ, List.set_cons_zero]; rfl) ?_; go_big_quiet_on))
      refine wpQuiet_nil ?_
      refine wpMix_eff (by kernel_rfl) ?_
      go_wp2_with fail
      refine (lkheld H6.out.drew).mono ?_
      rw [HH.out]
      rintro e w7 ⟨v7, rfl, o7, k7⟩
      obtain ⟨A7, c7, rfl, b7⟩ := slice_of_own o7
      rw [LH.out] at b7 ⊢
      have H7 := Lib.hid (H6.out.drew.later k7)
      have sc := run_str b7
      rw [HSH.out] at sc
      clear o7 b7 k7
      go_wp2
      refine MixK.on (InS.mk ((mH.out _).2 ((CV.out _ H7.out.keeps)))) ?_
      refine wpMix_eff (by kernel_rfl) ?_
      go_wp2
      refine MixK.on (InS.mk ((mH.out _).2 ((CV.out _ H7.out.keeps)))) ?_
      refine wpMix_seg 14 (by kernel_rfl) (by decide) ?_
      simp only [List.take_succ_cons, List.take_zero, List.drop_succ_cons, List.drop_zero]
      repeat (first | go_big_quiet_step (fail) | (go_big_quiet_want; first | refine quiet_conv mk0 rfl rfl rfl (by simp only [Act.put, List.setIfInBounds_toArray, List.set_cons_succ, List.set_cons_zero]; rfl) ?_; go_big_quiet_on))
      refine wpQuiet_nil ?_
      refine wpMix_eff (by kernel_rfl) ?_
      go_wp2_with fail
      refine (write4_nrm (N := 0) (m := 0) (zs := zs.drop (0 : Nat)) (ps := []) (fb := []) (fun i => byte_getD HB.out.byte i) okB_255 (okB_can (fun i => byte_getD HB.out.byte i)) H7.out HI6.out (KB.arg SE.out H7.out) (fun i hi => by rw [AT6.out, drop_getD2]) (by have := AT6.out; omega) (by omega) (by decide) IsSl.none rfl (by decide) IsSl.none rfl (by decide) (fun n i z _ h1 h2 => okB_fl i z h1 h2) 0 (RM6.out.less (by omega))).mono ?_
      rintro e w8 ⟨rfl, L8, s8, k8, h8, -, i8, a8, -⟩
      have H8 := Lib.hid h8
      have hml := HB.out.len
      have hbl := i8.core.nrm.bl
      have PK : Hid (s8.peekF 0 0 = zs) := (show s8.peekF ((0 : Nat) : Int) (0 : Int) = zs from peek_eq (a := 0) (n := 0) (by omega) hml fun i hi => by rw [Nat.zero_add]; exact i8.core.low i hi)
      have A8 := Lib.hid a8
      clear h8 i8 a8 hml hbl
      go_wp2
      refine MixK.on (InS.mk ((mH.out _).2 ((CV.out _ H8.out.keeps)))) ?_
      refine wpMix_seg 2 (by kernel_rfl) (by decide) ?_
      simp only [List.take_succ_cons, List.take_zero, List.drop_succ_cons, List.drop_zero]
      repeat (first | go_big_quiet_step (fail) | (go_big_quiet_want; first | refine quiet_conv mk0 rfl rfl rfl (by simp only [Act.put, List.setIfInBounds_toArray, List.set_cons_succ, List.set_cons_zero]; rfl) ?_; go_big_quiet_on))
      refine wpQuiet_nil ?_
      refine wpMix_nil ?_
      clear mk0 mn mH
      go_wp2
      obtain ⟨m2S, m2h⟩ : ∃ S : World → Prop, ∀ w', S w' ↔ (((convert 22 9 (.slice A 0 cap)).run Try.prog w' = .ok (.string sb) w')) := ⟨_, fun _ => Iff.rfl⟩
      have m2k0 : ∀ x : Memb m2S, (convert 22 9 (.slice A 0 cap)).run Try.prog x.at_ = .ok (.string sb) x.at_ := fun x => ((m2h _).1 x.is)
      have m2n : Nonempty (Memb m2S) := ⟨⟨(w8).drew, (m2h _).2 (CB.out _ H8.out.keeps.drew)⟩⟩
      have m2H := Lib.hid m2h
      clear m2h
      refine wp_region_mix [3, 4, 10] (InS m2S) (by kernel_rfl) (by kernel_rfl) (InS.mk ((m2H.out _).2 (CB.out _ H8.out.keeps.drew))) ?_
      refine wpMix_seg 3 (by kernel_rfl) (by decide) ?_
      simp only [List.take_succ_cons, List.take_zero, List.drop_succ_cons, List.drop_zero]
      repeat (first | go_big_quiet_step (fail) | (go_big_quiet_want; first | refine quiet_conv m2k0 rfl rfl rfl (by simp only [Act.put, List.setIfInBounds_toArray, List.set_cons_succ, List.set_cons_zero]; rfl) ?_; go_big_quiet_on))
      refine wpQuiet_nil ?_
      refine wpMix_eff (by kernel_rfl) ?_
      go_wp2_with fail
      refine (lpeek H8.out.drew.lf 0 0).mono ?_
      rw [PK.out]
      rintro e w9 ⟨v9, rfl, o9, k9⟩
      obtain ⟨A9, c9, rfl, b9⟩ := slice_of_own o9
      rw [HB.out.len] at b9 ⊢
      have H9 := Lib.hid (H8.out.drew.later k9)
      have sd := run_str b9
      rw [HSB.out] at sd
      clear o9 b9 k9
      go_wp2
      refine MixK.on (InS.mk ((m2H.out _).2 ((CB.out _ H9.out.keeps)))) ?_
      refine wpMix_eff (by kernel_rfl) ?_
      go_wp2
      refine MixK.on (InS.mk ((m2H.out _).2 ((CB.out _ H9.out.keeps)))) ?_
      refine wpMix_seg 5 (by kernel_rfl) (by decide) ?_
      simp only [List.take_succ_cons, List.take_zero, List.drop_succ_cons, List.drop_zero]
      repeat (first | go_big_quiet_step (fail) | (go_big_quiet_want; first | refine quiet_conv m2k0 rfl rfl rfl (by simp only [Act.put, List.setIfInBounds_toArray, List.set_cons_succ, List.set_cons_zero]; rfl) ?_; go_big_quiet_on))
      refine wpQuiet_nil ?_
      refine wpMix_eff (by kernel_rfl) ?_
      go_wp2_with fail
      refine (lkat H9.out).mono ?_
      rintro e w' ⟨rfl, rfl⟩
      rw [A8.out]
      go_wp2
      refine MixK.on (InS.mk ((m2H.out _).2 ((CB.out _ H9.out.keeps)))) ?_
      refine wpMix_seg 5 (by kernel_rfl) (by decide) ?_
      simp only [List.take_succ_cons, List.take_zero, List.drop_succ_cons, List.drop_zero]
      repeat (first | go_big_quiet_step (fail) | (go_big_quiet_want; first | refine quiet_conv m2k0 rfl rfl rfl (by simp only [Act.put, List.setIfInBounds_toArray, List.set_cons_succ, List.set_cons_zero]; rfl) ?_; go_big_quiet_on))
      refine wpQuiet_nil ?_
      refine wpMix_nil ?_
      clear m2k0 m2n m2H
      go_wp2
      go_ret
      exact ⟨by first | rfl | simp, H9.out.keeps.below (fun _ _ h => h)⟩
set_option maxRecDepth 100000 in
theorem CursorGoesOn_lifted (os : Os) (started : os.Started) (H : Type) (enc : TypeId × Value → H) :
    ReturnsInHanded {} Try.checked os 13 .any (Rows.cursorGoesOnSpec.pre6 enc Try.prog Try.f13 Rows.cursorGoesOnRow.domain false) (Rows.cursorGoesOnSpec.post enc Try.prog Try.f13 false true false false) := by
  refine returnsInHanded_of_change (C := Try.checked) Try.own started (by kernel_rfl) Try.func13
    (ChangeSpec.witness6 (enc := enc) (C := Try.checked) false ⟨#[], #[.slice none 0 0, .slice none 0 0, .int .i64 0], []⟩ 8 (by kernel_rfl) (by kernel_rfl) (by kernel_rfl) (by kernel_rfl)) ?_
  intro W base args ds gs before hval0 hW hcnd _
  have hval : ∀ (j : Nat) t v, Try.f13.params[j]? = some t → args[j]? = some v → Value.okWide Try.prog W .any base t v := hval0
  have hW' := hW
  obtain ⟨p, q, hA0, hV, rfl, hfz, hnd⟩ := hW
  have hA : DataW.TrodAll enc Try.prog W 0 (fun _ => true) true Try.f13.params.toList args.toList ds p := hA0
  rw [Try.params13] at hA hval
  obtain ⟨v0, vs0, d0, ds0, p0, q0, hargs, rfl, rfl, h0, r0⟩ := trodAll_cons hA
  obtain ⟨v1, vs1, d1, ds1, p1, q1, rfl, rfl, rfl, h1, r1⟩ := trodAll_cons r0
  obtain ⟨v2, vs2, d2, ds2, p2, q2, rfl, rfl, rfl, h2, r2⟩ := trodAll_cons r1
  obtain ⟨rfl, rfl, rfl⟩ := trodAll_nil r2
  obtain rfl : args = #[v0, v1, v2] := by cases args; simp_all
  obtain ⟨rfl, rfl⟩ := trodVars_none hV
  have k0 := h0
  have lt0 : ∀ x ∈ p0, x.block < W.heap.size := by obtain ⟨m, hm⟩ := k0; exact DataW.trod_lt m _ _ _ hm
  obtain ⟨a0, len0, cap0, rfl⟩ := okWide_slice Try.underlying22 (hval 0 22 v0 rfl rfl)
  obtain ⟨z0, s0⟩ := open_bs h0
  have k1 := h1
  have lt1 : ∀ x ∈ p1, x.block < W.heap.size := by obtain ⟨m, hm⟩ := k1; exact DataW.trod_lt m _ _ _ hm
  obtain ⟨a1, len1, cap1, rfl⟩ := okWide_slice Try.underlying22 (hval 1 22 v1 rfl rfl)
  obtain ⟨z1, s1⟩ := open_bs h1
  have k2 := h2
  have lt2 : ∀ x ∈ p2, x.block < W.heap.size := by obtain ⟨m, hm⟩ := k2; exact DataW.trod_lt m _ _ _ hm
  obtain ⟨a2, rfl, rfl, rfl, w2⟩ := open_int Try.underlying3 (hval 2 3 v2 rfl rfl) h2
  clear hA0 hval0
  refine (goes4_any a0 a1 len0 cap0 len1 cap1 z0 z1 a2 W s0 s1).mono fun e W' ⟨he, bel⟩ => ?_
  subst he
  exact ⟨_, rfl, _, _, _, [], _, [], hW', trodAll_mk1 (shut_bool Try.underlying4 _), (trodAll_cons_mk (Below.trod Try.laidOut (by kernel_rfl) (of_decide_eq_true (by kernel_rfl)) k0 bel lt0) (trodAll_cons_mk (Below.trod Try.laidOut (by kernel_rfl) (of_decide_eq_true (by kernel_rfl)) k1 bel lt1) (trodAll_cons_mk (Below.trod Try.laidOut (by kernel_rfl) (of_decide_eq_true (by kernel_rfl)) k2 bel lt2) trodAll_mk0))), rfl, bel.frame _, fun h => by cases h⟩

set_option maxRecDepth 100000 in
theorem CursorGoesOn_closed : joinedFacts Try.checked.prog 13 Try.f13 Rows.cursorGoesOnSpec Rows.cursorGoesOnRow = true := by
  unfold joinedFacts
  rw [closed_laid, closed_maps, closed_heard, closed_plain, closed_mayEnter, closed_lifts, closed_make]
  kernel_rfl

theorem CursorGoesOn_holds : Rows.CursorGoesOnSaid :=
  OpenClaim.holds_of_wide 13 Try.f13 rfl rfl rfl rfl rfl rfl rfl ⟨rfl, rfl, rfl, rfl, rfl⟩ rfl rfl rfl rfl rfl (by kernel_rfl) Try.func13 CursorGoesOn_closed
    (of_decide_eq_true (by kernel_rfl)) (by unfold Func.isWrapper; first | (rw [if_pos (by decide +kernel)]; kernel_rfl) | (rw [if_neg (by decide +kernel)]; exact ⟨rfl, rfl⟩))
    (fun os started H enc _ => CursorGoesOn_lifted os started H enc)
#print axioms CursorGoesOn_holds
end Go.Proofs.Ytngofnlhbhfigaa
