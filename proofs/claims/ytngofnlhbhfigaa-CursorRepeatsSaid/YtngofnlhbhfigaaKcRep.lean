/-
  For every filling, row of bytes, cut, moment of the power loss and rest of the broken step, the law CursorRepeats returns true: the bytes since the last Flush can be written again. No condition.
-/
import Derived.Test.YtngofnlhbhfigaaKcArm
import Derived.Test.YtngofnlhbhfigaaKcOnce
namespace Go.Proofs.Ytngofnlhbhfigaa
open Go.RowKit Go.ChangeShapes Go.WideShapes Go.ChangeAt

theorem Bs.dropAllR {w : World} {b off m : Nat} {zs : List Int} (h : Bs w (some ⟨b, off, none⟩) m m zs) : Bs w (some ⟨b, off, none⟩) 0 0 (zs.drop m) := by
  rw [List.drop_of_length_le (by rw [h.len]; exact Nat.le_refl _)]
  exact Bs.empty w _ 0 (by decide)
theorem saf_start {N cut : Nat} {D b0 er0 : Nat → Int} (hD : ∀ i, 0 ≤ D i ∧ D i ≤ 255) {s : FS} {k : KS} {r0 : Nat} (h : KInv 4 okB D b0 er0 r0 s k cut) (ha : k.at_ = cut) (hc : cut ≤ N) (hb : ∀ z ∈ s.b, 0 ≤ z ∧ z ≤ 255) (hw : ∀ z ∈ k.word, 0 ≤ z ∧ z ≤ 255) {ps : List Int} (hp : ∀ z ∈ ps, 0 ≤ z ∧ z ≤ 255) {after : Int} (h0 : ¬ after < 0) :
    SafK 4 N cut ((cut + 1023) / 1024) D (s.armF after ps) k := by
  have hur := h.core.ur
  have hn := h.n7
  unfold FS.armF
  rw [if_neg h0]
  exact ⟨⟨h.core.nrm.bl, h.core.nrm.el, hb, hp, h.core.low, fun i h1 h2 => by
    have e : s.b.getD i 0 = 255 := h.core.mid i h1 (by omega)
    show canB (s.b.getD i 0) _
    rw [e]; exact canB_255 (endD_byte hD i)⟩, h.core.len, hw, h.core.word, h.core.na, by omega, by omega, by omega⟩
theorem Room.arm {s : FS} {m : Nat} (h : Room s m) (after : Int) (ps : List Int) : Room (s.armF after ps) m := by
  unfold FS.armF
  split
  · exact ⟨h.st, h.er⟩
  · exact ⟨h.st, h.er⟩
theorem Saf.boot {N u R : Nat} {D : Nat → Int} {s : FS} (h : Saf 4 N u R D s) : Nrm 4 s.bootF := ⟨rfl, (show (-1 : Int) < 0 by decide), h.bl, h.el⟩
def okE (N : Nat) (D : Nat → Int) (i : Nat) (z : Int) : Prop := canB z (endD N D i)
theorem okE_255 {N : Nat} {D : Nat → Int} (hD : ∀ i, 0 ≤ D i ∧ D i ≤ 255) (i : Nat) : okE N D i 255 := canB_255 (endD_byte hD i)
theorem okE_can {N : Nat} {D : Nat → Int} (i : Nat) (z : Int) (hi : i < N) (h : okE N D i z) : canB z (D i) := by
  unfold okE endD at h; rwa [if_pos hi] at h
theorem okE_fl {N : Nat} {D : Nat → Int} (i : Nat) (z : Int) (hi : N ≤ i) (h : okE N D i z) : canB z 255 := by
  unfold okE endD at h; rwa [if_neg (by omega)] at h
theorem Saf.start {N u : Nat} {D : Nat → Int} {s : FS} (h : Saf 4 N u ((u + 1023) / 1024) D s) (hu : u ≤ 4096) :
    KInv 4 (okE N D) D (fun i => s.bootF.b.getD i 0) (fun x => s.bootF.er.getD x 0) ((u + 1023) / 1024) s.bootF (k0 s.bootF u) u :=
  start_inv h.boot hu (okE N D) D h.low h.mid
theorem rep_db {zs : List Int} (h : ∀ z ∈ zs, 0 ≤ z ∧ z ≤ 255) : ∀ i, 0 ≤ (fun i => zs.getD i 0) i ∧ (fun i => zs.getD i 0) i ≤ 255 := fun i => byte_getD h i
theorem rep_ok1 {zs : List Int} (N : Nat) (h : ∀ z ∈ zs, 0 ≤ z ∧ z ≤ 255) : ∀ i, okE N (fun i => zs.getD i 0) i 255 := okE_255 (rep_db h)
theorem rep_ok2 (N : Nat) (zs : List Int) : ∀ i z, i < N → okE N (fun i => zs.getD i 0) i z → canB z ((fun i => zs.getD i 0) i) := fun i z hi h => okE_can (D := fun i => zs.getD i 0) i z hi h
theorem rep_ok3 (N : Nat) (zs : List Int) : ∀ i z, N ≤ i → okE N (fun i => zs.getD i 0) i z → canB z 255 := fun i z hi h => okE_fl (D := fun i => zs.getD i 0) i z hi h
set_option maxRecDepth 100000 in
set_option maxHeartbeats 3200000 in
theorem rep4_any (A0 A A2 : Option Addr) (m0 c0 m cap m2 c2 : Nat) (zs0 zs ps : List Int) (cut after : Int) (W : World) (hax : after ≤ 9223372036854775807) (h0 : Bs W A0 m0 c0 zs0) (h1 : Bs W A m cap zs) (h2 : Bs W A2 m2 c2 ps) :
    Calls Try.prog 15 #[.slice A0 m0 c0, .slice A m cap, .int .i64 cut, .int .i64 after, .slice A2 m2 c2] W fun e w' => e = .returned (.bool true) ∧ Below W.heap.size W w' := by
  have l0 := h0.le
  have m9 := h0.max
  have l1 := h1.le
  have m1 := h1.max
  have l2 := h2.le
  have mx2 := h2.max
  by_cases g1 : 300 < m0
  · have d1 : decide (300 < (m0 : Int)) = true := decide_eq_true (by omega)
    clear h0 h1 h2
    go_enter Try.func15, Try.ntmps15
    go_wp2_with fail
    refine (alive4_any W).mono ?_
    rintro e w1 ⟨rfl, K1⟩
    go_wp2
    go_ret
    exact ⟨rfl, K1.below (fun _ _ h => h)⟩
  have d1 : decide (300 < (m0 : Int)) = false := decide_eq_false (by omega)
  by_cases g2 : 4096 < m
  · have d2 : decide (4096 < (m : Int)) = true := decide_eq_true (by omega)
    clear h0 h1 h2
    go_enter Try.func15, Try.ntmps15
    go_wp2_with fail
    refine (alive4_any W).mono ?_
    rintro e w1 ⟨rfl, K1⟩
    go_wp2
    go_ret
    exact ⟨rfl, K1.below (fun _ _ h => h)⟩
  have d2 : decide (4096 < (m : Int)) = false := decide_eq_false (by omega)
  by_cases g3 : cut < 0
  · have d3 : decide (cut < 0) = true := decide_eq_true g3
    clear h0 h1 h2
    go_enter Try.func15, Try.ntmps15
    go_wp2_with fail
    refine (alive4_any W).mono ?_
    rintro e w1 ⟨rfl, K1⟩
    go_wp2
    go_ret
    exact ⟨rfl, K1.below (fun _ _ h => h)⟩
  have d3 : decide (cut < 0) = false := decide_eq_false g3
  by_cases g4 : (m : Int) < cut
  · have d4 : decide ((m : Int) < cut) = true := decide_eq_true g4
    clear h0 h1 h2
    go_enter Try.func15, Try.ntmps15
    go_wp2_with fail
    refine (alive4_any W).mono ?_
    rintro e w1 ⟨rfl, K1⟩
    go_wp2
    go_ret
    exact ⟨rfl, K1.below (fun _ _ h => h)⟩
  have d4 : decide ((m : Int) < cut) = false := decide_eq_false g4
  by_cases g5 : after < 0
  · have d5 : decide (after < 0) = true := decide_eq_true g5
    clear h0 h1 h2
    go_enter Try.func15, Try.ntmps15
    go_wp2_with fail
    refine (alive4_any W).mono ?_
    rintro e w1 ⟨rfl, K1⟩
    go_wp2
    go_ret
    exact ⟨rfl, K1.below (fun _ _ h => h)⟩
  have d5 : decide (after < 0) = false := decide_eq_false g5
  by_cases g6 : 1024 < m2
  · have d6 : decide (1024 < (m2 : Int)) = true := decide_eq_true (by omega)
    clear h0 h1 h2
    go_enter Try.func15, Try.ntmps15
    go_wp2_with fail
    refine (alive4_any W).mono ?_
    rintro e w1 ⟨rfl, K1⟩
    go_wp2
    go_ret
    exact ⟨rfl, K1.below (fun _ _ h => h)⟩
  have d6 : decide (1024 < (m2 : Int)) = false := decide_eq_false (by omega)
  obtain ⟨cut, rfl⟩ : ∃ x : Nat, cut = x := ⟨cut.toNat, by omega⟩
  have hcm : cut ≤ m := by omega
  have N2 := Lib.hid num4_any
  have FI := Lib.hid (fun w hk => filled4_any A0 m0 c0 zs0 W w hk h0 (by omega))
  have HB := Lib.hid h1
  have HP := Lib.hid h2
  have HA0 := Lib.hid g5
  have HAX := Lib.hid hax
  have hcc : cut ≤ cap := by omega
  have DB := Lib.hid (rep_db h1.byte)
  have OK1 := Lib.hid (rep_ok1 m h1.byte)
  have OK2 := Lib.hid (rep_ok2 m zs)
  have OK3 := Lib.hid (rep_ok3 m zs)
  clear h0 h2 g5 hax
  by_cases hm : 0 < m
  · obtain ⟨b, off, rfl, -, -⟩ := h1.at_ hm
    by_cases hc : cap = cut
    · obtain rfl : m = cut := by omega
      subst hc
      clear h1
      -- 0 how many bytes are left, Bs.dropAllR HB.out Bs of b[cut:] at W, .slice (some ⟨b, off, none⟩) cap cap b, cap the cut, cap b's length
      have SE := Lib.hid (Bs.dropAllR HB.out)
      go_enter Try.func15, Try.ntmps15
      go_wp2_with fail
      refine (alive4_any W).mono ?_
      rintro e w1 ⟨rfl, K1⟩
      have HK1 := Lib.hid K1
      clear K1
      go_wp2_with fail
      refine (FI.out _ HK1.out).mono ?_
      rintro e w2 ⟨q, L, s, rfl, hF, hS⟩
      have HF := Lib.hid hF
      have hI := start_inv hS.nrm (a := 0) (by decide) okB (fun i => zs.getD i 0) (fun i hi => absurd hi (Nat.not_lt_zero i)) (fun i _ hi => absurd hi (by omega))
      have HI := Lib.hid hI
      have PS := Lib.hid (start_new hS.nrm 0 (by decide))
      have RM := Lib.hid hS.room
      have EL := Lib.hid hS.nrm.el
      have AT : Hid ((k0 s 0).at_ = 0) := rfl
      generalize k0 s 0 = kk at *
      clear hF FI hI hS
      go_wp2_with fail
      refine (lgof HF.out 0 4).mono ?_
      rw [EL.out]
      rintro e w3 ⟨rfl, k3⟩
      rw [ofF_yes (show someB 0 4 ((4 : Nat) : Int) = true from rfl), Int.zero_add]
      have H3 := Lib.hid ((HF.out.later k3).alloc (.cells #[.pointer (some ⟨q, 0, none⟩), .int .i64 0, .int .i64 4] 27))
      have R3 := Lib.hid (Blk.new w3 [.pointer (some ⟨q, 0, none⟩), .int .i64 0, .int .i64 4] 27)
      have NB3 : Hid (¬ L.O w3.heap.size) := fun hO => by have := (HF.out.later k3).at_.lt _ hO; omega
      have SZ3 : Hid (w3.heap.size < (w3.alloc (.cells #[.pointer (some ⟨q, 0, none⟩), .int .i64 0, .int .i64 4] 27)).heap.size) := by show w3.heap.size < _; simp
      clear k3 HF
      go_wp2_with fail
      refine (lknew (f := 0) (c := 4) H3.out (by rw [EL.out]; decide) ((0 : Nat) : Int)).mono ?_
      rw [PS.out]
      rintro e w4 ⟨cb, rfl, h4, c4, k4⟩
      have H4 := Lib.hid h4
      have R4 := Lib.hid (k4.blk R3.out (fun h => h))
      have CB4 : Hid (w3.heap.size ≠ cb) := fun e => by have := SZ3.out; omega
      generalize w3.heap.size = rb at *
      clear h4 H3 R3 SZ3 c4 k4
      go_wp2_with fail
      refine (N2.out _ _).mono ?_
      rintro e w' ⟨rfl, rfl⟩
      go_wp2_with fail
      refine (write4_nrm (N := cap) (zs := zs.take cap) (ps := []) (fb := []) (fun i => byte_getD HB.out.byte i) okB_255 (okB_can (fun i => byte_getD HB.out.byte i)) H4.out HI.out (KB.arg (HB.out.take hcm) H4.out) (fun i hi => by rw [AT.out, Nat.zero_add, take_getD2 _ _ _ hi]) (by rw [AT.out, Nat.zero_add]) (by omega) (by decide) IsSl.none rfl (by decide) IsSl.none rfl (by decide) (fun n i z _ h1 h2 => okB_fl i z h1 h2) 10000000 (RM.out.less (by omega))).mono ?_
      rintro e w5 ⟨rfl, L5, s5, k5, h5, l5, i5, a5, r5⟩
      have H5 := Lib.hid h5
      have L5K := Lib.hid l5
      have I5 := Lib.hid (saf_start (N := cap) (fun i => byte_getD HB.out.byte i) i5 a5 (by omega) h5.kat.fl.b.2 h5.kat.by_ HP.out.byte (Int.not_lt.2 HA0.out))
      have N5 : Hid (k5.err = 0 → k5.n < 8) := fun _ => i5.n7
      have A5 := Lib.hid a5
      have RM5 := Lib.hid (r5.arm after ps)
      clear h5 l5 i5 a5 r5 HI PS RM AT EL
      go_wp2_with fail
      refine (larm H5.out.lf (HP.out.keeps H5.out.keeps (fun _ _ _ _ _ h => h)) (by omega) after HAX.out).mono ?_
      rintro e w6 ⟨rfl, L6, -, t6⟩
      have H6 := Lib.hid (H5.out.turn t6)
      have L6K := Lib.hid (L5K.out.trans (KLink.turn cb t6))
      clear t6 L5K H5
      go_wp2_with fail
      refine (write4_saf (N := cap) (m := 0) (zs := zs.drop cap) (fun i => byte_getD HB.out.byte i) (by omega) hcm H6.out I5.out N5.out (KB.arg SE.out H6.out) (fun i hi => by rw [A5.out, drop_getD2]) (by have := A5.out; omega) (by decide) rfl rfl 5000000 (RM5.out.less (by omega))).mono ?_
      rintro e w7 ⟨v7, rfl, L7, s7, k7, h7, l7, i7, r7⟩
      have H7 := Lib.hid h7
      have L7K := Lib.hid (L6K.out.trans l7)
      have EL8 : Hid (s7.bootF.er.length = 4) := i7.el
      have HI8 := Lib.hid (i7.start (by omega))
      have PS8 := Lib.hid (start_new i7.boot cap (by omega))
      have RM8 : Hid (Room s7.bootF 5000000) := ⟨r7.st, r7.er⟩
      have AT8 : Hid ((k0 s7.bootF cap).at_ = cap) := rfl
      clear h7 l7 i7 r7 L6K H6 RM5 I5 N5 A5
      go_wp2_with fail
      refine (lboot H7.out.lf).mono ?_
      rintro e w8 ⟨rfl, L8, -, t8⟩
      have H8 := Lib.hid (H7.out.turn t8)
      have L8K := Lib.hid (L7K.out.trans (KLink.turn cb t8))
      have R8 := Lib.hid (L8K.out.keeps.blk R4.out (fun h => h.elim NB3.out CB4.out))
      generalize s7.bootF = s8 at *
      generalize k0 s8 cap = kk8 at *
      clear t8 L7K L8K H7 H4 R4 NB3 CB4
      have x0 := R8.out.cellD 0 _ rfl
      have x1 := R8.out.cellD 1 _ rfl
      have x2 := R8.out.cellD 2 _ rfl
      go_wp2_with fail
      refine (lknew (f := 0) (c := 4) H8.out.lf (by rw [EL8.out]; decide) cap).mono ?_
      rw [PS8.out]
      rintro e w9 ⟨cb9, rfl, h9, -, -⟩
      have H9 := Lib.hid h9
      clear h9 H8 R8 x0 x1 x2
      obtain ⟨sb, hsb⟩ : ∃ sb, strOf zs = sb := ⟨_, rfl⟩
      have HSB := Lib.hid hsb
      have qb : (sb.toList == sb.toList) = true := by simp
      have CB := Lib.hid (fun w' (hk : Keeps None W w') => show (convert 22 9 (.slice (some ⟨b, off, none⟩) cap cap)).run Try.prog w' = .ok (.string sb) w' from HSB.out ▸ run_str (HB.out.keeps hk (fun _ _ _ _ _ h => h)))
      clear hsb
      go_wp2
      obtain ⟨mS, mh⟩ : ∃ S : World → Prop, ∀ w', S w' ↔ (((convert 22 9 (.slice (some ⟨b, off, none⟩) cap cap)).run Try.prog w' = .ok (.string sb) w')) := ⟨_, fun _ => Iff.rfl⟩
      have mk0 : ∀ x : Memb mS, (convert 22 9 (.slice (some ⟨b, off, none⟩) cap cap)).run Try.prog x.at_ = .ok (.string sb) x.at_ := fun x => ((mh _).1 x.is)
      have mn : Nonempty (Memb mS) := ⟨⟨(w9).drew, (mh _).2 (CB.out _ H9.out.keeps.drew)⟩⟩
      have mH := Lib.hid mh
      clear mh
      refine wp_region_mix [1, 12, 18, 19] (InS mS) (by kernel_rfl) (by kernel_rfl) (InS.mk ((mH.out _).2 (CB.out _ H9.out.keeps.drew))) ?_
      refine wpMix_seg 1 (by kernel_rfl) (by decide) ?_
      simp only [List.take_succ_cons, List.take_zero, List.drop_succ_cons, List.drop_zero]
      repeat (first | go_big_quiet_step (fail) | (go_big_quiet_want; first | refine quiet_conv mk0 rfl rfl rfl (by simp only [Act.put, List.setIfInBounds_toArray, List.set_cons_succ, List.set_cons_zero]; rfl) ?_; go_big_quiet_on))
      refine wpQuiet_nil ?_
      refine wpMix_eff (by kernel_rfl) ?_
      go_wp2_with fail
      refine (N2.out _ _).mono ?_
      rintro e w' ⟨rfl, rfl⟩
      go_wp2
      refine MixK.on (InS.mk ((mH.out _).2 (CB.out _ H9.out.keeps.drew))) ?_
      refine wpMix_seg 10 (by kernel_rfl) (by decide) ?_
      simp only [List.take_succ_cons, List.take_zero, List.drop_succ_cons, List.drop_zero]
      repeat (first | go_big_quiet_step (fail) | (go_big_quiet_want; first | refine quiet_conv mk0 rfl rfl rfl (by simp only [Act.put, List.setIfInBounds_toArray, List.set_cons_succ, List.set_cons_zero]; rfl) ?_; go_big_quiet_on))
      refine wpQuiet_nil ?_
      refine wpMix_eff (by kernel_rfl) ?_
      go_wp2_with fail
      refine (write4_nrm (N := cap) (m := 0) (zs := zs.drop cap) (ps := []) (fb := []) (ok := okE cap (fun i => zs.getD i 0)) (D := fun i => zs.getD i 0) DB.out OK1.out OK2.out H9.out.drew HI8.out (KB.arg SE.out H9.out.drew) (fun i hi => by rw [AT8.out, drop_getD2]) (by have := AT8.out; omega) (by omega) (by decide) IsSl.none rfl (by decide) IsSl.none rfl (by decide) (fun n i z hn h1 h2 => OK3.out i z (by rcases hn with e | e; omega; exact absurd e (by decide)) h2) 0 (RM8.out.less (by omega))).mono ?_
      rintro e wx ⟨rfl, LX, sx, kx, hx, -, ix, ax, -⟩
      have HX := Lib.hid hx
      have hml := HB.out.len
      have hbl := ix.core.nrm.bl
      have PK : Hid (sx.peekF 0 cap = zs) := (show sx.peekF ((0 : Nat) : Int) (cap : Int) = zs from peek_eq (a := 0) (n := cap) (by omega) hml fun i hi => by rw [Nat.zero_add]; exact ix.core.low i hi)
      clear hx ix ax hml hbl
      go_wp2
      refine MixK.on (InS.mk ((mH.out _).2 ((CB.out _ HX.out.keeps)))) ?_
      refine wpMix_seg 5 (by kernel_rfl) (by decide) ?_
      simp only [List.take_succ_cons, List.take_zero, List.drop_succ_cons, List.drop_zero]
      repeat (first | go_big_quiet_step (fail) | (go_big_quiet_want; first | refine quiet_conv mk0 rfl rfl rfl (by simp only [Act.put, List.setIfInBounds_toArray, List.set_cons_succ, List.set_cons_zero]; rfl) ?_; go_big_quiet_on))
      refine wpQuiet_nil ?_
      refine wpMix_eff (by kernel_rfl) ?_
      go_wp2_with fail
      refine (lpeek HX.out.lf 0 cap).mono ?_
      rw [PK.out]
      rintro e wy ⟨vy, rfl, oy, ky⟩
      obtain ⟨AY, cy, rfl, bY⟩ := slice_of_own oy
      rw [HB.out.len] at bY ⊢
      have HY := Lib.hid (HX.out.later ky)
      have sd := run_str bY
      rw [HSB.out] at sd
      clear oy bY ky
      go_wp2
      refine MixK.on (InS.mk ((mH.out _).2 ((CB.out _ HY.out.keeps)))) ?_
      refine wpMix_eff (by kernel_rfl) ?_
      go_wp2
      refine MixK.on (InS.mk ((mH.out _).2 ((CB.out _ HY.out.keeps)))) ?_
      refine wpMix_seg 5 (by kernel_rfl) (by decide) ?_
      simp only [List.take_succ_cons, List.take_zero, List.drop_succ_cons, List.drop_zero]
      repeat (first | go_big_quiet_step (fail) | (go_big_quiet_want; first | refine quiet_conv mk0 rfl rfl rfl (by simp only [Act.put, List.setIfInBounds_toArray, List.set_cons_succ, List.set_cons_zero]; rfl) ?_; go_big_quiet_on))
      refine wpQuiet_nil ?_
      refine wpMix_nil ?_
      clear mk0 mn mH
      go_wp2
      go_ret
      exact ⟨by first | rfl | simp, HY.out.keeps.below (fun _ _ h => h)⟩
    · clear h1
      -- m - cut how many bytes are left, HB.out.drop hcm Bs of b[cut:] at W, .slice (some ⟨b, off, none⟩) m cap b, cut the cut, m b's length
      have SE := Lib.hid (HB.out.drop hcm)
      go_enter Try.func15, Try.ntmps15
      go_wp2_with fail
      refine (alive4_any W).mono ?_
      rintro e w1 ⟨rfl, K1⟩
      have HK1 := Lib.hid K1
      clear K1
      go_wp2_with fail
      refine (FI.out _ HK1.out).mono ?_
      rintro e w2 ⟨q, L, s, rfl, hF, hS⟩
      have HF := Lib.hid hF
      have hI := start_inv hS.nrm (a := 0) (by decide) okB (fun i => zs.getD i 0) (fun i hi => absurd hi (Nat.not_lt_zero i)) (fun i _ hi => absurd hi (by omega))
      have HI := Lib.hid hI
      have PS := Lib.hid (start_new hS.nrm 0 (by decide))
      have RM := Lib.hid hS.room
      have EL := Lib.hid hS.nrm.el
      have AT : Hid ((k0 s 0).at_ = 0) := rfl
      generalize k0 s 0 = kk at *
      clear hF FI hI hS
      go_wp2_with fail
      refine (lgof HF.out 0 4).mono ?_
      rw [EL.out]
      rintro e w3 ⟨rfl, k3⟩
      rw [ofF_yes (show someB 0 4 ((4 : Nat) : Int) = true from rfl), Int.zero_add]
      have H3 := Lib.hid ((HF.out.later k3).alloc (.cells #[.pointer (some ⟨q, 0, none⟩), .int .i64 0, .int .i64 4] 27))
      have R3 := Lib.hid (Blk.new w3 [.pointer (some ⟨q, 0, none⟩), .int .i64 0, .int .i64 4] 27)
      have NB3 : Hid (¬ L.O w3.heap.size) := fun hO => by have := (HF.out.later k3).at_.lt _ hO; omega
      have SZ3 : Hid (w3.heap.size < (w3.alloc (.cells #[.pointer (some ⟨q, 0, none⟩), .int .i64 0, .int .i64 4] 27)).heap.size) := by show w3.heap.size < _; simp
      clear k3 HF
      go_wp2_with fail
      refine (lknew (f := 0) (c := 4) H3.out (by rw [EL.out]; decide) ((0 : Nat) : Int)).mono ?_
      rw [PS.out]
      rintro e w4 ⟨cb, rfl, h4, c4, k4⟩
      have H4 := Lib.hid h4
      have R4 := Lib.hid (k4.blk R3.out (fun h => h))
      have CB4 : Hid (w3.heap.size ≠ cb) := fun e => by have := SZ3.out; omega
      generalize w3.heap.size = rb at *
      clear h4 H3 R3 SZ3 c4 k4
      go_wp2_with fail
      refine (N2.out _ _).mono ?_
      rintro e w' ⟨rfl, rfl⟩
      go_wp2_with fail
      refine (write4_nrm (N := cut) (zs := zs.take cut) (ps := []) (fb := []) (fun i => byte_getD HB.out.byte i) okB_255 (okB_can (fun i => byte_getD HB.out.byte i)) H4.out HI.out (KB.arg (HB.out.take hcm) H4.out) (fun i hi => by rw [AT.out, Nat.zero_add, take_getD2 _ _ _ hi]) (by rw [AT.out, Nat.zero_add]) (by omega) (by decide) IsSl.none rfl (by decide) IsSl.none rfl (by decide) (fun n i z _ h1 h2 => okB_fl i z h1 h2) 10000000 (RM.out.less (by omega))).mono ?_
      rintro e w5 ⟨rfl, L5, s5, k5, h5, l5, i5, a5, r5⟩
      have H5 := Lib.hid h5
      have L5K := Lib.hid l5
      have I5 := Lib.hid (saf_start (N := m) (fun i => byte_getD HB.out.byte i) i5 a5 (by omega) h5.kat.fl.b.2 h5.kat.by_ HP.out.byte (Int.not_lt.2 HA0.out))
      have N5 : Hid (k5.err = 0 → k5.n < 8) := fun _ => i5.n7
      have A5 := Lib.hid a5
      have RM5 := Lib.hid (r5.arm after ps)
      clear h5 l5 i5 a5 r5 HI PS RM AT EL
      go_wp2_with fail
      refine (larm H5.out.lf (HP.out.keeps H5.out.keeps (fun _ _ _ _ _ h => h)) (by omega) after HAX.out).mono ?_
      rintro e w6 ⟨rfl, L6, -, t6⟩
      have H6 := Lib.hid (H5.out.turn t6)
      have L6K := Lib.hid (L5K.out.trans (KLink.turn cb t6))
      clear t6 L5K H5
      go_wp2_with fail
      refine (write4_saf (N := m) (m := m - cut) (zs := zs.drop cut) (fun i => byte_getD HB.out.byte i) (by omega) hcm H6.out I5.out N5.out (KB.arg SE.out H6.out) (fun i hi => by rw [A5.out, drop_getD2]) (by have := A5.out; omega) (by decide) rfl rfl 5000000 (RM5.out.less (by omega))).mono ?_
      rintro e w7 ⟨v7, rfl, L7, s7, k7, h7, l7, i7, r7⟩
      have H7 := Lib.hid h7
      have L7K := Lib.hid (L6K.out.trans l7)
      have EL8 : Hid (s7.bootF.er.length = 4) := i7.el
      have HI8 := Lib.hid (i7.start (by omega))
      have PS8 := Lib.hid (start_new i7.boot cut (by omega))
      have RM8 : Hid (Room s7.bootF 5000000) := ⟨r7.st, r7.er⟩
      have AT8 : Hid ((k0 s7.bootF cut).at_ = cut) := rfl
      clear h7 l7 i7 r7 L6K H6 RM5 I5 N5 A5
      go_wp2_with fail
      refine (lboot H7.out.lf).mono ?_
      rintro e w8 ⟨rfl, L8, -, t8⟩
      have H8 := Lib.hid (H7.out.turn t8)
      have L8K := Lib.hid (L7K.out.trans (KLink.turn cb t8))
      have R8 := Lib.hid (L8K.out.keeps.blk R4.out (fun h => h.elim NB3.out CB4.out))
      generalize s7.bootF = s8 at *
      generalize k0 s8 cut = kk8 at *
      clear t8 L7K L8K H7 H4 R4 NB3 CB4
      have x0 := R8.out.cellD 0 _ rfl
      have x1 := R8.out.cellD 1 _ rfl
      have x2 := R8.out.cellD 2 _ rfl
      go_wp2_with fail
      refine (lknew (f := 0) (c := 4) H8.out.lf (by rw [EL8.out]; decide) cut).mono ?_
      rw [PS8.out]
      rintro e w9 ⟨cb9, rfl, h9, -, -⟩
      have H9 := Lib.hid h9
      clear h9 H8 R8 x0 x1 x2
      obtain ⟨sb, hsb⟩ : ∃ sb, strOf zs = sb := ⟨_, rfl⟩
      have HSB := Lib.hid hsb
      have qb : (sb.toList == sb.toList) = true := by simp
      have CB := Lib.hid (fun w' (hk : Keeps None W w') => show (convert 22 9 (.slice (some ⟨b, off, none⟩) m cap)).run Try.prog w' = .ok (.string sb) w' from HSB.out ▸ run_str (HB.out.keeps hk (fun _ _ _ _ _ h => h)))
      clear hsb
      go_wp2
      obtain ⟨mS, mh⟩ : ∃ S : World → Prop, ∀ w', S w' ↔ (((convert 22 9 (.slice (some ⟨b, off, none⟩) m cap)).run Try.prog w' = .ok (.string sb) w')) := ⟨_, fun _ => Iff.rfl⟩
      have mk0 : ∀ x : Memb mS, (convert 22 9 (.slice (some ⟨b, off, none⟩) m cap)).run Try.prog x.at_ = .ok (.string sb) x.at_ := fun x => ((mh _).1 x.is)
      have mn : Nonempty (Memb mS) := ⟨⟨(w9).drew, (mh _).2 (CB.out _ H9.out.keeps.drew)⟩⟩
      have mH := Lib.hid mh
      clear mh
      refine wp_region_mix [1, 12, 18, 19] (InS mS) (by kernel_rfl) (by kernel_rfl) (InS.mk ((mH.out _).2 (CB.out _ H9.out.keeps.drew))) ?_
      refine wpMix_seg 1 (by kernel_rfl) (by decide) ?_
      simp only [List.take_succ_cons, List.take_zero, List.drop_succ_cons, List.drop_zero]
      repeat (first | go_big_quiet_step (fail) | (go_big_quiet_want; first | refine quiet_conv mk0 rfl rfl rfl (by simp only [Act.put, List.setIfInBounds_toArray, List.set_cons_succ, List.set_cons_zero]; rfl) ?_; go_big_quiet_on))
      refine wpQuiet_nil ?_
      refine wpMix_eff (by kernel_rfl) ?_
      go_wp2_with fail
      refine (N2.out _ _).mono ?_
      rintro e w' ⟨rfl, rfl⟩
      go_wp2
      refine MixK.on (InS.mk ((mH.out _).2 (CB.out _ H9.out.keeps.drew))) ?_
      refine wpMix_seg 10 (by kernel_rfl) (by decide) ?_
      simp only [List.take_succ_cons, List.take_zero, List.drop_succ_cons, List.drop_zero]
      repeat (first | go_big_quiet_step (fail) | (go_big_quiet_want; first | refine quiet_conv mk0 rfl rfl rfl (by simp only [Act.put, List.setIfInBounds_toArray, List.set_cons_succ, List.set_cons_zero]; rfl) ?_; go_big_quiet_on))
      refine wpQuiet_nil ?_
      refine wpMix_eff (by kernel_rfl) ?_
      go_wp2_with fail
      refine (write4_nrm (N := m) (m := m - cut) (zs := zs.drop cut) (ps := []) (fb := []) (ok := okE m (fun i => zs.getD i 0)) (D := fun i => zs.getD i 0) DB.out OK1.out OK2.out H9.out.drew HI8.out (KB.arg SE.out H9.out.drew) (fun i hi => by rw [AT8.out, drop_getD2]) (by have := AT8.out; omega) (by omega) (by decide) IsSl.none rfl (by decide) IsSl.none rfl (by decide) (fun n i z hn h1 h2 => OK3.out i z (by rcases hn with e | e; omega; exact absurd e (by decide)) h2) 0 (RM8.out.less (by omega))).mono ?_
      rintro e wx ⟨rfl, LX, sx, kx, hx, -, ix, ax, -⟩
      have HX := Lib.hid hx
      have hml := HB.out.len
      have hbl := ix.core.nrm.bl
      have PK : Hid (sx.peekF 0 m = zs) := (show sx.peekF ((0 : Nat) : Int) (m : Int) = zs from peek_eq (a := 0) (n := m) (by omega) hml fun i hi => by rw [Nat.zero_add]; exact ix.core.low i hi)
      clear hx ix ax hml hbl
      go_wp2
      refine MixK.on (InS.mk ((mH.out _).2 ((CB.out _ HX.out.keeps)))) ?_
      refine wpMix_seg 5 (by kernel_rfl) (by decide) ?_
      simp only [List.take_succ_cons, List.take_zero, List.drop_succ_cons, List.drop_zero]
      repeat (first | go_big_quiet_step (fail) | (go_big_quiet_want; first | refine quiet_conv mk0 rfl rfl rfl (by simp only [Act.put, List.setIfInBounds_toArray, List.set_cons_succ, List.set_cons_zero]; rfl) ?_; go_big_quiet_on))
      refine wpQuiet_nil ?_
      refine wpMix_eff (by kernel_rfl) ?_
      go_wp2_with fail
      refine (lpeek HX.out.lf 0 m).mono ?_
      rw [PK.out]
      rintro e wy ⟨vy, rfl, oy, ky⟩
      obtain ⟨AY, cy, rfl, bY⟩ := slice_of_own oy
      rw [HB.out.len] at bY ⊢
      have HY := Lib.hid (HX.out.later ky)
      have sd := run_str bY
      rw [HSB.out] at sd
      clear oy bY ky
      go_wp2
      refine MixK.on (InS.mk ((mH.out _).2 ((CB.out _ HY.out.keeps)))) ?_
      refine wpMix_eff (by kernel_rfl) ?_
      go_wp2
      refine MixK.on (InS.mk ((mH.out _).2 ((CB.out _ HY.out.keeps)))) ?_
      refine wpMix_seg 5 (by kernel_rfl) (by decide) ?_
      simp only [List.take_succ_cons, List.take_zero, List.drop_succ_cons, List.drop_zero]
      repeat (first | go_big_quiet_step (fail) | (go_big_quiet_want; first | refine quiet_conv mk0 rfl rfl rfl (by simp only [Act.put, List.setIfInBounds_toArray, List.set_cons_succ, List.set_cons_zero]; rfl) ?_; go_big_quiet_on))
      refine wpQuiet_nil ?_
      refine wpMix_nil ?_
      clear mk0 mn mH
      go_wp2
      go_ret
      exact ⟨by first | rfl | simp, HY.out.keeps.below (fun _ _ h => h)⟩
  · obtain rfl : m = 0 := by omega
    obtain rfl : cut = 0 := by omega
    clear h1
    by_cases hc : cap = 0
    · subst hc
      -- 0 how many bytes are left, HB.out Bs of b[cut:] at W, .slice A 0 0 b, (0 : Nat) the cut, 0 b's length
      have SE := Lib.hid (HB.out)
      go_enter Try.func15, Try.ntmps15
      go_wp2_with fail
      refine (alive4_any W).mono ?_
      rintro e w1 ⟨rfl, K1⟩
      have HK1 := Lib.hid K1
      clear K1
      go_wp2_with fail
      refine (FI.out _ HK1.out).mono ?_
      rintro e w2 ⟨q, L, s, rfl, hF, hS⟩
      have HF := Lib.hid hF
      have hI := start_inv hS.nrm (a := 0) (by decide) okB (fun i => zs.getD i 0) (fun i hi => absurd hi (Nat.not_lt_zero i)) (fun i _ hi => absurd hi (by omega))
      have HI := Lib.hid hI
      have PS := Lib.hid (start_new hS.nrm 0 (by decide))
      have RM := Lib.hid hS.room
      have EL := Lib.hid hS.nrm.el
      have AT : Hid ((k0 s 0).at_ = 0) := rfl
      generalize k0 s 0 = kk at *
      clear hF FI hI hS
      go_wp2_with fail
      refine (lgof HF.out 0 4).mono ?_
      rw [EL.out]
      rintro e w3 ⟨rfl, k3⟩
      rw [ofF_yes (show someB 0 4 ((4 : Nat) : Int) = true from rfl), Int.zero_add]
      have H3 := Lib.hid ((HF.out.later k3).alloc (.cells #[.pointer (some ⟨q, 0, none⟩), .int .i64 0, .int .i64 4] 27))
      have R3 := Lib.hid (Blk.new w3 [.pointer (some ⟨q, 0, none⟩), .int .i64 0, .int .i64 4] 27)
      have NB3 : Hid (¬ L.O w3.heap.size) := fun hO => by have := (HF.out.later k3).at_.lt _ hO; omega
      have SZ3 : Hid (w3.heap.size < (w3.alloc (.cells #[.pointer (some ⟨q, 0, none⟩), .int .i64 0, .int .i64 4] 27)).heap.size) := by show w3.heap.size < _; simp
      clear k3 HF
      go_wp2_with fail
      refine (lknew (f := 0) (c := 4) H3.out (by rw [EL.out]; decide) ((0 : Nat) : Int)).mono ?_
      rw [PS.out]
      rintro e w4 ⟨cb, rfl, h4, c4, k4⟩
      have H4 := Lib.hid h4
      have R4 := Lib.hid (k4.blk R3.out (fun h => h))
      have CB4 : Hid (w3.heap.size ≠ cb) := fun e => by have := SZ3.out; omega
      generalize w3.heap.size = rb at *
      clear h4 H3 R3 SZ3 c4 k4
      go_wp2_with fail
      refine (N2.out _ _).mono ?_
      rintro e w' ⟨rfl, rfl⟩
      go_wp2_with fail
      refine (write4_nrm (N := (0 : Nat)) (zs := zs.take (0 : Nat)) (ps := []) (fb := []) (fun i => byte_getD HB.out.byte i) okB_255 (okB_can (fun i => byte_getD HB.out.byte i)) H4.out HI.out (KB.arg (HB.out.take hcm) H4.out) (fun i hi => by rw [AT.out, Nat.zero_add, take_getD2 _ _ _ hi]) (by rw [AT.out, Nat.zero_add]) (by omega) (by decide) IsSl.none rfl (by decide) IsSl.none rfl (by decide) (fun n i z _ h1 h2 => okB_fl i z h1 h2) 10000000 (RM.out.less (by omega))).mono ?_
      rintro e w5 ⟨rfl, L5, s5, k5, h5, l5, i5, a5, r5⟩
      have H5 := Lib.hid h5
      have L5K := Lib.hid l5
      have I5 := Lib.hid (saf_start (N := 0) (fun i => byte_getD HB.out.byte i) i5 a5 (by omega) h5.kat.fl.b.2 h5.kat.by_ HP.out.byte (Int.not_lt.2 HA0.out))
      have N5 : Hid (k5.err = 0 → k5.n < 8) := fun _ => i5.n7
      have A5 := Lib.hid a5
      have RM5 := Lib.hid (r5.arm after ps)
      clear h5 l5 i5 a5 r5 HI PS RM AT EL
      go_wp2_with fail
      refine (larm H5.out.lf (HP.out.keeps H5.out.keeps (fun _ _ _ _ _ h => h)) (by omega) after HAX.out).mono ?_
      rintro e w6 ⟨rfl, L6, -, t6⟩
      have H6 := Lib.hid (H5.out.turn t6)
      have L6K := Lib.hid (L5K.out.trans (KLink.turn cb t6))
      clear t6 L5K H5
      go_wp2_with fail
      refine (write4_saf (N := 0) (m := 0) (zs := zs.drop (0 : Nat)) (fun i => byte_getD HB.out.byte i) (by omega) hcm H6.out I5.out N5.out (KB.arg SE.out H6.out) (fun i hi => by rw [A5.out, drop_getD2]) (by have := A5.out; omega) (by decide) rfl rfl 5000000 (RM5.out.less (by omega))).mono ?_
      rintro e w7 ⟨v7, rfl, L7, s7, k7, h7, l7, i7, r7⟩
      have H7 := Lib.hid h7
      have L7K := Lib.hid (L6K.out.trans l7)
      have EL8 : Hid (s7.bootF.er.length = 4) := i7.el
      have HI8 := Lib.hid (i7.start (by omega))
      have PS8 := Lib.hid (start_new i7.boot (0 : Nat) (by omega))
      have RM8 : Hid (Room s7.bootF 5000000) := ⟨r7.st, r7.er⟩
      have AT8 : Hid ((k0 s7.bootF (0 : Nat)).at_ = (0 : Nat)) := rfl
      clear h7 l7 i7 r7 L6K H6 RM5 I5 N5 A5
      go_wp2_with fail
      refine (lboot H7.out.lf).mono ?_
      rintro e w8 ⟨rfl, L8, -, t8⟩
      have H8 := Lib.hid (H7.out.turn t8)
      have L8K := Lib.hid (L7K.out.trans (KLink.turn cb t8))
      have R8 := Lib.hid (L8K.out.keeps.blk R4.out (fun h => h.elim NB3.out CB4.out))
      generalize s7.bootF = s8 at *
      generalize k0 s8 (0 : Nat) = kk8 at *
      clear t8 L7K L8K H7 H4 R4 NB3 CB4
      have x0 := R8.out.cellD 0 _ rfl
      have x1 := R8.out.cellD 1 _ rfl
      have x2 := R8.out.cellD 2 _ rfl
      go_wp2_with fail
      refine (lknew (f := 0) (c := 4) H8.out.lf (by rw [EL8.out]; decide) (0 : Nat)).mono ?_
      rw [PS8.out]
      rintro e w9 ⟨cb9, rfl, h9, -, -⟩
      have H9 := Lib.hid h9
      clear h9 H8 R8 x0 x1 x2
      obtain ⟨sb, hsb⟩ : ∃ sb, strOf zs = sb := ⟨_, rfl⟩
      have HSB := Lib.hid hsb
      have qb : (sb.toList == sb.toList) = true := by simp
      have CB := Lib.hid (fun w' (hk : Keeps None W w') => show (convert 22 9 (.slice A 0 0)).run Try.prog w' = .ok (.string sb) w' from HSB.out ▸ run_str (HB.out.keeps hk (fun _ _ _ _ _ h => h)))
      clear hsb
      go_wp2
      obtain ⟨mS, mh⟩ : ∃ S : World → Prop, ∀ w', S w' ↔ (((convert 22 9 (.slice A 0 0)).run Try.prog w' = .ok (.string sb) w')) := ⟨_, fun _ => Iff.rfl⟩
      have mk0 : ∀ x : Memb mS, (convert 22 9 (.slice A 0 0)).run Try.prog x.at_ = .ok (.string sb) x.at_ := fun x => ((mh _).1 x.is)
      have mn : Nonempty (Memb mS) := ⟨⟨(w9).drew, (mh _).2 (CB.out _ H9.out.keeps.drew)⟩⟩
      have mH := Lib.hid mh
      clear mh
      refine wp_region_mix [1, 12, 18, 19] (InS mS) (by kernel_rfl) (by kernel_rfl) (InS.mk ((mH.out _).2 (CB.out _ H9.out.keeps.drew))) ?_
      refine wpMix_seg 1 (by kernel_rfl) (by decide) ?_
      simp only [List.take_succ_cons, List.take_zero, List.drop_succ_cons, List.drop_zero]
      repeat (first | go_big_quiet_step (fail) | (go_big_quiet_want; first | refine quiet_conv mk0 rfl rfl rfl (by simp only [Act.put, List.setIfInBounds_toArray, List.set_cons_succ, List.set_cons_zero]; rfl) ?_; go_big_quiet_on))
      refine wpQuiet_nil ?_
      refine wpMix_eff (by kernel_rfl) ?_
      go_wp2_with fail
      refine (N2.out _ _).mono ?_
      rintro e w' ⟨rfl, rfl⟩
      go_wp2
      refine MixK.on (InS.mk ((mH.out _).2 (CB.out _ H9.out.keeps.drew))) ?_
      refine wpMix_seg 10 (by kernel_rfl) (by decide) ?_
      simp only [List.take_succ_cons, List.take_zero, List.drop_succ_cons, List.drop_zero]
      repeat (first | go_big_quiet_step (fail) | (go_big_quiet_want; first | refine quiet_conv mk0 rfl rfl rfl (by simp only [Act.put, List.setIfInBounds_toArray, List.set_cons_succ, List.set_cons_zero]; rfl) ?_; go_big_quiet_on))
      refine wpQuiet_nil ?_
      refine wpMix_eff (by kernel_rfl) ?_
      go_wp2_with fail
      refine (write4_nrm (N := 0) (m := 0) (zs := zs.drop (0 : Nat)) (ps := []) (fb := []) (ok := okE 0 (fun i => zs.getD i 0)) (D := fun i => zs.getD i 0) DB.out OK1.out OK2.out H9.out.drew HI8.out (KB.arg SE.out H9.out.drew) (fun i hi => by rw [AT8.out, drop_getD2]) (by have := AT8.out; omega) (by omega) (by decide) IsSl.none rfl (by decide) IsSl.none rfl (by decide) (fun n i z hn h1 h2 => OK3.out i z (by rcases hn with e | e; omega; exact absurd e (by decide)) h2) 0 (RM8.out.less (by omega))).mono ?_
      rintro e wx ⟨rfl, LX, sx, kx, hx, -, ix, ax, -⟩
      have HX := Lib.hid hx
      have hml := HB.out.len
      have hbl := ix.core.nrm.bl
      have PK : Hid (sx.peekF 0 0 = zs) := (show sx.peekF ((0 : Nat) : Int) (0 : Int) = zs from peek_eq (a := 0) (n := 0) (by omega) hml fun i hi => by rw [Nat.zero_add]; exact ix.core.low i hi)
      clear hx ix ax hml hbl
      go_wp2
      refine MixK.on (InS.mk ((mH.out _).2 ((CB.out _ HX.out.keeps)))) ?_
      refine wpMix_seg 5 (by kernel_rfl) (by decide) ?_
      simp only [List.take_succ_cons, List.take_zero, List.drop_succ_cons, List.drop_zero]
      repeat (first | go_big_quiet_step (fail) | (go_big_quiet_want; first | refine quiet_conv mk0 rfl rfl rfl (by simp only [Act.put, List.setIfInBounds_toArray, List.set_cons_succ, List.set_cons_zero]; rfl) ?_; go_big_quiet_on))
      refine wpQuiet_nil ?_
      refine wpMix_eff (by kernel_rfl) ?_
      go_wp2_with fail
      refine (lpeek HX.out.lf 0 0).mono ?_
      rw [PK.out]
      rintro e wy ⟨vy, rfl, oy, ky⟩
      obtain ⟨AY, cy, rfl, bY⟩ := slice_of_own oy
      rw [HB.out.len] at bY ⊢
      have HY := Lib.hid (HX.out.later ky)
      have sd := run_str bY
      rw [HSB.out] at sd
      clear oy bY ky
      go_wp2
      refine MixK.on (InS.mk ((mH.out _).2 ((CB.out _ HY.out.keeps)))) ?_
      refine wpMix_eff (by kernel_rfl) ?_
      go_wp2
      refine MixK.on (InS.mk ((mH.out _).2 ((CB.out _ HY.out.keeps)))) ?_
      refine wpMix_seg 5 (by kernel_rfl) (by decide) ?_
      simp only [List.take_succ_cons, List.take_zero, List.drop_succ_cons, List.drop_zero]
      repeat (first | go_big_quiet_step (fail) | (go_big_quiet_want; first | refine quiet_conv mk0 rfl rfl rfl (by simp only [Act.put, List.setIfInBounds_toArray, List.set_cons_succ, List.set_cons_zero]; rfl) ?_; go_big_quiet_on))
      refine wpQuiet_nil ?_
      refine wpMix_nil ?_
      clear mk0 mn mH
      go_wp2
      go_ret
      exact ⟨by first | rfl | simp, HY.out.keeps.below (fun _ _ h => h)⟩
    ·
      -- 0 how many bytes are left, HB.out Bs of b[cut:] at W, .slice A 0 cap b, (0 : Nat) the cut, 0 b's length
      have SE := Lib.hid (HB.out)
      go_enter Try.func15, Try.ntmps15
      go_wp2_with fail
      refine (alive4_any W).mono ?_
      rintro e w1 ⟨rfl, K1⟩
      have HK1 := Lib.hid K1
      clear K1
      go_wp2_with fail
      refine (FI.out _ HK1.out).mono ?_
      rintro e w2 ⟨q, L, s, rfl, hF, hS⟩
      have HF := Lib.hid hF
      have hI := start_inv hS.nrm (a := 0) (by decide) okB (fun i => zs.getD i 0) (fun i hi => absurd hi (Nat.not_lt_zero i)) (fun i _ hi => absurd hi (by omega))
      have HI := Lib.hid hI
      have PS := Lib.hid (start_new hS.nrm 0 (by decide))
      have RM := Lib.hid hS.room
      have EL := Lib.hid hS.nrm.el
      have AT : Hid ((k0 s 0).at_ = 0) := rfl
      generalize k0 s 0 = kk at *
      clear hF FI hI hS
      go_wp2_with fail
      refine (lgof HF.out 0 4).mono ?_
      rw [EL.out]
      rintro e w3 ⟨rfl, k3⟩
      rw [ofF_yes (show someB 0 4 ((4 : Nat) : Int) = true from rfl), Int.zero_add]
      have H3 := Lib.hid ((HF.out.later k3).alloc (.cells #[.pointer (some ⟨q, 0, none⟩), .int .i64 0, .int .i64 4] 27))
      have R3 := Lib.hid (Blk.new w3 [.pointer (some ⟨q, 0, none⟩), .int .i64 0, .int .i64 4] 27)
      have NB3 : Hid (¬ L.O w3.heap.size) := fun hO => by have := (HF.out.later k3).at_.lt _ hO; omega
      have SZ3 : Hid (w3.heap.size < (w3.alloc (.cells #[.pointer (some ⟨q, 0, none⟩), .int .i64 0, .int .i64 4] 27)).heap.size) := by show w3.heap.size < _; simp
      clear k3 HF
      go_wp2_with fail
      refine (lknew (f := 0) (c := 4) H3.out (by rw [EL.out]; decide) ((0 : Nat) : Int)).mono ?_
      rw [PS.out]
      rintro e w4 ⟨cb, rfl, h4, c4, k4⟩
      have H4 := Lib.hid h4
      have R4 := Lib.hid (k4.blk R3.out (fun h => h))
      have CB4 : Hid (w3.heap.size ≠ cb) := fun e => by have := SZ3.out; omega
      generalize w3.heap.size = rb at *
      clear h4 H3 R3 SZ3 c4 k4
      go_wp2_with fail
      refine (N2.out _ _).mono ?_
      rintro e w' ⟨rfl, rfl⟩
      go_wp2_with fail
      refine (write4_nrm (N := (0 : Nat)) (zs := zs.take (0 : Nat)) (ps := []) (fb := []) (fun i => byte_getD HB.out.byte i) okB_255 (okB_can (fun i => byte_getD HB.out.byte i)) H4.out HI.out (KB.arg (HB.out.take hcm) H4.out) (fun i hi => by rw [AT.out, Nat.zero_add, take_getD2 _ _ _ hi]) (by rw [AT.out, Nat.zero_add]) (by omega) (by decide) IsSl.none rfl (by decide) IsSl.none rfl (by decide) (fun n i z _ h1 h2 => okB_fl i z h1 h2) 10000000 (RM.out.less (by omega))).mono ?_
      rintro e w5 ⟨rfl, L5, s5, k5, h5, l5, i5, a5, r5⟩
      have H5 := Lib.hid h5
      have L5K := Lib.hid l5
      have I5 := Lib.hid (saf_start (N := 0) (fun i => byte_getD HB.out.byte i) i5 a5 (by omega) h5.kat.fl.b.2 h5.kat.by_ HP.out.byte (Int.not_lt.2 HA0.out))
      have N5 : Hid (k5.err = 0 → k5.n < 8) := fun _ => i5.n7
      have A5 := Lib.hid a5
      have RM5 := Lib.hid (r5.arm after ps)
      clear h5 l5 i5 a5 r5 HI PS RM AT EL
      go_wp2_with fail
      refine (larm H5.out.lf (HP.out.keeps H5.out.keeps (fun _ _ _ _ _ h => h)) (by omega) after HAX.out).mono ?_
      rintro e w6 ⟨rfl, L6, -, t6⟩
      have H6 := Lib.hid (H5.out.turn t6)
      have L6K := Lib.hid (L5K.out.trans (KLink.turn cb t6))
      clear t6 L5K H5
      go_wp2_with fail
      refine (write4_saf (N := 0) (m := 0) (zs := zs.drop (0 : Nat)) (fun i => byte_getD HB.out.byte i) (by omega) hcm H6.out I5.out N5.out (KB.arg SE.out H6.out) (fun i hi => by rw [A5.out, drop_getD2]) (by have := A5.out; omega) (by decide) rfl rfl 5000000 (RM5.out.less (by omega))).mono ?_
      rintro e w7 ⟨v7, rfl, L7, s7, k7, h7, l7, i7, r7⟩
      have H7 := Lib.hid h7
      have L7K := Lib.hid (L6K.out.trans l7)
      have EL8 : Hid (s7.bootF.er.length = 4) := i7.el
      have HI8 := Lib.hid (i7.start (by omega))
      have PS8 := Lib.hid (start_new i7.boot (0 : Nat) (by omega))
      have RM8 : Hid (Room s7.bootF 5000000) := ⟨r7.st, r7.er⟩
      have AT8 : Hid ((k0 s7.bootF (0 : Nat)).at_ = (0 : Nat)) := rfl
      clear h7 l7 i7 r7 L6K H6 RM5 I5 N5 A5
      go_wp2_with fail
      refine (lboot H7.out.lf).mono ?_
      rintro e w8 ⟨rfl, L8, -, t8⟩
      have H8 := Lib.hid (H7.out.turn t8)
      have L8K := Lib.hid (L7K.out.trans (KLink.turn cb t8))
      have R8 := Lib.hid (L8K.out.keeps.blk R4.out (fun h => h.elim NB3.out CB4.out))
      generalize s7.bootF = s8 at *
      generalize k0 s8 (0 : Nat) = kk8 at *
      clear t8 L7K L8K H7 H4 R4 NB3 CB4
      have x0 := R8.out.cellD 0 _ rfl
      have x1 := R8.out.cellD 1 _ rfl
      have x2 := R8.out.cellD 2 _ rfl
      go_wp2_with fail
      refine (lknew (f := 0) (c := 4) H8.out.lf (by rw [EL8.out]; decide) (0 : Nat)).mono ?_
      rw [PS8.out]
      rintro e w9 ⟨cb9, rfl, h9, -, -⟩
      have H9 := Lib.hid h9
      clear h9 H8 R8 x0 x1 x2
      obtain ⟨sb, hsb⟩ : ∃ sb, strOf zs = sb := ⟨_, rfl⟩
      have HSB := Lib.hid hsb
      have qb : (sb.toList == sb.toList) = true := by simp
      have CB := Lib.hid (fun w' (hk : Keeps None W w') => show (convert 22 9 (.slice A 0 cap)).run Try.prog w' = .ok (.string sb) w' from HSB.out ▸ run_str (HB.out.keeps hk (fun _ _ _ _ _ h => h)))
      clear hsb
      go_wp2
      obtain ⟨mS, mh⟩ : ∃ S : World → Prop, ∀ w', S w' ↔ (((convert 22 9 (.slice A 0 cap)).run Try.prog w' = .ok (.string sb) w')) := ⟨_, fun _ => Iff.rfl⟩
      have mk0 : ∀ x : Memb mS, (convert 22 9 (.slice A 0 cap)).run Try.prog x.at_ = .ok (.string sb) x.at_ := fun x => ((mh _).1 x.is)
      have mn : Nonempty (Memb mS) := ⟨⟨(w9).drew, (mh _).2 (CB.out _ H9.out.keeps.drew)⟩⟩
      have mH := Lib.hid mh
      clear mh
      refine wp_region_mix [1, 12, 18, 19] (InS mS) (by kernel_rfl) (by kernel_rfl) (InS.mk ((mH.out _).2 (CB.out _ H9.out.keeps.drew))) ?_
      refine wpMix_seg 1 (by kernel_rfl) (by decide) ?_
      simp only [List.take_succ_cons, List.take_zero, List.drop_succ_cons, List.drop_zero]
      repeat (first | go_big_quiet_step (fail) | (go_big_quiet_want; first | refine quiet_conv mk0 rfl rfl rfl (by simp only [Act.put, List.setIfInBounds_toArray, List.set_cons_succ, List.set_cons_zero]; rfl) ?_; go_big_quiet_on))
      refine wpQuiet_nil ?_
      refine wpMix_eff (by kernel_rfl) ?_
      go_wp2_with fail
      refine (N2.out _ _).mono ?_
      rintro e w' ⟨rfl, rfl⟩
      go_wp2
      refine MixK.on (InS.mk ((mH.out _).2 (CB.out _ H9.out.keeps.drew))) ?_
      refine wpMix_seg 10 (by kernel_rfl) (by decide) ?_
      simp only [List.take_succ_cons, List.take_zero, List.drop_succ_cons, List.drop_zero]
      repeat (first | go_big_quiet_step (fail) | (go_big_quiet_want; first | refine quiet_conv mk0 rfl rfl rfl (by simp only [Act.put, List.setIfInBounds_toArray, List.set_cons_succ, List.set_cons_zero]; rfl) ?_; go_big_quiet_on))
      refine wpQuiet_nil ?_
      refine wpMix_eff (by kernel_rfl) ?_
      go_wp2_with fail
      refine (write4_nrm (N := 0) (m := 0) (zs := zs.drop (0 : Nat)) (ps := []) (fb := []) (ok := okE 0 (fun i => zs.getD i 0)) (D := fun i => zs.getD i 0) DB.out OK1.out OK2.out H9.out.drew HI8.out (KB.arg SE.out H9.out.drew) (fun i hi => by rw [AT8.out, drop_getD2]) (by have := AT8.out; omega) (by omega) (by decide) IsSl.none rfl (by decide) IsSl.none rfl (by decide) (fun n i z hn h1 h2 => OK3.out i z (by rcases hn with e | e; omega; exact absurd e (by decide)) h2) 0 (RM8.out.less (by omega))).mono ?_
      rintro e wx ⟨rfl, LX, sx, kx, hx, -, ix, ax, -⟩
      have HX := Lib.hid hx
      have hml := HB.out.len
      have hbl := ix.core.nrm.bl
      have PK : Hid (sx.peekF 0 0 = zs) := (show sx.peekF ((0 : Nat) : Int) (0 : Int) = zs from peek_eq (a := 0) (n := 0) (by omega) hml fun i hi => by rw [Nat.zero_add]; exact ix.core.low i hi)
      clear hx ix ax hml hbl
      go_wp2
      refine MixK.on (InS.mk ((mH.out _).2 ((CB.out _ HX.out.keeps)))) ?_
      refine wpMix_seg 5 (by kernel_rfl) (by decide) ?_
      simp only [List.take_succ_cons, List.take_zero, List.drop_succ_cons, List.drop_zero]
      repeat (first | go_big_quiet_step (fail) | (go_big_quiet_want; first | refine quiet_conv mk0 rfl rfl rfl (by simp only [Act.put, List.setIfInBounds_toArray, List.set_cons_succ, List.set_cons_zero]; rfl) ?_; go_big_quiet_on))
      refine wpQuiet_nil ?_
      refine wpMix_eff (by kernel_rfl) ?_
      go_wp2_with fail
      refine (lpeek HX.out.lf 0 0).mono ?_
      rw [PK.out]
      rintro e wy ⟨vy, rfl, oy, ky⟩
      obtain ⟨AY, cy, rfl, bY⟩ := slice_of_own oy
      rw [HB.out.len] at bY ⊢
      have HY := Lib.hid (HX.out.later ky)
      have sd := run_str bY
      rw [HSB.out] at sd
      clear oy bY ky
      go_wp2
      refine MixK.on (InS.mk ((mH.out _).2 ((CB.out _ HY.out.keeps)))) ?_
      refine wpMix_eff (by kernel_rfl) ?_
      go_wp2
      refine MixK.on (InS.mk ((mH.out _).2 ((CB.out _ HY.out.keeps)))) ?_
      refine wpMix_seg 5 (by kernel_rfl) (by decide) ?_
      simp only [List.take_succ_cons, List.take_zero, List.drop_succ_cons, List.drop_zero]
      repeat (first | go_big_quiet_step (fail) | (go_big_quiet_want; first | refine quiet_conv mk0 rfl rfl rfl (by simp only [Act.put, List.setIfInBounds_toArray, List.set_cons_succ, List.set_cons_zero]; rfl) ?_; go_big_quiet_on))
      refine wpQuiet_nil ?_
      refine wpMix_nil ?_
      clear mk0 mn mH
      go_wp2
      go_ret
      exact ⟨by first | rfl | simp, HY.out.keeps.below (fun _ _ h => h)⟩
set_option maxRecDepth 100000 in
theorem CursorRepeats_lifted (os : Os) (started : os.Started) (H : Type) (enc : TypeId × Value → H) :
    ReturnsInHanded {} Try.checked os 15 .any (Rows.cursorRepeatsSpec.pre6 enc Try.prog Try.f15 Rows.cursorRepeatsRow.domain false) (Rows.cursorRepeatsSpec.post enc Try.prog Try.f15 false true false false) := by
  refine returnsInHanded_of_change (C := Try.checked) Try.own started (by kernel_rfl) Try.func15
    (ChangeSpec.witness6 (enc := enc) (C := Try.checked) false ⟨#[], #[.slice none 0 0, .slice none 0 0, .int .i64 0, .int .i64 0, .slice none 0 0], []⟩ 8 (by kernel_rfl) (by kernel_rfl) (by kernel_rfl) (by kernel_rfl)) ?_
  intro W base args ds gs before hval0 hW hcnd _
  have hval : ∀ (j : Nat) t v, Try.f15.params[j]? = some t → args[j]? = some v → Value.okWide Try.prog W .any base t v := hval0
  have hW' := hW
  obtain ⟨p, q, hA0, hV, rfl, hfz, hnd⟩ := hW
  have hA : DataW.TrodAll enc Try.prog W 0 (fun _ => true) true Try.f15.params.toList args.toList ds p := hA0
  rw [Try.params15] at hA hval
  obtain ⟨v0, vs0, d0, ds0, p0, q0, hargs, rfl, rfl, h0, r0⟩ := trodAll_cons hA
  obtain ⟨v1, vs1, d1, ds1, p1, q1, rfl, rfl, rfl, h1, r1⟩ := trodAll_cons r0
  obtain ⟨v2, vs2, d2, ds2, p2, q2, rfl, rfl, rfl, h2, r2⟩ := trodAll_cons r1
  obtain ⟨v3, vs3, d3, ds3, p3, q3, rfl, rfl, rfl, h3, r3⟩ := trodAll_cons r2
  obtain ⟨v4, vs4, d4, ds4, p4, q4, rfl, rfl, rfl, h4, r4⟩ := trodAll_cons r3
  obtain ⟨rfl, rfl, rfl⟩ := trodAll_nil r4
  obtain rfl : args = #[v0, v1, v2, v3, v4] := by cases args; simp_all
  obtain ⟨rfl, rfl⟩ := trodVars_none hV
  have k0 := h0
  have lt0 : ∀ x ∈ p0, x.block < W.heap.size := by obtain ⟨m, hm⟩ := k0; exact DataW.trod_lt m _ _ _ hm
  obtain ⟨a0, len0, cap0, rfl⟩ := okWide_slice Try.underlying22 (hval 0 22 v0 rfl rfl)
  obtain ⟨z0, s0⟩ := open_bs h0
  have k1 := h1
  have lt1 : ∀ x ∈ p1, x.block < W.heap.size := by obtain ⟨m, hm⟩ := k1; exact DataW.trod_lt m _ _ _ hm
  obtain ⟨a1, len1, cap1, rfl⟩ := okWide_slice Try.underlying22 (hval 1 22 v1 rfl rfl)
  obtain ⟨z1, s1⟩ := open_bs h1
  have k2 := h2
  have lt2 : ∀ x ∈ p2, x.block < W.heap.size := by obtain ⟨m, hm⟩ := k2; exact DataW.trod_lt m _ _ _ hm
  obtain ⟨a2, rfl, rfl, rfl, w2⟩ := open_int Try.underlying3 (hval 2 3 v2 rfl rfl) h2
  have k3 := h3
  have lt3 : ∀ x ∈ p3, x.block < W.heap.size := by obtain ⟨m, hm⟩ := k3; exact DataW.trod_lt m _ _ _ hm
  obtain ⟨a3, rfl, rfl, rfl, w3⟩ := open_int Try.underlying3 (hval 3 3 v3 rfl rfl) h3
  have k4 := h4
  have lt4 : ∀ x ∈ p4, x.block < W.heap.size := by obtain ⟨m, hm⟩ := k4; exact DataW.trod_lt m _ _ _ hm
  obtain ⟨a4, len4, cap4, rfl⟩ := okWide_slice Try.underlying22 (hval 4 22 v4 rfl rfl)
  obtain ⟨z4, s4⟩ := open_bs h4
  clear hA0 hval0
  refine (rep4_any a0 a1 a4 len0 cap0 len1 cap1 len4 cap4 z0 z1 z4 a2 a3 W (wf_i64_bd w3).2 s0 s1 s4).mono fun e W' ⟨he, bel⟩ => ?_
  subst he
  exact ⟨_, rfl, _, _, _, [], _, [], hW', trodAll_mk1 (shut_bool Try.underlying4 _), (trodAll_cons_mk (Below.trod Try.laidOut (by kernel_rfl) (of_decide_eq_true (by kernel_rfl)) k0 bel lt0) (trodAll_cons_mk (Below.trod Try.laidOut (by kernel_rfl) (of_decide_eq_true (by kernel_rfl)) k1 bel lt1) (trodAll_cons_mk (Below.trod Try.laidOut (by kernel_rfl) (of_decide_eq_true (by kernel_rfl)) k2 bel lt2) (trodAll_cons_mk (Below.trod Try.laidOut (by kernel_rfl) (of_decide_eq_true (by kernel_rfl)) k3 bel lt3) (trodAll_cons_mk (Below.trod Try.laidOut (by kernel_rfl) (of_decide_eq_true (by kernel_rfl)) k4 bel lt4) trodAll_mk0))))), rfl, bel.frame _, fun h => by cases h⟩

set_option maxRecDepth 100000 in
theorem CursorRepeats_closed : joinedFacts Try.checked.prog 15 Try.f15 Rows.cursorRepeatsSpec Rows.cursorRepeatsRow = true := by
  unfold joinedFacts
  rw [closed_laid, closed_maps, closed_heard, closed_plain, closed_mayEnter, closed_lifts, closed_make]
  kernel_rfl

theorem CursorRepeats_holds : Rows.CursorRepeatsSaid :=
  OpenClaim.holds_of_wide 15 Try.f15 rfl rfl rfl rfl rfl rfl rfl ⟨rfl, rfl, rfl, rfl, rfl⟩ rfl rfl rfl rfl rfl (by kernel_rfl) Try.func15 CursorRepeats_closed
    (of_decide_eq_true (by kernel_rfl)) (by unfold Func.isWrapper; first | (rw [if_pos (by decide +kernel)]; kernel_rfl) | (rw [if_neg (by decide +kernel)]; exact ⟨rfl, rfl⟩))
    (fun os started H enc _ => CursorRepeats_lifted os started H enc)
#print axioms CursorRepeats_holds
end Go.Proofs.Ytngofnlhbhfigaa
