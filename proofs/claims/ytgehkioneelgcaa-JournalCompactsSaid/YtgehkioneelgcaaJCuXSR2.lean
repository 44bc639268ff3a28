
/- The walk of the reference's PutRecord. -/
import Derived.Test.YtgehkioneelgcaaJCuXSR
namespace Go.Proofs.Ytgehkioneelgcaa
open Go.RowKit

theorem low2_any (n : Nat) (h : n < 65536) (w : World) : Calls Try.prog 33 #[.int .u64 (n : Int), .int .i64 2] w (Cloned w [(n : Int) % 256, (n : Int) / 256]) := by
  have := rslow_any n 2 w (by omega) (by omega)
  rw [lowL_two n h] at this
  exact this
theorem low4_any (n : Nat) (h : n < 4294967296) (w : World) : Calls Try.prog 33 #[.int .u64 (n : Int), .int .i64 4] w (Cloned w (le4 n)) := by
  have := rslow_any n 4 w (by omega) (by omega)
  rw [lowL_four n h] at this
  exact this
set_option maxRecDepth 100000 in
set_option maxHeartbeats 3200000 in
theorem rsput_any (kind seq : Int) (A : Option Addr) (n cap : Nat) (zs : List Int) (w : World) (h : Bs w A n cap zs) (hmx : n ≤ 1000000) :
    Calls Try.prog 17 #[.agg #[.int .i64 kind, .int .i64 seq, .slice A n cap]] w fun e w' => ∃ v, e = .returned v ∧ Own w' w.heap.size v (putL kind seq zs) ∧ Keeps None w w' := by
  have hl := h.len
  by_cases g1 : kind < 1
  · have d1 : decide (kind < 1) = true := decide_eq_true g1
    have HP : Hid (putL kind seq zs = []) := if_neg (fun hf => by obtain ⟨f1, f2, f3, f4, f5⟩ := hf; omega)
    clear h
    go_enter Try.func17, Try.ntmps17
    go_wp2
    go_ret
    exact ⟨_, rfl, by rw [HP.out]; exact Own.nil _ _, (Keeps.refl _ _).alloc _⟩
  have d1 : decide (kind < 1) = false := decide_eq_false g1
  by_cases g2 : 250 < kind
  · have d2 : decide (250 < kind) = true := decide_eq_true g2
    have HP : Hid (putL kind seq zs = []) := if_neg (fun hf => by obtain ⟨f1, f2, f3, f4, f5⟩ := hf; omega)
    clear h
    go_enter Try.func17, Try.ntmps17
    go_wp2
    go_ret
    exact ⟨_, rfl, by rw [HP.out]; exact Own.nil _ _, (Keeps.refl _ _).alloc _⟩
  have d2 : decide (250 < kind) = false := decide_eq_false g2
  by_cases g3 : seq < 0
  · have d3 : decide (seq < 0) = true := decide_eq_true g3
    have HP : Hid (putL kind seq zs = []) := if_neg (fun hf => by obtain ⟨f1, f2, f3, f4, f5⟩ := hf; omega)
    clear h
    go_enter Try.func17, Try.ntmps17
    go_wp2
    go_ret
    exact ⟨_, rfl, by rw [HP.out]; exact Own.nil _ _, (Keeps.refl _ _).alloc _⟩
  have d3 : decide (seq < 0) = false := decide_eq_false g3
  by_cases g4 : 4294967295 < seq
  · have d4 : decide (4294967295 < seq) = true := decide_eq_true g4
    have HP : Hid (putL kind seq zs = []) := if_neg (fun hf => by obtain ⟨f1, f2, f3, f4, f5⟩ := hf; omega)
    clear h
    go_enter Try.func17, Try.ntmps17
    go_wp2
    go_ret
    exact ⟨_, rfl, by rw [HP.out]; exact Own.nil _ _, (Keeps.refl _ _).alloc _⟩
  have d4 : decide (4294967295 < seq) = false := decide_eq_false g4
  by_cases g5 : 512 < n
  · have d5 : decide (512 < (n : Int)) = true := decide_eq_true (by omega)
    have HP : Hid (putL kind seq zs = []) := if_neg (fun hf => by obtain ⟨f1, f2, f3, f4, f5⟩ := hf; omega)
    clear h
    go_enter Try.func17, Try.ntmps17
    go_wp2
    go_ret
    exact ⟨_, rfl, by rw [HP.out]; exact Own.nil _ _, (Keeps.refl _ _).alloc _⟩
  have d5 : decide (512 < (n : Int)) = false := decide_eq_false (by omega)
  obtain ⟨kd, rfl⟩ : ∃ kd : Nat, kind = kd := ⟨kind.toNat, by omega⟩
  obtain ⟨sq, rfl⟩ : ∃ sq : Nat, seq = sq := ⟨seq.toNat, by omega⟩
  have k1 : kd ≤ 250 := by omega
  have k2 : sq < 4294967296 := by omega
  have k3 : n ≤ 512 := by omega
  have HP : Hid (putL kd sq zs = frontL kd sq zs ++ tailL (frontL kd sq zs)) := if_pos ⟨by omega, by omega, by omega, by omega, by omega⟩
  have HB := Lib.hid h
  have HL := Lib.hid hl
  clear h hl g1 g2 g3 g4 g5
  go_enter Try.func17, Try.ntmps17
  go_wp2
  obtain ⟨wb, hwb⟩ : ∃ x, w.alloc (.cells #[.int .i64 kd, .int .i64 sq, .slice A n cap] 40) = x := ⟨_, rfl⟩
  have BB : Hid (Blk wb w.heap.size [.int .i64 kd, .int .i64 sq, .slice A n cap] 40) := by rw [← hwb]; exact Blk.new w [.int .i64 kd, .int .i64 sq, .slice A n cap] 40
  have KB : Hid (Keeps None w wb) := by rw [← hwb]; exact (Keeps.refl None w).alloc _
  rw [hwb]
  clear hwb
  have FOUR := Lib.hid (fun w => low4_any sq k2 w)
  have TWO := Lib.hid (fun w => low2_any n (by omega) w)
  have hhd : ∀ z ∈ [(kd : Int), 0], 0 ≤ z ∧ z ≤ 255 := by
    intro z hz
    simp only [List.mem_cons, List.not_mem_nil, or_false] at hz
    rcases hz with rfl | rfl <;> omega
  have HHD := Lib.hid hhd
  clear hhd
  obtain ⟨mS, mh⟩ : ∃ S : World → Prop, ∀ w', S w' ↔ (w'.cell? ⟨w.heap.size, 0, none⟩ = some (.int .i64 kd) ∧ w'.cell? ⟨w.heap.size, 1, none⟩ = some (.int .i64 sq) ∧ w'.cell? ⟨w.heap.size, 2, none⟩ = some (.slice A n cap)) := ⟨_, fun _ => Iff.rfl⟩
  have mk0 : ∀ x : Memb mS, x.at_.cell? ⟨w.heap.size, 0, none⟩ = some (.int .i64 kd) := fun x => ((mh _).1 x.is).1
  have mk1 : ∀ x : Memb mS, x.at_.cell? ⟨w.heap.size, 1, none⟩ = some (.int .i64 sq) := fun x => ((mh _).1 x.is).2.1
  have mk2 : ∀ x : Memb mS, x.at_.cell? ⟨w.heap.size, 2, none⟩ = some (.slice A n cap) := fun x => ((mh _).1 x.is).2.2
  have mn : Nonempty (Memb mS) := ⟨⟨(wb).drew, (mh _).2 ⟨BB.out.cellD 0 _ rfl, BB.out.cellD 1 _ rfl, BB.out.cellD 2 _ rfl⟩⟩⟩
  have mH := Lib.hid mh
  clear mh
  refine wp_region_mix_swap [3, 8, 9] (InS mS) 0 4 9 3 8 (by kernel_rfl) (by kernel_rfl) (InS.mk ((mH.out _).2 ⟨BB.out.cellD 0 _ rfl, BB.out.cellD 1 _ rfl, BB.out.cellD 2 _ rfl⟩)) ?_ ?_
  ·
    refine wpMix_seg 3 (by kernel_rfl) (by decide) ?_
    simp only [List.take_succ_cons, List.take_zero, List.drop_succ_cons, List.drop_zero, Nat.reduceSub]
    repeat (go_big_quiet_step (fail))
    refine wpQuiet_nil ?_
    refine wpMix_eff (by kernel_rfl) ?_
    go_wp2
    have X1 : Hid (Keeps None wb (wb.drew.alloc (.cells #[.int .u8 kd, .int .u8 0] 5))) := (Keeps.refl None wb).drew.alloc _
    have L1 := Lib.hid (Own.lit wb.drew [(kd : Int), 0] HHD.out (by simp))
    refine MixK.on (InS.mk ((mH.out _).2 (⟨(X1.out.blk BB.out (fun h => h)).cellD 0 _ rfl, (X1.out.blk BB.out (fun h => h)).cellD 1 _ rfl, (X1.out.blk BB.out (fun h => h)).cellD 2 _ rfl⟩))) ?_
    refine wpMix_seg 4 (by kernel_rfl) (by decide) ?_
    simp only [List.take_succ_cons, List.take_zero, List.drop_succ_cons, List.drop_zero, Nat.reduceSub]
    repeat (go_big_quiet_step (fail))
    refine wpQuiet_nil ?_
    refine wpMix_eff (by kernel_rfl) ?_
    go_wp2_with fail
    refine (TWO.out _).mono ?_
    rintro e w2 ⟨v2, rfl, o2, kq⟩
    obtain ⟨A2, cap2, rfl, bs2, -⟩ := o2.shape
    have X2 : Hid (Keeps None wb w2) := X1.out.trans kq (fun _ h => h) (fun _ _ h => h)
    have L2 := Lib.hid (L1.out.keeps kq (fun _ _ h => h))
    have C2 := Lib.hid bs2
    clear o2 kq bs2 X1 L1
    go_wp2
    refine MixK.on (InS.mk ((mH.out _).2 (⟨(X2.out.blk BB.out (fun h => h)).cellD 0 _ rfl, (X2.out.blk BB.out (fun h => h)).cellD 1 _ rfl, (X2.out.blk BB.out (fun h => h)).cellD 2 _ rfl⟩))) ?_
    refine wpMix_eff (by kernel_rfl) ?_
    go_wp2_with (at_builtin; refine Hid.out ?_)
    refine Lib.hid ?_
    refine wpList_append_bs L2.out C2.out (by simp) X2.out.size rfl rfl rfl rfl rfl ?_
    intro v3 w3 ho3 hk3
    have O3 := Lib.hid (show Own w3 wb.heap.size v3 (headL kd sq n) from ho3)
    have X3 : Hid (Keeps None wb w3) := X2.out.trans hk3 (fun _ h => h) (fun i hi e => absurd e (L2.out.notBelow hi))
    clear ho3 hk3 L2 C2 X2
    go_wp2
    refine MixK.on (InS.mk ((mH.out _).2 (⟨(X3.out.blk BB.out (fun h => h)).cellD 0 _ rfl, (X3.out.blk BB.out (fun h => h)).cellD 1 _ rfl, (X3.out.blk BB.out (fun h => h)).cellD 2 _ rfl⟩))) ?_
    refine wpMix_seg 1 (by kernel_rfl) (by decide) ?_
    simp only [List.take_succ_cons, List.take_zero, List.drop_succ_cons, List.drop_zero, Nat.reduceSub]
    repeat (go_big_quiet_step (fail))
    refine wpQuiet_nil ?_
    refine wpMix_nil ?_
    clear mk0 mk1 mk2 mn mH
    -- region 4: X3 : Keeps None wb w3, O3 : Own w3 w.heap.size v3 (headL kd sq n)
    obtain ⟨A3, cap3, rfl, -, -⟩ := O3.out.shape
    have HL3 : Hid ((headL kd sq n).length = 4) := rfl
    rw [HL3.out] at O3 ⊢
    go_wp2
    obtain ⟨mmS, mmh⟩ : ∃ S : World → Prop, ∀ w', S w' ↔ (w'.cell? ⟨w.heap.size, 0, none⟩ = some (.int .i64 kd) ∧ w'.cell? ⟨w.heap.size, 1, none⟩ = some (.int .i64 sq) ∧ w'.cell? ⟨w.heap.size, 2, none⟩ = some (.slice A n cap)) := ⟨_, fun _ => Iff.rfl⟩
    have mmk0 : ∀ x : Memb mmS, x.at_.cell? ⟨w.heap.size, 0, none⟩ = some (.int .i64 kd) := fun x => ((mmh _).1 x.is).1
    have mmk1 : ∀ x : Memb mmS, x.at_.cell? ⟨w.heap.size, 1, none⟩ = some (.int .i64 sq) := fun x => ((mmh _).1 x.is).2.1
    have mmk2 : ∀ x : Memb mmS, x.at_.cell? ⟨w.heap.size, 2, none⟩ = some (.slice A n cap) := fun x => ((mmh _).1 x.is).2.2
    have mmn : Nonempty (Memb mmS) := ⟨⟨(w3).drew, (mmh _).2 ⟨(X3.out.blk BB.out (fun h => h)).cellD 0 _ rfl, (X3.out.blk BB.out (fun h => h)).cellD 1 _ rfl, (X3.out.blk BB.out (fun h => h)).cellD 2 _ rfl⟩⟩⟩
    have mmH := Lib.hid mmh
    clear mmh
    refine wp_region_mix [4, 5, 8] (InS mmS) (by kernel_rfl) (by kernel_rfl) (InS.mk ((mmH.out _).2 ⟨(X3.out.blk BB.out (fun h => h)).cellD 0 _ rfl, (X3.out.blk BB.out (fun h => h)).cellD 1 _ rfl, (X3.out.blk BB.out (fun h => h)).cellD 2 _ rfl⟩)) ?_
    refine wpMix_seg 4 (by kernel_rfl) (by decide) ?_
    simp only [List.take_succ_cons, List.take_zero, List.drop_succ_cons, List.drop_zero]
    repeat (go_big_quiet_step (fail))
    refine wpQuiet_nil ?_
    refine wpMix_eff (by kernel_rfl) ?_
    go_wp2_with fail
    refine (FOUR.out _).mono ?_
    rintro e w4 ⟨v4, rfl, o4, k4⟩
    obtain ⟨A4, cap4, rfl, bs4, -⟩ := o4.shape
    have X4 := Lib.hid (X3.out.drew.trans k4 (T := None) (fun _ h => h) (fun _ _ h => h))
    have O4 := Lib.hid (O3.out.drew.keeps k4 (fun _ _ h => h))
    have C4 := Lib.hid bs4
    clear o4 k4 bs4 O3 X3
    go_wp2
    refine MixK.on (InS.mk ((mmH.out _).2 (⟨(X4.out.blk BB.out (fun h => h)).cellD 0 _ rfl, (X4.out.blk BB.out (fun h => h)).cellD 1 _ rfl, (X4.out.blk BB.out (fun h => h)).cellD 2 _ rfl⟩))) ?_
    refine wpMix_eff (by kernel_rfl) ?_
    go_wp2_with (at_builtin; refine Hid.out ?_)
    refine Lib.hid ?_
    refine wpList_append_bs O4.out C4.out (by rw [HL3.out]; simp [le4]) X4.out.size rfl rfl rfl rfl rfl ?_
    intro v6 w6 ho6 hk6
    have HL6 : Hid ((headL kd sq n ++ le4 sq).length = 8) := rfl
    obtain ⟨A6, cap6, rfl, -, -⟩ := ho6.shape
    have O6 := Lib.hid ho6
    rw [HL6.out] at O6 ⊢
    have X6 := Lib.hid (X4.out.trans hk6 (T := None) (fun _ h => h) (fun i hi e => absurd e (O4.out.notBelow hi)))
    clear ho6 hk6 O4 C4 X4
    go_wp2
    refine MixK.on (InS.mk ((mmH.out _).2 (⟨(X6.out.blk BB.out (fun h => h)).cellD 0 _ rfl, (X6.out.blk BB.out (fun h => h)).cellD 1 _ rfl, (X6.out.blk BB.out (fun h => h)).cellD 2 _ rfl⟩))) ?_
    refine wpMix_seg 2 (by kernel_rfl) (by decide) ?_
    simp only [List.take_succ_cons, List.take_zero, List.drop_succ_cons, List.drop_zero]
    repeat (go_big_quiet_step (fail))
    refine wpQuiet_nil ?_
    refine wpMix_eff (by kernel_rfl) ?_
    go_wp2_with (at_builtin; refine Hid.out ?_)
    refine Lib.hid ?_
    refine wpList_append_bs O6.out ((HB.out.keeps KB.out (fun _ _ _ _ _ h => h)).keeps X6.out (fun _ _ _ _ _ h => h)) (by rw [HL6.out]; omega) X6.out.size rfl rfl rfl rfl rfl ?_
    intro v5 w5 ho5 hk5
    have O5 := Lib.hid (ho5.lower KB.out.size)
    have X5 := Lib.hid (X6.out.trans hk5 (T := None) (fun _ h => h) (fun i hi e => absurd e (O6.out.notBelow hi)))
    clear ho5 hk5 O6 X6
    go_wp2
    refine MixK.on (InS.mk ((mmH.out _).2 (⟨(X5.out.blk BB.out (fun h => h)).cellD 0 _ rfl, (X5.out.blk BB.out (fun h => h)).cellD 1 _ rfl, (X5.out.blk BB.out (fun h => h)).cellD 2 _ rfl⟩))) ?_
    refine wpMix_seg 1 (by kernel_rfl) (by decide) ?_
    simp only [List.take_succ_cons, List.take_zero, List.drop_succ_cons, List.drop_zero]
    repeat (go_big_quiet_step (fail))
    refine wpQuiet_nil ?_
    refine wpMix_nil ?_
    clear mmk0 mmk1 mmk2 mmn mmH
    clear HL3 FOUR TWO
    have KW := Lib.hid (KB.out.trans X5.out (T := None) (fun _ h => h) (fun _ _ h => h))
    have FL : Hid ((headL kd sq n ++ le4 sq ++ zs).length = 8 + n) := by
      show (headL kd sq n ++ le4 sq ++ zs).length = 8 + n
      simp [headL, le4, HL.out]; omega
    have PK : padK n = (8 - n % 8) % 8 := rfl
    have FR : Hid (frontL kd sq zs = headL kd sq n ++ le4 sq ++ zs ++ List.replicate (padK n) 0) := by
      show frontL kd sq zs = _
      unfold frontL; rw [HL.out, Int.toNat_natCast]
    generalize headL kd sq n ++ le4 sq ++ zs = F0 at *
    clear X5 BB HHD
    go_wp2
    go_loopg [3] (padK n) (fun g ov wr => ∃ q : Nat, q + g = padK n ∧ Own wr w.heap.size ov (F0 ++ List.replicate q 0) ∧ Keeps None w wr)
    case atStart => exact ⟨0, by omega, by simpa using O5.out, KW.out⟩
    case round =>
      obtain ⟨q, hqg, hO, hK⟩ := hrel
      obtain ⟨A6, cap6, rfl, bs6, -⟩ := hO.shape
      have hl6 : (F0 ++ List.replicate q (0 : Int)).length = 8 + n + q := by simp [FL.out]
      rw [hl6]
      have HO := Lib.hid hO
      have HK := Lib.hid hK
      have BS6 := Lib.hid bs6
      rw [hl6] at HO BS6
      clear hO hK bs6 KW O5
      by_cases hlt : q < padK n
      · obtain ⟨G, rfl⟩ : ∃ G, gk = G + 1 := ⟨gk - 1, by omega⟩
        have hmod : ((8 + (n : Int) + q) % 8 != 0) = true := by
          have : ¬ (8 + n + q) % 8 = 0 := by omega
          simp; omega
        go_wp2_with (at_builtin; refine Hid.out ?_)
        refine Lib.hid ?_
        refine wpList_append_bs (HO.out.alloc _) (Bs.oneAt _ _ rfl 0 (by decide)) (by simp [FL.out]; omega) (Nat.le_trans HK.out.size (by simp)) rfl rfl rfl rfl rfl ?_
        intro v' w4 ho4 hk4
        have H4 := Lib.hid (show Own w4 w.heap.size v' (F0 ++ List.replicate (q + 1) 0) from by rw [List.replicate_succ', ← List.append_assoc]; exact ho4)
        have K4 := Lib.hid ((HK.out.alloc (.cells #[.int .u8 0] 5)).trans hk4 (T := None) (fun _ h => h) (fun i hi e => absurd e (HO.out.notBelow hi)))
        clear ho4 hk4 HO HK BS6
        go_wp2
        go_roundg G
        case measure => omega
        case rel => exact ⟨q + 1, by omega, H4.out, K4.out⟩
      · obtain rfl : q = padK n := by omega
        have hmod : ((8 + (n : Int) + (padK n : Nat)) % 8 != 0) = false := by
          have : (8 + n + padK n) % 8 = 0 := by omega
          simp; omega
        rw [← FR.out] at BS6 HO
        have pk8 : padK n < 8 := by omega
        clear PK
        generalize padK n = q at *
        have hS := crcOf_lt (natL_lt BS6.out.byte)
        have HF : Hid (tailL (frontL kd sq zs) = le4 (crcOf (natL (frontL kd sq zs))) ++ le4 (crcOf (natL (frontL kd sq zs)) ^^^ 4294967295)) := rfl
        generalize frontL kd sq zs = F at *
        have SU := Lib.hid (fun w h => rsum_any A6 (8 + n + q) cap6 F w h)
        generalize crcOf (natL F) = S at *
        have hT : S ^^^ 4294967295 < 4294967296 := Nat.xor_lt_two_pow (n := 32) hS (by decide)
        have NT := not32 S hS
        have F1 := Lib.hid (fun w => low4_any S hS w)
        have F2 := Lib.hid (fun w => low4_any (S ^^^ 4294967295) hT w)
        generalize S ^^^ 4294967295 = S2 at *
        have WT : IntKind.u64.wrap (S2 : Int) = (S2 : Int) := by simp [IntKind.wrap, IntKind.bits, IntKind.signed]; omega
        have HFL := Lib.hid BS6.out.len
        clear HB FL hlt hqg FR
        go_wp2_with fail
        refine (SU.out _ BS6.out).mono ?_
        rintro e w' ⟨rfl, rfl⟩
        clear SU BS6
        go_wp2_with fail
        with_reducible refine (F1.out _).mono ?_
        rintro e w8 ⟨v8, rfl, o8, k8⟩
        obtain ⟨A8, cap8, rfl, bs8, -⟩ := o8.shape
        have K8 := Lib.hid (HK.out.trans k8 (T := None) (fun _ h => h) (fun _ _ h => h))
        have O8 := Lib.hid (HO.out.keeps k8 (fun _ _ h => h))
        have C8 := Lib.hid bs8
        clear k8 o8 bs8 HO HK F1
        go_wp2_with (at_builtin; refine Hid.out ?_)
        refine Lib.hid ?_
        refine wpList_append_bs O8.out C8.out (by rw [HFL.out]; simp [le4]; omega) K8.out.size rfl rfl rfl rfl rfl ?_
        intro v9 w9 ho9 hk9
        have O9 := Lib.hid ho9
        have K9 := Lib.hid (K8.out.trans hk9 (T := None) (fun _ h => h) (fun i hi e => absurd e (O8.out.notBelow hi)))
        clear ho9 hk9 O8 K8 C8
        go_wp2_with fail
        with_reducible refine (F2.out _).mono ?_
        rintro e w10 ⟨v10, rfl, o10, k10⟩
        obtain ⟨A10, cap10, rfl, bs10, -⟩ := o10.shape
        have K10 := Lib.hid (K9.out.trans k10 (T := None) (fun _ h => h) (fun _ _ h => h))
        have O10 := Lib.hid (O9.out.keeps k10 (fun _ _ h => h))
        have C10 := Lib.hid bs10
        clear k10 o10 bs10 O9 K9 F2 NT
        go_wp2_with (at_builtin; refine Hid.out ?_)
        refine Lib.hid ?_
        refine wpList_append_bs O10.out C10.out (by rw [List.length_append, HFL.out]; simp [le4]; omega) K10.out.size rfl rfl rfl rfl rfl ?_
        intro v11 w11 ho11 hk11
        have OF := Lib.hid (show Own w11 w.heap.size v11 (putL kd sq zs) from by
          rw [HP.out, HF.out, ← List.append_assoc]
          exact ho11)
        have KF := Lib.hid (K10.out.trans hk11 (T := None) (fun _ h => h) (fun i hi e => absurd e (O10.out.notBelow hi)))
        clear ho11 hk11 O10 K10 C10
        go_wp2
        go_ret
        exact ⟨_, rfl, OF.out, KF.out⟩
  ·
    try dsimp only
    try simp only [List.take_succ_cons, List.take_zero, List.drop_succ_cons, List.drop_zero, Nat.reduceSub]
    refine wpMix_nil ?_
    try dsimp only
    try simp only [List.take_succ_cons, List.take_zero, List.drop_succ_cons, List.drop_zero, Nat.reduceSub]
    refine wpMix_seg 4 (by kernel_rfl) (by decide) ?_
    simp only [List.take_succ_cons, List.take_zero, List.drop_succ_cons, List.drop_zero, Nat.reduceSub]
    repeat (go_big_quiet_step (fail))
    refine wpQuiet_nil ?_
    refine wpMix_eff (by kernel_rfl) ?_
    go_wp2_with fail
    refine (TWO.out _).mono ?_
    rintro e w2 ⟨v2, rfl, o2, kq⟩
    obtain ⟨A2, cap2, rfl, bs2, -⟩ := o2.shape
    have X2 : Hid (Keeps None wb w2) := (Keeps.refl None wb).drew.trans kq (fun _ h => h) (fun _ _ h => h)
    have C2 := Lib.hid bs2
    clear o2 kq bs2
    go_wp2
    refine MixK.on (InS.mk ((mH.out _).2 (⟨(X2.out.blk BB.out (fun h => h)).cellD 0 _ rfl, (X2.out.blk BB.out (fun h => h)).cellD 1 _ rfl, (X2.out.blk BB.out (fun h => h)).cellD 2 _ rfl⟩))) ?_
    refine wpMix_nil ?_
    try dsimp only
    try simp only [List.take_succ_cons, List.take_zero, List.drop_succ_cons, List.drop_zero, Nat.reduceSub]
    refine wpMix_seg 3 (by kernel_rfl) (by decide) ?_
    simp only [List.take_succ_cons, List.take_zero, List.drop_succ_cons, List.drop_zero, Nat.reduceSub]
    repeat (go_big_quiet_step (fail))
    refine wpQuiet_nil ?_
    refine wpMix_eff (by kernel_rfl) ?_
    go_wp2
    have X1 : Hid (Keeps None wb (w2.alloc (.cells #[.int .u8 kd, .int .u8 0] 5))) := X2.out.alloc _
    have L2 := Lib.hid ((Own.lit w2 [(kd : Int), 0] HHD.out (by simp)).lower X2.out.size)
    refine MixK.on (InS.mk ((mH.out _).2 (⟨(X1.out.blk BB.out (fun h => h)).cellD 0 _ rfl, (X1.out.blk BB.out (fun h => h)).cellD 1 _ rfl, (X1.out.blk BB.out (fun h => h)).cellD 2 _ rfl⟩))) ?_
    refine wpMix_nil ?_
    try dsimp only
    try simp only [List.take_succ_cons, List.take_zero, List.drop_succ_cons, List.drop_zero, Nat.reduceSub]
    refine wpMix_eff (by kernel_rfl) ?_
    go_wp2_with (at_builtin; refine Hid.out ?_)
    refine Lib.hid ?_
    refine wpList_append_bs L2.out (C2.out.alloc _) (by simp) X1.out.size rfl rfl rfl rfl rfl ?_
    intro v3 w3 ho3 hk3
    have O3 := Lib.hid (show Own w3 wb.heap.size v3 (headL kd sq n) from ho3)
    have X3 : Hid (Keeps None wb w3) := X1.out.trans hk3 (fun _ h => h) (fun i hi e => absurd e (L2.out.notBelow hi))
    clear ho3 hk3 L2 C2 X2 X1
    go_wp2
    refine MixK.on (InS.mk ((mH.out _).2 (⟨(X3.out.blk BB.out (fun h => h)).cellD 0 _ rfl, (X3.out.blk BB.out (fun h => h)).cellD 1 _ rfl, (X3.out.blk BB.out (fun h => h)).cellD 2 _ rfl⟩))) ?_
    refine wpMix_seg 1 (by kernel_rfl) (by decide) ?_
    simp only [List.take_succ_cons, List.take_zero, List.drop_succ_cons, List.drop_zero, Nat.reduceSub]
    repeat (go_big_quiet_step (fail))
    refine wpQuiet_nil ?_
    refine wpMix_nil ?_
    clear mk0 mk1 mk2 mn mH
    -- region 4: X3 : Keeps None wb w3, O3 : Own w3 w.heap.size v3 (headL kd sq n)
    obtain ⟨A3, cap3, rfl, -, -⟩ := O3.out.shape
    have HL3 : Hid ((headL kd sq n).length = 4) := rfl
    rw [HL3.out] at O3 ⊢
    go_wp2
    obtain ⟨mmS, mmh⟩ : ∃ S : World → Prop, ∀ w', S w' ↔ (w'.cell? ⟨w.heap.size, 0, none⟩ = some (.int .i64 kd) ∧ w'.cell? ⟨w.heap.size, 1, none⟩ = some (.int .i64 sq) ∧ w'.cell? ⟨w.heap.size, 2, none⟩ = some (.slice A n cap)) := ⟨_, fun _ => Iff.rfl⟩
    have mmk0 : ∀ x : Memb mmS, x.at_.cell? ⟨w.heap.size, 0, none⟩ = some (.int .i64 kd) := fun x => ((mmh _).1 x.is).1
    have mmk1 : ∀ x : Memb mmS, x.at_.cell? ⟨w.heap.size, 1, none⟩ = some (.int .i64 sq) := fun x => ((mmh _).1 x.is).2.1
    have mmk2 : ∀ x : Memb mmS, x.at_.cell? ⟨w.heap.size, 2, none⟩ = some (.slice A n cap) := fun x => ((mmh _).1 x.is).2.2
    have mmn : Nonempty (Memb mmS) := ⟨⟨(w3).drew, (mmh _).2 ⟨(X3.out.blk BB.out (fun h => h)).cellD 0 _ rfl, (X3.out.blk BB.out (fun h => h)).cellD 1 _ rfl, (X3.out.blk BB.out (fun h => h)).cellD 2 _ rfl⟩⟩⟩
    have mmH := Lib.hid mmh
    clear mmh
    refine wp_region_mix [4, 5, 8] (InS mmS) (by kernel_rfl) (by kernel_rfl) (InS.mk ((mmH.out _).2 ⟨(X3.out.blk BB.out (fun h => h)).cellD 0 _ rfl, (X3.out.blk BB.out (fun h => h)).cellD 1 _ rfl, (X3.out.blk BB.out (fun h => h)).cellD 2 _ rfl⟩)) ?_
    refine wpMix_seg 4 (by kernel_rfl) (by decide) ?_
    simp only [List.take_succ_cons, List.take_zero, List.drop_succ_cons, List.drop_zero]
    repeat (go_big_quiet_step (fail))
    refine wpQuiet_nil ?_
    refine wpMix_eff (by kernel_rfl) ?_
    go_wp2_with fail
    refine (FOUR.out _).mono ?_
    rintro e w4 ⟨v4, rfl, o4, k4⟩
    obtain ⟨A4, cap4, rfl, bs4, -⟩ := o4.shape
    have X4 := Lib.hid (X3.out.drew.trans k4 (T := None) (fun _ h => h) (fun _ _ h => h))
    have O4 := Lib.hid (O3.out.drew.keeps k4 (fun _ _ h => h))
    have C4 := Lib.hid bs4
    clear o4 k4 bs4 O3 X3
    go_wp2
    refine MixK.on (InS.mk ((mmH.out _).2 (⟨(X4.out.blk BB.out (fun h => h)).cellD 0 _ rfl, (X4.out.blk BB.out (fun h => h)).cellD 1 _ rfl, (X4.out.blk BB.out (fun h => h)).cellD 2 _ rfl⟩))) ?_
    refine wpMix_eff (by kernel_rfl) ?_
    go_wp2_with (at_builtin; refine Hid.out ?_)
    refine Lib.hid ?_
    refine wpList_append_bs O4.out C4.out (by rw [HL3.out]; simp [le4]) X4.out.size rfl rfl rfl rfl rfl ?_
    intro v6 w6 ho6 hk6
    have HL6 : Hid ((headL kd sq n ++ le4 sq).length = 8) := rfl
    obtain ⟨A6, cap6, rfl, -, -⟩ := ho6.shape
    have O6 := Lib.hid ho6
    rw [HL6.out] at O6 ⊢
    have X6 := Lib.hid (X4.out.trans hk6 (T := None) (fun _ h => h) (fun i hi e => absurd e (O4.out.notBelow hi)))
    clear ho6 hk6 O4 C4 X4
    go_wp2
    refine MixK.on (InS.mk ((mmH.out _).2 (⟨(X6.out.blk BB.out (fun h => h)).cellD 0 _ rfl, (X6.out.blk BB.out (fun h => h)).cellD 1 _ rfl, (X6.out.blk BB.out (fun h => h)).cellD 2 _ rfl⟩))) ?_
    refine wpMix_seg 2 (by kernel_rfl) (by decide) ?_
    simp only [List.take_succ_cons, List.take_zero, List.drop_succ_cons, List.drop_zero]
    repeat (go_big_quiet_step (fail))
    refine wpQuiet_nil ?_
    refine wpMix_eff (by kernel_rfl) ?_
    go_wp2_with (at_builtin; refine Hid.out ?_)
    refine Lib.hid ?_
    refine wpList_append_bs O6.out ((HB.out.keeps KB.out (fun _ _ _ _ _ h => h)).keeps X6.out (fun _ _ _ _ _ h => h)) (by rw [HL6.out]; omega) X6.out.size rfl rfl rfl rfl rfl ?_
    intro v5 w5 ho5 hk5
    have O5 := Lib.hid (ho5.lower KB.out.size)
    have X5 := Lib.hid (X6.out.trans hk5 (T := None) (fun _ h => h) (fun i hi e => absurd e (O6.out.notBelow hi)))
    clear ho5 hk5 O6 X6
    go_wp2
    refine MixK.on (InS.mk ((mmH.out _).2 (⟨(X5.out.blk BB.out (fun h => h)).cellD 0 _ rfl, (X5.out.blk BB.out (fun h => h)).cellD 1 _ rfl, (X5.out.blk BB.out (fun h => h)).cellD 2 _ rfl⟩))) ?_
    refine wpMix_seg 1 (by kernel_rfl) (by decide) ?_
    simp only [List.take_succ_cons, List.take_zero, List.drop_succ_cons, List.drop_zero]
    repeat (go_big_quiet_step (fail))
    refine wpQuiet_nil ?_
    refine wpMix_nil ?_
    clear mmk0 mmk1 mmk2 mmn mmH
    clear HL3 FOUR TWO
    have KW := Lib.hid (KB.out.trans X5.out (T := None) (fun _ h => h) (fun _ _ h => h))
    have FL : Hid ((headL kd sq n ++ le4 sq ++ zs).length = 8 + n) := by
      show (headL kd sq n ++ le4 sq ++ zs).length = 8 + n
      simp [headL, le4, HL.out]; omega
    have PK : padK n = (8 - n % 8) % 8 := rfl
    have FR : Hid (frontL kd sq zs = headL kd sq n ++ le4 sq ++ zs ++ List.replicate (padK n) 0) := by
      show frontL kd sq zs = _
      unfold frontL; rw [HL.out, Int.toNat_natCast]
    generalize headL kd sq n ++ le4 sq ++ zs = F0 at *
    clear X5 BB HHD
    go_wp2
    go_loopg [3] (padK n) (fun g ov wr => ∃ q : Nat, q + g = padK n ∧ Own wr w.heap.size ov (F0 ++ List.replicate q 0) ∧ Keeps None w wr)
    case atStart => exact ⟨0, by omega, by simpa using O5.out, KW.out⟩
    case round =>
      obtain ⟨q, hqg, hO, hK⟩ := hrel
      obtain ⟨A6, cap6, rfl, bs6, -⟩ := hO.shape
      have hl6 : (F0 ++ List.replicate q (0 : Int)).length = 8 + n + q := by simp [FL.out]
      rw [hl6]
      have HO := Lib.hid hO
      have HK := Lib.hid hK
      have BS6 := Lib.hid bs6
      rw [hl6] at HO BS6
      clear hO hK bs6 KW O5
      by_cases hlt : q < padK n
      · obtain ⟨G, rfl⟩ : ∃ G, gk = G + 1 := ⟨gk - 1, by omega⟩
        have hmod : ((8 + (n : Int) + q) % 8 != 0) = true := by
          have : ¬ (8 + n + q) % 8 = 0 := by omega
          simp; omega
        go_wp2_with (at_builtin; refine Hid.out ?_)
        refine Lib.hid ?_
        refine wpList_append_bs (HO.out.alloc _) (Bs.oneAt _ _ rfl 0 (by decide)) (by simp [FL.out]; omega) (Nat.le_trans HK.out.size (by simp)) rfl rfl rfl rfl rfl ?_
        intro v' w4 ho4 hk4
        have H4 := Lib.hid (show Own w4 w.heap.size v' (F0 ++ List.replicate (q + 1) 0) from by rw [List.replicate_succ', ← List.append_assoc]; exact ho4)
        have K4 := Lib.hid ((HK.out.alloc (.cells #[.int .u8 0] 5)).trans hk4 (T := None) (fun _ h => h) (fun i hi e => absurd e (HO.out.notBelow hi)))
        clear ho4 hk4 HO HK BS6
        go_wp2
        go_roundg G
        case measure => omega
        case rel => exact ⟨q + 1, by omega, H4.out, K4.out⟩
      · obtain rfl : q = padK n := by omega
        have hmod : ((8 + (n : Int) + (padK n : Nat)) % 8 != 0) = false := by
          have : (8 + n + padK n) % 8 = 0 := by omega
          simp; omega
        rw [← FR.out] at BS6 HO
        have pk8 : padK n < 8 := by omega
        clear PK
        generalize padK n = q at *
        have hS := crcOf_lt (natL_lt BS6.out.byte)
        have HF : Hid (tailL (frontL kd sq zs) = le4 (crcOf (natL (frontL kd sq zs))) ++ le4 (crcOf (natL (frontL kd sq zs)) ^^^ 4294967295)) := rfl
        generalize frontL kd sq zs = F at *
        have SU := Lib.hid (fun w h => rsum_any A6 (8 + n + q) cap6 F w h)
        generalize crcOf (natL F) = S at *
        have hT : S ^^^ 4294967295 < 4294967296 := Nat.xor_lt_two_pow (n := 32) hS (by decide)
        have NT := not32 S hS
        have F1 := Lib.hid (fun w => low4_any S hS w)
        have F2 := Lib.hid (fun w => low4_any (S ^^^ 4294967295) hT w)
        generalize S ^^^ 4294967295 = S2 at *
        have WT : IntKind.u64.wrap (S2 : Int) = (S2 : Int) := by simp [IntKind.wrap, IntKind.bits, IntKind.signed]; omega
        have HFL := Lib.hid BS6.out.len
        clear HB FL hlt hqg FR
        go_wp2_with fail
        refine (SU.out _ BS6.out).mono ?_
        rintro e w' ⟨rfl, rfl⟩
        clear SU BS6
        go_wp2_with fail
        with_reducible refine (F1.out _).mono ?_
        rintro e w8 ⟨v8, rfl, o8, k8⟩
        obtain ⟨A8, cap8, rfl, bs8, -⟩ := o8.shape
        have K8 := Lib.hid (HK.out.trans k8 (T := None) (fun _ h => h) (fun _ _ h => h))
        have O8 := Lib.hid (HO.out.keeps k8 (fun _ _ h => h))
        have C8 := Lib.hid bs8
        clear k8 o8 bs8 HO HK F1
        go_wp2_with (at_builtin; refine Hid.out ?_)
        refine Lib.hid ?_
        refine wpList_append_bs O8.out C8.out (by rw [HFL.out]; simp [le4]; omega) K8.out.size rfl rfl rfl rfl rfl ?_
        intro v9 w9 ho9 hk9
        have O9 := Lib.hid ho9
        have K9 := Lib.hid (K8.out.trans hk9 (T := None) (fun _ h => h) (fun i hi e => absurd e (O8.out.notBelow hi)))
        clear ho9 hk9 O8 K8 C8
        go_wp2_with fail
        with_reducible refine (F2.out _).mono ?_
        rintro e w10 ⟨v10, rfl, o10, k10⟩
        obtain ⟨A10, cap10, rfl, bs10, -⟩ := o10.shape
        have K10 := Lib.hid (K9.out.trans k10 (T := None) (fun _ h => h) (fun _ _ h => h))
        have O10 := Lib.hid (O9.out.keeps k10 (fun _ _ h => h))
        have C10 := Lib.hid bs10
        clear k10 o10 bs10 O9 K9 F2 NT
        go_wp2_with (at_builtin; refine Hid.out ?_)
        refine Lib.hid ?_
        refine wpList_append_bs O10.out C10.out (by rw [List.length_append, HFL.out]; simp [le4]; omega) K10.out.size rfl rfl rfl rfl rfl ?_
        intro v11 w11 ho11 hk11
        have OF := Lib.hid (show Own w11 w.heap.size v11 (putL kd sq zs) from by
          rw [HP.out, HF.out, ← List.append_assoc]
          exact ho11)
        have KF := Lib.hid (K10.out.trans hk11 (T := None) (fun _ h => h) (fun i hi e => absurd e (O10.out.notBelow hi)))
        clear ho11 hk11 O10 K10 C10
        go_wp2
        go_ret
        exact ⟨_, rfl, OF.out, KF.out⟩
end Go.Proofs.Ytgehkioneelgcaa
