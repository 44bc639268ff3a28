
/- Texts put together: SR2, Mix4, SR3, Jn, Jn2, Jn3. -/
import Derived.Test.YtobgbilanibodaaGreatLPlb
import Derived.Test.YtobgbilanibodaaGreatLPla
import Derived.Test.YtobgbilanibodaaGreatLPlc
import Derived.Deep.LoopGhost
namespace Go.Proofs.YtobgbilanibodaaGreat
open Go.RowKit
theorem low2_any (n : Nat) (h : n < 65536) (w : World) : Calls Tryz.prog 62 #[.int .u64 (n : Int), .int .i64 2] w (Cloned w [(n : Int) % 256, (n : Int) / 256]) := by
 have := rslow_any n 2 w (by omega) (by omega)
 rw [lowL_two n h] at this
 exact this
theorem low4_any (n : Nat) (h : n < 4294967296) (w : World) : Calls Tryz.prog 62 #[.int .u64 (n : Int), .int .i64 4] w (Cloned w (le4 n)) := by
 have := rslow_any n 4 w (by omega) (by omega)
 rw [lowL_four n h] at this
 exact this
theorem tl92 (P : Prop) (h : P := by
 have HP : Hid (putL kind seq zs = []) := if_neg (fun hf => by obtain ⟨f1, f2, f3, f4, f5⟩ := hf; omega)
 clear h
 go_enter Tryz.func73, Tryz.ntmps73
 go_wp2
 go_ret
 exact ⟨_, rfl, by rw [HP.out]; exact Own.nil _ _, (Keeps.refl _ _).alloc _⟩) : P := h
set_option maxRecDepth 100000 in
theorem tl95 (P : Prop) (h : P := by
 obtain rfl : q = padK n := by omega
 have hmod : ((8 + (n : Int) + (padK n : Nat)) % 8 != 0) = false := by
  have : (8 + n + padK n) % 8 = 0 := by omega
  simp; omega
 rw [← FR.out] at BS6 HO
 have pk8 : padK n < 8 := by omega
 clear PK
 generalize padK n = q at *
 have hS := crcOf_lt (natL_lt BS6.out.byte)
 have HF : Hid (tailL (frontL kd sq zs) = le4 (crcOf (natL (frontL kd sq zs))) ++ le4 (crcOf (natL (frontL kd sq zs)) ^^^ 4294967295)) := rfl
 generalize frontL kd sq zs = F at *
 have SU := Lib.hid (fun w h => rsum_any A6 (8 + n + q) cap6 F w h)
 generalize crcOf (natL F) = S at *
 have hT : S ^^^ 4294967295 < 4294967296 := Nat.xor_lt_two_pow (n := 32) hS (by decide)
 have NT := not32 S hS
 have F1 := Lib.hid (fun w => low4_any S hS w)
 have F2 := Lib.hid (fun w => low4_any (S ^^^ 4294967295) hT w)
 generalize S ^^^ 4294967295 = S2 at *
 have WT : IntKind.u64.wrap (S2 : Int) = (S2 : Int) := by simp [IntKind.wrap, IntKind.bits, IntKind.signed]; omega
 have HFL := Lib.hid BS6.out.len
 clear HB FL hlt hqg FR
 go_wp2_with fail
 refine (SU.out _ BS6.out).mono ?_
 rintro e w' ⟨rfl, rfl⟩
 clear SU BS6
 go_wp2_with fail
 with_reducible refine (F1.out _).mono ?_
 rintro e w8 ⟨v8, rfl, o8, k8⟩
 obtain ⟨A8, cap8, rfl, bs8, -⟩ := o8.shape
 have K8 := Lib.hid (HK.out.trans k8 (T := None) (fun _ h => h) (fun _ _ h => h))
 have O8 := Lib.hid (HO.out.keeps k8 (fun _ _ h => h))
 have C8 := Lib.hid bs8
 clear k8 o8 bs8 HO HK F1
 go_wp2_with (at_builtin; refine Hid.out ?_)
 refine Lib.hid ?_
 refine wpList_append_bs O8.out C8.out (by rw [HFL.out]; simp [le4]; omega) K8.out.size rfl rfl rfl rfl rfl ?_
 intro v9 w9 ho9 hk9
 have O9 := Lib.hid ho9
 have K9 := Lib.hid (K8.out.trans hk9 (T := None) (fun _ h => h) (fun i hi e => absurd e (O8.out.notBelow hi)))
 clear ho9 hk9 O8 K8 C8
 go_wp2_with fail
 with_reducible refine (F2.out _).mono ?_
 rintro e w10 ⟨v10, rfl, o10, k10⟩
 obtain ⟨A10, cap10, rfl, bs10, -⟩ := o10.shape
 have K10 := Lib.hid (K9.out.trans k10 (T := None) (fun _ h => h) (fun _ _ h => h))
 have O10 := Lib.hid (O9.out.keeps k10 (fun _ _ h => h))
 have C10 := Lib.hid bs10
 clear k10 o10 bs10 O9 K9 F2 NT
 go_wp2_with (at_builtin; refine Hid.out ?_)
 refine Lib.hid ?_
 refine wpList_append_bs O10.out C10.out (by rw [List.length_append, HFL.out]; simp [le4]; omega) K10.out.size rfl rfl rfl rfl rfl ?_
 intro v11 w11 ho11 hk11
 have OF := Lib.hid (show Own w11 w.heap.size v11 (putL kd sq zs) from by
  rw [HP.out, HF.out, ← List.append_assoc]
  exact ho11)
 have KF := Lib.hid (K10.out.trans hk11 (T := None) (fun _ h => h) (fun i hi e => absurd e (O10.out.notBelow hi)))
 clear ho11 hk11 O10 K10 C10
 go_wp2
 go_ret
 exact ⟨_, rfl, OF.out, KF.out⟩) : P := h
theorem tl94 (P : Prop) (h : P := by
 obtain ⟨q, hqg, hO, hK⟩ := hrel
 obtain ⟨A6, cap6, rfl, bs6, -⟩ := hO.shape
 have hl6 : (F0 ++ List.replicate q (0 : Int)).length = 8 + n + q := by simp [FL.out]
 rw [hl6]
 have HO := Lib.hid hO
 have HK := Lib.hid hK
 have BS6 := Lib.hid bs6
 rw [hl6] at HO BS6
 clear hO hK bs6 KW O5
 by_cases hlt : q < padK n
 ·exact tl43 _
 ·exact tl95 _) : P := h
set_option maxRecDepth 100000 in
theorem tl93 (P : Prop) (h : P := by
 go_wp2
 refine MixK.on (InS.mk ((mH.out _).2 (⟨(X3.out.blk BB.out (fun h => h)).cellD 0 _ rfl, (X3.out.blk BB.out (fun h => h)).cellD 1 _ rfl, (X3.out.blk BB.out (fun h => h)).cellD 2 _ rfl⟩))) ?_
 refine wpMix_seg 1 (by kernel_rfl) (by decide) ?_
 simp only [tds, Nat.reduceSub]
 repeat (go_big_quiet_step (fail))
 refine wpQuiet_nil ?_
 refine wpMix_nil ?_
 clear mk0 mk1 mk2 mn mH
 obtain ⟨A3, cap3, rfl, -, -⟩ := O3.out.shape
 have HL3 : Hid ((headL kd sq n).length = 4) := rfl
 rw [HL3.out] at O3 ⊢
 go_wp2
 obtain ⟨mmS, mmh⟩ : ∃ S : World → Prop, ∀ w', S w' ↔ (w'.cell? ⟨w.heap.size, 0, none⟩ = some (.int .i64 kd) ∧ w'.cell? ⟨w.heap.size, 1, none⟩ = some (.int .i64 sq) ∧ w'.cell? ⟨w.heap.size, 2, none⟩ = some (.slice A n cap)) := ⟨_, fun _ => Iff.rfl⟩
 have mmk0 : ∀ x : Memb mmS, x.at_.cell? ⟨w.heap.size, 0, none⟩ = some (.int .i64 kd) := fun x => ((mmh _).1 x.is).1
 have mmk1 : ∀ x : Memb mmS, x.at_.cell? ⟨w.heap.size, 1, none⟩ = some (.int .i64 sq) := fun x => ((mmh _).1 x.is).2.1
 have mmk2 : ∀ x : Memb mmS, x.at_.cell? ⟨w.heap.size, 2, none⟩ = some (.slice A n cap) := fun x => ((mmh _).1 x.is).2.2
 have mmn : Nonempty (Memb mmS) := ⟨⟨(w3).drew, (mmh _).2 ⟨(X3.out.blk BB.out (fun h => h)).cellD 0 _ rfl, (X3.out.blk BB.out (fun h => h)).cellD 1 _ rfl, (X3.out.blk BB.out (fun h => h)).cellD 2 _ rfl⟩⟩⟩
 have mmH := Lib.hid mmh
 clear mmh
 refine wp_region_mix [4, 5, 8] (InS mmS) (by kernel_rfl) (by kernel_rfl) (InS.mk ((mmH.out _).2 ⟨(X3.out.blk BB.out (fun h => h)).cellD 0 _ rfl, (X3.out.blk BB.out (fun h => h)).cellD 1 _ rfl, (X3.out.blk BB.out (fun h => h)).cellD 2 _ rfl⟩)) ?_
 refine wpMix_seg 4 (by kernel_rfl) (by decide) ?_
 simp only [tds]
 repeat (go_big_quiet_step (fail))
 refine wpQuiet_nil ?_
 refine wpMix_eff (by kernel_rfl) ?_
 go_wp2_with fail
 refine (FOUR.out _).mono ?_
 rintro e w4 ⟨v4, rfl, o4, k4⟩
 obtain ⟨A4, cap4, rfl, bs4, -⟩ := o4.shape
 have X4 := Lib.hid (X3.out.drew.trans k4 (T := None) (fun _ h => h) (fun _ _ h => h))
 have O4 := Lib.hid (O3.out.drew.keeps k4 (fun _ _ h => h))
 have C4 := Lib.hid bs4
 clear o4 k4 bs4 O3 X3
 go_wp2
 refine MixK.on (InS.mk ((mmH.out _).2 (⟨(X4.out.blk BB.out (fun h => h)).cellD 0 _ rfl, (X4.out.blk BB.out (fun h => h)).cellD 1 _ rfl, (X4.out.blk BB.out (fun h => h)).cellD 2 _ rfl⟩))) ?_
 refine wpMix_eff (by kernel_rfl) ?_
 go_wp2_with (at_builtin; refine Hid.out ?_)
 refine Lib.hid ?_
 refine wpList_append_bs O4.out C4.out (by rw [HL3.out]; simp [le4]) X4.out.size rfl rfl rfl rfl rfl ?_
 intro v6 w6 ho6 hk6
 have HL6 : Hid ((headL kd sq n ++ le4 sq).length = 8) := rfl
 obtain ⟨A6, cap6, rfl, -, -⟩ := ho6.shape
 have O6 := Lib.hid ho6
 rw [HL6.out] at O6 ⊢
 have X6 := Lib.hid (X4.out.trans hk6 (T := None) (fun _ h => h) (fun i hi e => absurd e (O4.out.notBelow hi)))
 clear ho6 hk6 O4 C4 X4
 go_wp2
 refine MixK.on (InS.mk ((mmH.out _).2 (⟨(X6.out.blk BB.out (fun h => h)).cellD 0 _ rfl, (X6.out.blk BB.out (fun h => h)).cellD 1 _ rfl, (X6.out.blk BB.out (fun h => h)).cellD 2 _ rfl⟩))) ?_
 refine wpMix_seg 2 (by kernel_rfl) (by decide) ?_
 simp only [tds]
 repeat (go_big_quiet_step (fail))
 refine wpQuiet_nil ?_
 refine wpMix_eff (by kernel_rfl) ?_
 go_wp2_with (at_builtin; refine Hid.out ?_)
 refine Lib.hid ?_
 refine wpList_append_bs O6.out ((HB.out.keeps KB.out (fun _ _ _ _ _ h => h)).keeps X6.out (fun _ _ _ _ _ h => h)) (by rw [HL6.out]; omega) X6.out.size rfl rfl rfl rfl rfl ?_
 intro v5 w5 ho5 hk5
 have O5 := Lib.hid (ho5.lower KB.out.size)
 have X5 := Lib.hid (X6.out.trans hk5 (T := None) (fun _ h => h) (fun i hi e => absurd e (O6.out.notBelow hi)))
 clear ho5 hk5 O6 X6
 go_wp2
 refine MixK.on (InS.mk ((mmH.out _).2 (⟨(X5.out.blk BB.out (fun h => h)).cellD 0 _ rfl, (X5.out.blk BB.out (fun h => h)).cellD 1 _ rfl, (X5.out.blk BB.out (fun h => h)).cellD 2 _ rfl⟩))) ?_
 refine wpMix_seg 1 (by kernel_rfl) (by decide) ?_
 simp only [tds]
 repeat (go_big_quiet_step (fail))
 refine wpQuiet_nil ?_
 refine wpMix_nil ?_
 clear mmk0 mmk1 mmk2 mmn mmH
 clear HL3 FOUR TWO
 have KW := Lib.hid (KB.out.trans X5.out (T := None) (fun _ h => h) (fun _ _ h => h))
 have FL : Hid ((headL kd sq n ++ le4 sq ++ zs).length = 8 + n) := by
  show (headL kd sq n ++ le4 sq ++ zs).length = 8 + n
  simp [headL, le4, HL.out]; omega
 have PK : padK n = (8 - n % 8) % 8 := rfl
 have FR : Hid (frontL kd sq zs = headL kd sq n ++ le4 sq ++ zs ++ List.replicate (padK n) 0) := by
  show frontL kd sq zs = _
  unfold frontL; rw [HL.out, Int.toNat_natCast]
 generalize headL kd sq n ++ le4 sq ++ zs = F0 at *
 clear X5 BB HHD
 go_wp2
 go_loopg [3] (padK n) (fun g ov wr => ∃ q : Nat, q + g = padK n ∧ Own wr w.heap.size ov (F0 ++ List.replicate q 0) ∧ Keeps None w wr)
 case atStart => exact ⟨0, by omega, by simpa using O5.out, KW.out⟩
 case round =>
  exact tl94 _) : P := h
set_option maxRecDepth 100000 in
set_option maxHeartbeats 3200000 in
theorem rsput_any (kind seq : Int) (A : Option Addr) (n cap : Nat) (zs : List Int) (w : World) (h : Bs w A n cap zs) (hmx : n ≤ 1000000) :
    Calls Tryz.prog 73 #[.agg #[.int .i64 kind, .int .i64 seq, .slice A n cap]] w fun e w' => ∃ v, e = .returned v ∧ Own w' w.heap.size v (putL kind seq zs) ∧ Keeps None w w' := by
 have hl := h.len
 by_cases g1 : kind < 1
 ·have d1 : decide (kind < 1) = true := decide_eq_true g1
  exact tl92 _
 have d1 : decide (kind < 1) = false := decide_eq_false g1
 by_cases g2 : 250 < kind
 ·have d2 : decide (250 < kind) = true := decide_eq_true g2
  exact tl92 _
 have d2 : decide (250 < kind) = false := decide_eq_false g2
 by_cases g3 : seq < 0
 ·have d3 : decide (seq < 0) = true := decide_eq_true g3
  exact tl92 _
 have d3 : decide (seq < 0) = false := decide_eq_false g3
 by_cases g4 : 4294967295 < seq
 ·have d4 : decide (4294967295 < seq) = true := decide_eq_true g4
  exact tl92 _
 have d4 : decide (4294967295 < seq) = false := decide_eq_false g4
 by_cases g5 : 512 < n
 ·have d5 : decide (512 < (n : Int)) = true := decide_eq_true (by omega)
  exact tl92 _
 have d5 : decide (512 < (n : Int)) = false := decide_eq_false (by omega)
 obtain ⟨kd, rfl⟩ : ∃ kd : Nat, kind = kd := ⟨kind.toNat, by omega⟩
 obtain ⟨sq, rfl⟩ : ∃ sq : Nat, seq = sq := ⟨seq.toNat, by omega⟩
 have k1 : kd ≤ 250 := by omega
 have k2 : sq < 4294967296 := by omega
 have k3 : n ≤ 512 := by omega
 have HP : Hid (putL kd sq zs = frontL kd sq zs ++ tailL (frontL kd sq zs)) := if_pos ⟨by omega, by omega, by omega, by omega, by omega⟩
 have HB := Lib.hid h
 have HL := Lib.hid hl
 clear h hl g1 g2 g3 g4 g5
 go_enter Tryz.func73, Tryz.ntmps73
 go_wp2
 obtain ⟨wb, hwb⟩ : ∃ x, w.alloc (.cells #[.int .i64 kd, .int .i64 sq, .slice A n cap] 95) = x := ⟨_, rfl⟩
 have BB : Hid (Blk wb w.heap.size [.int .i64 kd, .int .i64 sq, .slice A n cap] 95) := by rw [← hwb]; exact Blk.new w [.int .i64 kd, .int .i64 sq, .slice A n cap] 95
 have KB : Hid (Keeps None w wb) := by rw [← hwb]; exact (Keeps.refl None w).alloc _
 rw [hwb]
 clear hwb
 have FOUR := Lib.hid (fun w => low4_any sq k2 w)
 have TWO := Lib.hid (fun w => low2_any n (by omega) w)
 have hhd : ∀ z ∈ [(kd : Int), 0], 0 ≤ z ∧ z ≤ 255 := by
  intro z hz
  simp only [List.mem_cons, List.not_mem_nil, or_false] at hz
  rcases hz with rfl | rfl <;> omega
 have HHD := Lib.hid hhd
 clear hhd
 obtain ⟨mS, mh⟩ : ∃ S : World → Prop, ∀ w', S w' ↔ (w'.cell? ⟨w.heap.size, 0, none⟩ = some (.int .i64 kd) ∧ w'.cell? ⟨w.heap.size, 1, none⟩ = some (.int .i64 sq) ∧ w'.cell? ⟨w.heap.size, 2, none⟩ = some (.slice A n cap)) := ⟨_, fun _ => Iff.rfl⟩
 have mk0 : ∀ x : Memb mS, x.at_.cell? ⟨w.heap.size, 0, none⟩ = some (.int .i64 kd) := fun x => ((mh _).1 x.is).1
 have mk1 : ∀ x : Memb mS, x.at_.cell? ⟨w.heap.size, 1, none⟩ = some (.int .i64 sq) := fun x => ((mh _).1 x.is).2.1
 have mk2 : ∀ x : Memb mS, x.at_.cell? ⟨w.heap.size, 2, none⟩ = some (.slice A n cap) := fun x => ((mh _).1 x.is).2.2
 have mn : Nonempty (Memb mS) := ⟨⟨(wb).drew, (mh _).2 ⟨BB.out.cellD 0 _ rfl, BB.out.cellD 1 _ rfl, BB.out.cellD 2 _ rfl⟩⟩⟩
 have mH := Lib.hid mh
 clear mh
 refine wp_region_mix_swap [3, 8, 9] (InS mS) 0 4 9 3 8 (by kernel_rfl) (by kernel_rfl) (InS.mk ((mH.out _).2 ⟨BB.out.cellD 0 _ rfl, BB.out.cellD 1 _ rfl, BB.out.cellD 2 _ rfl⟩)) ?_ ?_
 ·
  refine wpMix_seg 3 (by kernel_rfl) (by decide) ?_
  simp only [tds, Nat.reduceSub]
  repeat (go_big_quiet_step (fail))
  refine wpQuiet_nil ?_
  refine wpMix_eff (by kernel_rfl) ?_
  go_wp2
  have X1 : Hid (Keeps None wb (wb.drew.alloc (.cells #[.int .u8 kd, .int .u8 0] 5))) := (Keeps.refl None wb).drew.alloc _
  have L1 := Lib.hid (Own.lit wb.drew [(kd : Int), 0] HHD.out (by simp))
  refine MixK.on (InS.mk ((mH.out _).2 (⟨(X1.out.blk BB.out (fun h => h)).cellD 0 _ rfl, (X1.out.blk BB.out (fun h => h)).cellD 1 _ rfl, (X1.out.blk BB.out (fun h => h)).cellD 2 _ rfl⟩))) ?_
  refine wpMix_seg 4 (by kernel_rfl) (by decide) ?_
  simp only [tds, Nat.reduceSub]
  repeat (go_big_quiet_step (fail))
  refine wpQuiet_nil ?_
  refine wpMix_eff (by kernel_rfl) ?_
  go_wp2_with fail
  refine (TWO.out _).mono ?_
  rintro e w2 ⟨v2, rfl, o2, kq⟩
  obtain ⟨A2, cap2, rfl, bs2, -⟩ := o2.shape
  have X2 : Hid (Keeps None wb w2) := X1.out.trans kq (fun _ h => h) (fun _ _ h => h)
  have L2 := Lib.hid (L1.out.keeps kq (fun _ _ h => h))
  have C2 := Lib.hid bs2
  clear o2 kq bs2 X1 L1
  go_wp2
  refine MixK.on (InS.mk ((mH.out _).2 (⟨(X2.out.blk BB.out (fun h => h)).cellD 0 _ rfl, (X2.out.blk BB.out (fun h => h)).cellD 1 _ rfl, (X2.out.blk BB.out (fun h => h)).cellD 2 _ rfl⟩))) ?_
  refine wpMix_eff (by kernel_rfl) ?_
  go_wp2_with (at_builtin; refine Hid.out ?_)
  refine Lib.hid ?_
  refine wpList_append_bs L2.out C2.out (by simp) X2.out.size rfl rfl rfl rfl rfl ?_
  intro v3 w3 ho3 hk3
  have O3 := Lib.hid (show Own w3 wb.heap.size v3 (headL kd sq n) from ho3)
  have X3 : Hid (Keeps None wb w3) := X2.out.trans hk3 (fun _ h => h) (fun i hi e => absurd e (L2.out.notBelow hi))
  clear ho3 hk3 L2 C2 X2
  exact tl93 _
 ·
  try dsimp only
  try simp only [tds, Nat.reduceSub]
  refine wpMix_nil ?_
  try dsimp only
  try simp only [tds, Nat.reduceSub]
  refine wpMix_seg 4 (by kernel_rfl) (by decide) ?_
  simp only [tds, Nat.reduceSub]
  repeat (go_big_quiet_step (fail))
  refine wpQuiet_nil ?_
  refine wpMix_eff (by kernel_rfl) ?_
  go_wp2_with fail
  refine (TWO.out _).mono ?_
  rintro e w2 ⟨v2, rfl, o2, kq⟩
  obtain ⟨A2, cap2, rfl, bs2, -⟩ := o2.shape
  have X2 : Hid (Keeps None wb w2) := (Keeps.refl None wb).drew.trans kq (fun _ h => h) (fun _ _ h => h)
  have C2 := Lib.hid bs2
  clear o2 kq bs2
  go_wp2
  refine MixK.on (InS.mk ((mH.out _).2 (⟨(X2.out.blk BB.out (fun h => h)).cellD 0 _ rfl, (X2.out.blk BB.out (fun h => h)).cellD 1 _ rfl, (X2.out.blk BB.out (fun h => h)).cellD 2 _ rfl⟩))) ?_
  refine wpMix_nil ?_
  try dsimp only
  try simp only [tds, Nat.reduceSub]
  refine wpMix_seg 3 (by kernel_rfl) (by decide) ?_
  simp only [tds, Nat.reduceSub]
  repeat (go_big_quiet_step (fail))
  refine wpQuiet_nil ?_
  refine wpMix_eff (by kernel_rfl) ?_
  go_wp2
  have X1 : Hid (Keeps None wb (w2.alloc (.cells #[.int .u8 kd, .int .u8 0] 5))) := X2.out.alloc _
  have L2 := Lib.hid ((Own.lit w2 [(kd : Int), 0] HHD.out (by simp)).lower X2.out.size)
  refine MixK.on (InS.mk ((mH.out _).2 (⟨(X1.out.blk BB.out (fun h => h)).cellD 0 _ rfl, (X1.out.blk BB.out (fun h => h)).cellD 1 _ rfl, (X1.out.blk BB.out (fun h => h)).cellD 2 _ rfl⟩))) ?_
  refine wpMix_nil ?_
  try dsimp only
  try simp only [tds, Nat.reduceSub]
  refine wpMix_eff (by kernel_rfl) ?_
  go_wp2_with (at_builtin; refine Hid.out ?_)
  refine Lib.hid ?_
  refine wpList_append_bs L2.out (C2.out.alloc _) (by simp) X1.out.size rfl rfl rfl rfl rfl ?_
  intro v3 w3 ho3 hk3
  have O3 := Lib.hid (show Own w3 wb.heap.size v3 (headL kd sq n) from ho3)
  have X3 : Hid (Keeps None wb w3) := X1.out.trans hk3 (fun _ h => h) (fun i hi e => absurd e (L2.out.notBelow hi))
  clear ho3 hk3 L2 C2 X2 X1
  exact tl93 _
open Go.RowKit
section Mix4
variable {P : Program} {ops : Array Oper} {C : World → Prop} {Q : Exit → Act → World → Prop} {md : Region.Mode} {E : List Nat} {R R' : Act → World → Prop}
structure MixOkT (md : Region.Mode) (ops : Array Oper) (E : List Nat) : Prop where
  sel : selFree ops
  topo : ∀ i o, ops[i]? = some o → ∀ e ∈ o.after, Region.binds md e = true → e.on < i
  plain : ∀ i o, ops[i]? = some o → E.contains i = false → plainOp o = true
  apart : ∀ i o p op, ops[i]? = some o → ops[p]? = some op → p < i → (∃ e ∈ o.after, Region.binds md e = true ∧ e.on = p) ∨ op.apart ops o = true
def mixTB (md : Region.Mode) (ops : Array Oper) (E : List Nat) : Bool :=
  Region.noSelect ops && (List.range ops.size).all fun i => match ops[i]? with
    | none => true
    | some o => o.after.all (fun e => !Region.binds md e || decide (e.on < i)) && (E.contains i || plainOp o) &&
      (List.range i).all fun p => match ops[p]? with
        | none => true
        | some op => (o.after.any (fun e => Region.binds md e && e.on == p) || op.apart ops o)
theorem mixTB_ok (h : mixTB md ops E = true) : MixOkT md ops E := by
 unfold mixTB at h
 simp only [Bool.and_eq_true, List.all_eq_true, List.mem_range] at h
 obtain ⟨hs, h⟩ := h
 have lt : ∀ i o, ops[i]? = some o → i < ops.size := fun i o ho => (Array.getElem?_eq_some_iff.1 ho).1
 have get : ∀ i o, ops[i]? = some o → _ := fun i o ho => by
  have := h i (lt i o ho)
  simp only [ho, Bool.and_eq_true] at this
  exact this
 refine ⟨Region.noSelect_spec hs, ?_, ?_, ?_⟩
 ·exact tl1 _
 ·intro i o ho hE
  have := (get i o ho).1.2
  rwa [hE, Bool.false_or] at this
 ·intro i o p op ho hp hlt
  have := List.all_eq_true.1 (get i o ho).2 p (List.mem_range.2 hlt)
  simp only [hp, Bool.or_eq_true] at this
  rcases this with h1 | h1
  ·exact tl3 _
  ·exact .inr h1
theorem descend_self (i : Nat) : ∀ n, i < n → i ∈ descendB md ops i n
  | 0, h => absurd h (Nat.not_lt_zero _)
  | n + 1, h => by
    unfold descendB
    simp only []
    by_cases e : n = i
    · subst e; simp
    · have := descend_self i n (by omega)
      split
      · exact List.mem_cons_of_mem _ this
      · exact this
theorem descend_edge (topo : ∀ i o, ops[i]? = some o → ∀ e ∈ o.after, Region.binds md e = true → e.on < i) {i p : Nat} {op : Oper} (hp : ops[p]? = some op) (he : ∃ e ∈ op.after, Region.binds md e = true ∧ e.on = i) :
    ∀ n j, j ∈ descendB md ops p n → j ∈ descendB md ops i n
  | 0, j, h => by simp [descendB] at h
  | n + 1, j, h => by
    have IH := descend_edge topo hp he n
    unfold descendB at h ⊢
    simp only [] at h ⊢
    have up : ∀ j, j ∈ descendB md ops i n → j ∈ (if (n == i || ((ops[n]?).map fun o => o.after.any fun e => Region.binds md e && (descendB md ops i n).contains e.on).getD false) = true then n :: descendB md ops i n else descendB md ops i n) := fun j hj => by
      split
      · exact List.mem_cons_of_mem _ hj
      · exact hj
    split at h
    · rename_i hc
      rcases List.mem_cons.1 h with rfl | h
      · simp only [Bool.or_eq_true, beq_iff_eq] at hc
        have key : (((ops[j]?).map fun o => o.after.any fun e => Region.binds md e && (descendB md ops i j).contains e.on).getD false) = true := by
          rcases hc with hc | hc
          · subst hc
            obtain ⟨e, hm, hb, hon⟩ := he
            simp only [hp, Option.map_some, Option.getD_some]
            refine Array.any_eq_true'.2 ⟨e, hm, ?_⟩
            have := topo j op hp e hm hb
            simp only [hb, Bool.true_and, List.contains_iff_mem, hon]
            exact descend_self i j (by omega)
          · cases ho : ops[j]? with
            | none => simp [ho] at hc
            | some o =>
              simp only [ho, Option.map_some, Option.getD_some] at hc ⊢
              obtain ⟨e, hm, hb⟩ := Array.any_eq_true'.1 hc
              simp only [Bool.and_eq_true, List.contains_iff_mem] at hb
              refine Array.any_eq_true'.2 ⟨e, hm, ?_⟩
              simp only [hb.1, Bool.true_and, List.contains_iff_mem]
              exact IH _ hb.2
        simp only [key, Bool.or_true, if_true]
        exact List.mem_cons_self
      · exact up j (IH j h)
    · exact up j (IH j h)
def frontLs (md : Region.Mode) (ops : Array Oper) (U : List Nat) (i : Nat) : List Nat := U.filter fun j => (descendB md ops j ops.size).contains i
def restL (md : Region.Mode) (ops : Array Oper) (U : List Nat) (i : Nat) : List Nat := U.filter fun j => !(descendB md ops j ops.size).contains i
def availB (md : Region.Mode) (ops : Array Oper) (E U : List Nat) (i : Nat) : Bool := U.all fun e => !E.contains e || e == i || !(descendB md ops e ops.size).contains i
def wpT (P : Program) (md : Region.Mode) (ops : Array Oper) (C : World → Prop) (E : List Nat) (R : Act → World → Prop) : Nat → List Nat → Act → World → Prop
  | 0, U, a, w => wpMixI P md ops C E R U a w
  | n + 1, U, a, w => ((∀ i ∈ U, E.contains i = false) → wpMixI P md ops C E R U a w) ∧
      ∀ i ∈ U, E.contains i = true → availB md ops E U i = true → wpMixI P md ops C E (fun a w => wpT P md ops C E R n (restL md ops U i) a w) (frontLs md ops U i) a w
def chkT (md : Region.Mode) (ops : Array Oper) (E : List Nat) : Nat → List Nat → Prop
  | 0, U => ∀ i ∈ U, ∀ p ∈ U, p < i → E.contains p = true → E.contains i = true → i ∈ descendB md ops p ops.size
  | n + 1, U => ∀ i ∈ U, E.contains i = true → availB md ops E U i = true → chkT md ops E n (U.filter fun j => j != i)
theorem avail_spec {U : List Nat} {i : Nat} : availB md ops E U i = true ↔ ∀ e ∈ U, E.contains e = true → e ≠ i → i ∉ descendB md ops e ops.size := by
 unfold availB
 simp only [List.all_eq_true, Bool.or_eq_true, Bool.not_eq_true', beq_iff_eq]
 constructor
 ·intro h e he hE hne
  rcases h e he with (h1 | h1) | h1
  ·rw [hE] at h1; cases h1
  ·exact absurd h1 hne
  ·simpa using h1
 ·intro h e he
  cases hE : E.contains e with
  | false => exact .inl (.inl rfl)
  | true =>
   by_cases hne : e = i
   ·exact .inl (.inr hne)
   ·exact .inr (by simpa using h e he hE hne)
theorem avail_drop {U : List Nat} {i e : Nat} (hi : E.contains i = false) (h : availB md ops E (U.filter fun j => j != i) e = true) : availB md ops E U e = true := by
 rw [avail_spec] at h ⊢
 intro x hx hE hne
 refine h x (List.mem_filter.2 ⟨hx, ?_⟩) hE hne
 have : x ≠ i := fun hh => by subst hh; rw [hE] at hi; cases hi
 simpa using this
theorem chk_drop {i : Nat} (hi : E.contains i = false) : ∀ (n : Nat) (U : List Nat), chkT md ops E n U → chkT md ops E n (U.filter fun j => j != i)
  | 0, U, h => fun x hx p hp => h x (List.mem_filter.1 hx).1 p (List.mem_filter.1 hp).1
  | n + 1, U, h => fun x hx hE hav => by
    have h1 := chk_drop hi n _ (h x (List.mem_filter.1 hx).1 hE (avail_drop hi hav))
    rw [List.filter_filter] at h1 ⊢
    have : (fun a => (a != i) && (a != x)) = (fun a => (a != x) && (a != i)) := by funext a; exact Bool.and_comm _ _
    rw [this] at h1
    exact h1
theorem mix_pickG (hsel : selFree ops) {i : Nat} {o : Oper} (ho : ops[i]? = some o) (hp : plainOp o = true) (hR : ∀ a w, C w → R a w → ∃ v, YieldsIn P ops C o v a ∧ R' (a.put o.dst v) w) :
    ∀ (pre : List Nat) (a : Act) (w : World), (∀ p ∈ pre, ∀ op, ops[p]? = some op → (∀ d, op.dst = some d → d ∉ o.looksAt ops) ∧ (∀ d, op.dst = some d → o.dst ≠ some d) ∧ (∀ d, o.dst = some d → d ∉ op.looksAt ops)) → (∀ p ∈ pre, E.contains p = true → openB md ops E p = true) →
      C w → wpMixI P md ops C E R pre a w → ∃ v, YieldsIn P ops C o v a ∧ wpMixI P md ops C E R' pre (a.put o.dst v) w
  | [], a, w, _, _, hC, h => hR a w hC h
  | p :: pre, a, w, hap, hop, hC, h => by
    have hap' := fun q (hq : q ∈ pre) => hap q (List.mem_cons_of_mem _ hq)
    have hop' : ∀ q ∈ pre, E.contains q = true → openB md ops E q = true := fun q hq => hop q (List.mem_cons_of_mem _ hq)
    have IH := mix_pickG hsel ho hp hR pre
    cases hop0 : ops[p]? with
    | none =>
      rw [mix_none hop0] at h
      obtain ⟨v, h1, h2⟩ := IH a w hap' hop' hC h
      exact ⟨v, h1, by rw [mix_none hop0]; exact h2⟩
    | some op =>
      obtain ⟨ap1, ap2, ap3⟩ := hap p List.mem_cons_self op hop0
      have so : ∀ cs b, o.op ≠ .select cs b := fun cs b => hsel i o cs b ho
      have sp : ∀ cs b, op.op ≠ .select cs b := fun cs b => hsel p op cs b hop0
      rw [mix_cons hop0] at h
      have hwv : ∀ v, Region.wanted op (yielded ops (a.put o.dst v).tmps) = Region.wanted op (yielded ops a.tmps) := fun v => wanted_put op a o.dst v ap3
      have ap2' : ∀ t, o.dst = some t → op.dst ≠ some t := fun t ht hh => ap2 t hh ht
      by_cases hw : Region.wanted op (yielded ops a.tmps) = true
      · simp only [hw, if_true] at h
        cases hE : E.contains p with
        | true =>
          simp only [hE, if_true] at h
          have hopen := hop p List.mem_cons_self hE
          obtain ⟨a1, w1, hl1, hc1, hr1⟩ := wp_some h
          obtain ⟨v, hy, _⟩ := IH a1 w1 hap' hop' (hc1 hopen) hr1
          have hyv := (YieldsIn.of_leaves (P := P) (C := C) hl1 so ap1).1 hy
          refine ⟨v, hyv, ?_⟩
          rw [mix_cons hop0]
          simp only [hwv, hw, if_true, hE]
          refine wp_shift (ops := ops) sp ap3 ap2' (fun a' w' hl hk => ⟨hk.1, ?_⟩) h noExit_any
          obtain ⟨u, hyu, hru⟩ := IH a' w' hap' hop' (hk.1 hopen) hk.2
          have e : u = v := YieldsIn.one hp hC ((YieldsIn.of_leaves (P := P) (C := C) hl so ap1).1 hyu) hyv
          rw [← e]; exact hru
        | false =>
          simp only [hE, Bool.false_eq_true, if_false] at h
          obtain ⟨u, hu, hr⟩ := h
          obtain ⟨v, hy, hrv⟩ := IH _ w hap' hop' hC hr
          have hyv := (YieldsIn.of_leaves (P := P) (C := C) ⟨u, a.defers, rfl⟩ so ap1).1 hy
          refine ⟨v, hyv, ?_⟩
          rw [mix_cons hop0]
          simp only [hwv, hw, if_true, hE, Bool.false_eq_true, if_false]
          refine ⟨u, fun w' hw' => ?_, ?_⟩
          · have := hu w' hw'
            unfold Oper.quietAt at *
            rwa [execOp_put op sp a o.dst v ap3]
          · rw [Act.put_comm a v u (fun t ht => ap2' t ht)]; exact hrv
      · simp only [hw, Bool.false_eq_true, if_false] at h
        obtain ⟨v, hy, hrv⟩ := IH _ w hap' hop' hC h
        have hyv := (YieldsIn.of_leaves (P := P) (C := C) ⟨undef, a.defers, rfl⟩ so ap1).1 hy
        refine ⟨v, hyv, ?_⟩
        rw [mix_cons hop0]
        simp only [hwv, hw, Bool.false_eq_true, if_false]
        rw [Act.put_comm a v undef (fun t ht => ap2' t ht)]; exact hrv
theorem cut_at {U : List Nat} (hpw : U.Pairwise (· < ·)) {i : Nat} (hi : i ∈ U) : ∃ pre post, U = pre ++ i :: post ∧ (U.filter fun j => j != i) = pre ++ post ∧ ∀ p ∈ pre, p < i := by
 obtain ⟨pre, post, hsplit⟩ := List.append_of_mem hi
 rw [hsplit] at hpw
 have hpre : ∀ p ∈ pre, p < i := fun p hp => (List.pairwise_append.1 hpw).2.2 p hp i List.mem_cons_self
 have hpost : ∀ p ∈ post, i < p := fun p hp => (List.pairwise_cons.1 (List.pairwise_append.1 hpw).2.1).1 p hp
 refine ⟨pre, post, hsplit, ?_, hpre⟩
 rw [hsplit, List.filter_append, List.filter_cons]
 exact tl17 _
theorem pickT (ok : MixOkT md ops E) {i : Nat} {o : Oper} (ho : ops[i]? = some o) (hi : E.contains i = false) :
    ∀ (n : Nat) (U : List Nat) (a : Act) (w : World), U.Pairwise (· < ·) → i ∈ U → (∀ q ∈ U, q ≠ i → i ∉ descendB md ops q ops.size) → C w → wpT P md ops C E R n U a w →
      ∃ v, YieldsIn P ops C o v a ∧ wpT P md ops C E R n (U.filter fun j => j != i) (a.put o.dst v) w := by
  have hpl := ok.plain i o ho hi
  have hlt : i < ops.size := (Array.getElem?_eq_some_iff.1 ho).1
  have edge : ∀ p op, ops[p]? = some op → p < i → (∃ e ∈ o.after, Region.binds md e = true ∧ e.on = p) → i ∈ descendB md ops p ops.size := fun p op hop _ he => descend_edge ok.topo ho he ops.size i (descend_self i ops.size hlt)
  have opn : ∀ p, p ∉ descendB md ops i ops.size → openB md ops E p = true := fun p hd => by
    unfold openB
    refine List.any_eq_true.2 ⟨i, List.mem_range.2 hlt, ?_⟩
    rw [hi]
    simp [hd]
  have flat : ∀ (K : Act → World → Prop) (U : List Nat) (a : Act) (w : World), U.Pairwise (· < ·) → i ∈ U → (∀ q ∈ U, q ≠ i → i ∉ descendB md ops q ops.size) → C w → wpMixI P md ops C E K U a w →
      ∃ v, YieldsIn P ops C o v a ∧ wpMixI P md ops C E K (U.filter fun j => j != i) (a.put o.dst v) w := fun K U a w hpw him hrd hC h => by
    obtain ⟨pre, post, e1, e2, hpre⟩ := cut_at hpw him
    rw [e2]
    rw [e1] at h
    refine mix_pickA ok.sel ho hi hpl post pre a w (fun p hp op hop => ?_) (fun p hp _ => opn p fun hd => ?_) hC h
    · rcases ok.apart i o p op ho hop (hpre p hp) with he | ha
      · exact absurd (edge p op hop (hpre p hp) he) (hrd p (by rw [e1]; exact List.mem_append_left _ hp) (by have := hpre p hp; omega))
      · exact ha
    · have := descend_ge ok.topo i _ p hd
      have := hpre p hp
      omega
  intro n
  induction n with
  | zero => exact fun U a w hpw him hrd hC h => flat R U a w hpw him hrd hC h
  | succ n ih =>
    intro U a w hpw him hrd hC h
    obtain ⟨h0, h1⟩ := h
    by_cases hex : ∀ e ∈ U, E.contains e = false
    · obtain ⟨v, hy, hr⟩ := flat R U a w hpw him hrd hC (h0 hex)
      exact ⟨v, hy, fun _ => hr, fun e he hE _ => absurd hE (by rw [hex e (List.mem_filter.1 he).1]; decide)⟩
    · -- one branch
      have branch : ∀ e ∈ U, E.contains e = true → availB md ops E U e = true → ∃ v, YieldsIn P ops C o v a ∧ wpMixI P md ops C E (fun a w => wpT P md ops C E R n (restL md ops (U.filter fun j => j != i) e) a w) (frontLs md ops (U.filter fun j => j != i) e) (a.put o.dst v) w := by
        intro e he hE hav
        have hb := h1 e he hE hav
        have cm : ∀ f : Nat → Bool, (U.filter fun j => j != i).filter f = (U.filter f).filter fun j => j != i := fun f => by
          rw [List.filter_filter, List.filter_filter]
          refine List.filter_congr fun x _ => Bool.and_comm _ _
        have nof : ∀ f : Nat → Bool, f i = false → (U.filter f).filter (fun j => j != i) = U.filter f := fun f hf => List.filter_eq_self.2 fun x hx => by
          have h2 := (List.mem_filter.1 hx).2
          have : x ≠ i := fun hh => by subst hh; rw [hf] at h2; cases h2
          simpa using this
        by_cases hin : e ∈ descendB md ops i ops.size
        · have hc : (descendB md ops i ops.size).contains e = true := List.contains_iff_mem.2 hin
          have e1 : restL md ops (U.filter fun j => j != i) e = restL md ops U e := by unfold restL; rw [cm, nof _ (by rw [hc]; rfl)]
          have e2 : frontLs md ops (U.filter fun j => j != i) e = (frontLs md ops U e).filter fun j => j != i := by unfold frontLs; rw [cm]
          rw [e1, e2]
          exact flat _ _ a w (List.Pairwise.filter _ hpw) (List.mem_filter.2 ⟨him, hc⟩) (fun q hq => hrd q (List.mem_filter.1 hq).1) hC hb
        · have hc : (descendB md ops i ops.size).contains e = false := by simpa using hin
          have e1 : restL md ops (U.filter fun j => j != i) e = (restL md ops U e).filter fun j => j != i := by unfold restL; rw [cm]
          have e2 : frontLs md ops (U.filter fun j => j != i) e = frontLs md ops U e := by unfold frontLs; rw [cm, nof _ hc]
          rw [e1, e2]
          refine mix_pickG ok.sel ho hpl (fun a w hC h => ih _ a w (List.Pairwise.filter _ hpw) (List.mem_filter.2 ⟨him, by rw [hc]; rfl⟩) (fun q hq => hrd q (List.mem_filter.1 hq).1) hC h) _ a w (fun p hp op hop => ?_) (fun p hp hEp => opn p fun hd => ?_) hC hb
          · obtain ⟨hpU, hpe⟩ := List.mem_filter.1 hp
            have hpi : p ≠ i := fun hh => by subst hh; rw [hc] at hpe; cases hpe
            rcases Nat.lt_or_gt_of_ne hpi with hlt' | hgt
            · rcases ok.apart i o p op ho hop hlt' with hed | ha
              · exact absurd (edge p op hop hlt' hed) (hrd p hpU hpi)
              · exact Oper.apart_spec ha
            · rcases ok.apart p op i o hop ho hgt with hed | ha
              · exact absurd (descend_edge ok.topo hop hed ops.size e (List.contains_iff_mem.1 hpe)) hin
              · obtain ⟨q1, q2, q3⟩ := Oper.apart_spec ha
                exact ⟨q3, fun d hd hd' => q2 d hd' hd, q1⟩
          · -- the one operation on memory in front is e
            obtain ⟨hpU, hpe⟩ := List.mem_filter.1 hp
            have : p = e := Classical.byContradiction fun hne => (avail_spec.1 hav) p hpU hEp hne (List.contains_iff_mem.1 hpe)
            subst this
            exact hin hd
      have hexE : ∃ e0 ∈ U, E.contains e0 = true ∧ availB md ops E U e0 = true := by
        have hne : (U.filter fun e => E.contains e) ≠ [] := fun hnil => hex fun e he => by
          cases hE : E.contains e with
          | false => rfl
          | true =>
            have : e ∈ U.filter fun e => E.contains e := List.mem_filter.2 ⟨he, hE⟩
            rw [hnil] at this; cases this
        cases hl : U.filter fun e => E.contains e with
        | nil => exact absurd hl hne
        | cons e0 es =>
          have hm : e0 ∈ U.filter fun e => E.contains e := by rw [hl]; exact List.mem_cons_self
          obtain ⟨hU, hE⟩ := List.mem_filter.1 hm
          refine ⟨e0, hU, hE, avail_spec.2 fun x hx hEx hne hd => ?_⟩
          have hpw2 : (U.filter fun e => E.contains e).Pairwise (· < ·) := List.Pairwise.filter _ hpw
          rw [hl] at hpw2
          have hx2 : x ∈ e0 :: es := by rw [← hl]; exact List.mem_filter.2 ⟨hx, hEx⟩
          rcases List.mem_cons.1 hx2 with rfl | hx3
          · exact hne rfl
          · have h1 := (List.pairwise_cons.1 hpw2).1 x hx3
            have h2 := descend_ge ok.topo x _ e0 hd
            omega
      obtain ⟨e0, he0, hE0, hav0⟩ := hexE
      obtain ⟨v, hy, _⟩ := branch e0 he0 hE0 hav0
      refine ⟨v, hy, fun hno => ?_, fun e he hE hav => ?_⟩
      · have : e0 ≠ i := fun hh => by subst hh; rw [hE0] at hi; cases hi
        have := hno e0 (List.mem_filter.2 ⟨he0, by simpa using this⟩)
        rw [hE0] at this; cases this
      · obtain ⟨v2, hy2, hr2⟩ := branch e (List.mem_filter.1 he).1 hE (avail_drop hi hav)
        have e2 : v2 = v := YieldsIn.one hpl hC hy2 hy
        rw [← e2]; exact hr2
theorem tl96 (P : Prop) (h : P := by
 refine List.filter_congr fun j hj => ?_
 by_cases hji : j = i
 ·subst hji
  simp [descend_self j ops.size hlt]
 ·have := hnot j hj hji
  simp [this, hji]) : P := h
theorem mixT_any (ok : MixOkT md ops E) : ∀ (n : Nat) (listed : Array Bool) (t : Nat) (a : Act) (w : World), (unlB ops listed).length ≤ n → listed.size = ops.size →
    (∀ j oj, ops[j]? = some oj → listed.getD j false = true → ∀ e ∈ oj.after, Region.binds md e = true → listed.getD e.on false = true) →
    (∀ j ∈ unlB ops listed, E.contains j = false → C w) → chkT md ops E t (unlB ops listed) → wpT P md ops C E (fun a w => Q .normal a w) t (unlB ops listed) a w → wpAny P md ops Q n listed a w := by
 have fin : ∀ t a w, wpT P md ops C E (fun a w => Q .normal a w) t [] a w → Q .normal a w := fun t a w h => by
  cases t with
  | zero => exact h
  | succ t => exact h.1 (fun i hi => by cases hi)
 intro n
 induction n with
 | zero =>
  intro listed t a w hlen hsz hcl hC hk h
  have hu : unlB ops listed = [] := List.eq_nil_of_length_eq_zero (Nat.le_zero.1 hlen)
  rw [hu] at h
  refine ⟨?_, fin t a w h⟩
  exact tl5 _
 | succ n ih =>
  intro listed t a w hlen hsz hcl hC hk h
  refine ⟨fun hr => ?_, fun i hi => ?_⟩
  ·cases hu : unlB ops listed with
   | nil => rw [hu] at h; exact fin t a w h
   | cons i0 U =>
    exact tl8 _
  ·obtain ⟨hun, o, ho, hall⟩ := mem_ready.1 hi
   have hlt : i < ops.size := (Array.getElem?_eq_some_iff.1 ho).1
   have hmem : i ∈ unlB ops listed := mem_unl.2 ⟨hlt, hun⟩
   have hpw : (unlB ops listed).Pairwise (· < ·) := List.Pairwise.filter _ List.pairwise_lt_range
   obtain ⟨pre, post, hsplit, hflt, hpre⟩ := cut_at hpw hmem
   have hsz' : (listed.setIfInBounds i true).size = ops.size := by simp [hsz]
   have hcl' : ∀ j oj, ops[j]? = some oj → (listed.setIfInBounds i true).getD j false = true → ∀ e ∈ oj.after, Region.binds md e = true → (listed.setIfInBounds i true).getD e.on false = true := by
    exact tl12 _
   have hu' : unlB ops (listed.setIfInBounds i true) = (unlB ops listed).filter (fun j => j != i) := by
    exact tl14 _
   have hlen' : (unlB ops (listed.setIfInBounds i true)).length ≤ n := by
    rw [hu', hflt]; rw [hsplit] at hlen; simp at hlen ⊢; omega
   have hnot : ∀ j ∈ unlB ops listed, j ≠ i → i ∉ descendB md ops j ops.size := by
    intro j hj hne hd
    have := (descend_listed hcl j ops.size i hd).2 (fun e => hne e.symm) (fun oj hoj e he hb => by
     have : oj = o := Option.some.inj (hoj.symm.trans ho)
     subst this
     exact hall e he hb)
    rw [getD_both (mem_unl.1 hj).2] at this
    cases this
   have keep : ∀ t a' w', chkT md ops E t ((unlB ops listed).filter fun j => j != i) → (∀ j ∈ (unlB ops listed).filter (fun j => j != i), E.contains j = false → C w') → wpT P md ops C E (fun a w => Q .normal a w) t ((unlB ops listed).filter fun j => j != i) a' w' → wpAny P md ops Q n (listed.setIfInBounds i true) a' w' :=
    fun t a' w' hk' hc hh => ih _ t a' w' hlen' hsz' hcl' (by rw [hu']; exact hc) (by rw [hu']; exact hk') (by rw [hu']; exact hh)
   have hopen : ∀ j ∈ (unlB ops listed).filter (fun j => j != i), E.contains j = false → openB md ops E i = true := by
    intro j hj hEj
    obtain ⟨hjU, hji⟩ := List.mem_filter.1 hj
    have hji' : j ≠ i := by simpa using hji
    unfold openB
    refine List.any_eq_true.2 ⟨j, List.mem_range.2 (mem_unl.1 hjU).1, ?_⟩
    have := hnot j hjU hji'
    rw [hEj]
    simp [this]
   cases hE : E.contains i with
   | false =>
    have hCw := hC i hmem hE
    obtain ⟨v, hy, hr⟩ := pickT ok ho hE t _ a w hpw hmem (fun q hq hne => hnot q hq hne) hCw h
    exact wpOp_of_yields ho (ok.plain i o ho hE) hCw hy (keep t _ _ (chk_drop hE t _ hk) (fun _ _ _ => hCw) hr)
   | true =>
    cases t with
    | zero =>
     have hne : ∀ p ∈ pre, E.contains p = false := by
      intro p hp
      have hpU : p ∈ unlB ops listed := by rw [hsplit]; exact List.mem_append_left _ hp
      cases hEp : E.contains p with
      | false => rfl
      | true => exact absurd (hk i hmem p hpU (hpre p hp) hEp hE) (hnot p hpU (by have := hpre p hp; omega))
     have hap : ∀ p ∈ pre, ∀ op, ops[p]? = some op → op.apart ops o = true := by
      intro p hp op hop
      have hpU : p ∈ unlB ops listed := by rw [hsplit]; exact List.mem_append_left _ hp
      rcases ok.apart i o p op ho hop (hpre p hp) with he | h1
      ·exact absurd (descend_edge ok.topo ho he ops.size i (descend_self i ops.size hlt)) (hnot p hpU (by have := hpre p hp; omega))
      ·exact h1
     have h' : wpMixI P md ops C E (fun a w => Q .normal a w) (pre ++ i :: post) a w := by rw [← hsplit]; exact h
     have hk0 : chkT md ops E 0 ((unlB ops listed).filter fun j => j != i) := fun x hx p hp => hk x (List.mem_filter.1 hx).1 p (List.mem_filter.1 hp).1
     unfold wpOp
     simp only [ho]
     rcases mix_pickB ok.sel ho hE post pre a w hap hne h' with ⟨h1, h2⟩ | ⟨h1, h2⟩
     ·simp only [h1, if_true]
      left
      refine wp_noExit (Oper.wp_mono (fun a' w' hh => keep 0 a' w' hk0 (fun j hj hEj => hh.1 (hopen j hj hEj)) (by rw [hflt]; exact hh.2)) h2)
     ·simp only [h1, Bool.false_eq_true, if_false]
      exact keep 0 _ _ hk0 (fun j hj hEj => hC j (List.mem_filter.1 hj).1 hEj) (by rw [hflt]; exact h2)
    | succ t =>
     have hav : availB md ops E (unlB ops listed) i = true := avail_spec.2 fun e he _ hne => hnot e he hne
     have hb := h.2 i hmem hE hav
     have hk' := hk i hmem hE hav
     have hf : frontLs md ops (unlB ops listed) i = [i] := by
      have e1 : frontLs md ops (unlB ops listed) i = (unlB ops listed).filter fun j => j == i := by
       unfold frontLs
       exact tl96 _
      rw [e1, hsplit, List.filter_append, List.filter_cons]
      have hpost : ∀ p ∈ post, i < p := fun p hp => by
       rw [hsplit] at hpw
       exact (List.pairwise_cons.1 (List.pairwise_append.1 hpw).2.1).1 p hp
      have f1 : pre.filter (fun j => j == i) = [] := List.filter_eq_nil_iff.2 fun p hp => by have := hpre p hp; simp; omega
      have f2 : post.filter (fun j => j == i) = [] := List.filter_eq_nil_iff.2 fun p hp => by have := hpost p hp; simp; omega
      simp [f1, f2]
     have hr : restL md ops (unlB ops listed) i = (unlB ops listed).filter fun j => j != i := by
      unfold restL
      exact tl96 _
     rw [hf, hr, mix_cons ho] at hb
     unfold wpOp
     simp only [ho]
     by_cases hw : Region.wanted o (yielded ops a.tmps) = true
     ·simp only [hw, if_true, hE] at hb ⊢
      left
      refine wp_noExit (Oper.wp_mono (fun a' w' hh => keep t a' w' hk' (fun j hj hEj => hh.1 (hopen j hj hEj)) hh.2) hb)
     ·simp only [hw, Bool.false_eq_true, if_false] at hb ⊢
      exact keep t _ _ hk' (fun j hj hEj => hC j (List.mem_filter.1 hj).1 hEj) hb
def flatP (ps : List (Nat × Nat)) : List Nat := ps.flatMap fun p => List.range' p.1 p.2
def wpPs (P : Program) (l : List Oper) (C : World → Prop) (E : List Nat) (K : Act → World → Prop) : List (Nat × Nat) → Act → World → Prop
  | [], a, w => K a w
  | p :: ps, a, w => wpMix P l.toArray C E (fun _ a w => wpPs P l C E K ps a w) p.1 ((l.drop p.1).take p.2) a w
theorem wpPs_nil {l : List Oper} {K : Act → World → Prop} {a : Act} {w : World} (h : K a w) : wpPs P l C E K [] a w := h
theorem wpPs_cons {l : List Oper} {K : Act → World → Prop} {k m : Nat} {ps : List (Nat × Nat)} {a : Act} {w : World} (h : wpMix P l.toArray C E (fun _ a w => wpPs P l C E K ps a w) k ((l.drop k).take m) a w) : wpPs P l C E K ((k, m) :: ps) a w := h
def inL (n : Nat) (ps : List (Nat × Nat)) : Bool := ps.all fun p => decide (p.1 + p.2 ≤ n)
theorem mixI_of_ps {l : List Oper} {K : Act → World → Prop} : ∀ (ps : List (Nat × Nat)) (a : Act) (w : World), inL l.length ps = true → wpPs P l C E K ps a w → wpMixI P .any l.toArray C E K (flatP ps) a w
  | [], a, w, _, h => h
  | p :: ps, a, w, hb, h => by
    have hb' : p.1 + p.2 ≤ l.length ∧ inL l.length ps = true := by
      unfold inL at hb ⊢
      simpa using hb
    show wpMixI P .any l.toArray C E K (List.range' p.1 p.2 ++ flatP ps) a w
    exact wpMixI_append _ _ _ _ (wpMixI_mono (fun a w h => mixI_of_ps ps a w hb'.2 h) _ _ _ (seg_of p.1 p.2 hb'.1 h))
theorem wpT_leaf {l : List Oper} {ps : List (Nat × Nat)} {a : Act} {w : World} (hb : inL l.length ps = true) (h : wpPs P l C E R ps a w) : wpT P .any l.toArray C E R 0 (flatP ps) a w := mixI_of_ps ps a w hb h
abbrev Pcs := List (Nat × Nat)
def nodeB (l : List Oper) (E : List Nat) (us : Pcs) (brs : List (Pcs × Pcs)) : Bool :=
  (flatP us).any (fun i => E.contains i) && ((flatP us).filter fun i => E.contains i && availB .any l.toArray E (flatP us) i).map (fun i => (frontLs .any l.toArray (flatP us) i, restL .any l.toArray (flatP us) i)) == brs.map (fun b => (flatP b.1, flatP b.2)) &&
    brs.all fun b => inL l.length b.1
theorem wpT_node {l : List Oper} {us : Pcs} {n : Nat} {a : Act} {w : World} (brs : List (Pcs × Pcs)) (hc : nodeB l E us brs = true) (hb : ∀ b ∈ brs, wpPs P l C E (fun a w => wpT P .any l.toArray C E R n (flatP b.2) a w) b.1 a w) : wpT P .any l.toArray C E R (n + 1) (flatP us) a w := by
 unfold nodeB at hc
 rw [Bool.and_eq_true, Bool.and_eq_true, beq_iff_eq] at hc
 obtain ⟨⟨hany, hm⟩, hin'⟩ := hc
 obtain ⟨i0, hi0, hE0⟩ := List.any_eq_true.1 hany
 have hin := List.all_eq_true.1 hin'
 refine ⟨fun hno => absurd (hno i0 hi0) (by rw [hE0]; decide), fun i hi hE hav => ?_⟩
 have h1 : (frontLs .any l.toArray (flatP us) i, restL .any l.toArray (flatP us) i) ∈ brs.map (fun b => (flatP b.1, flatP b.2)) := by
  rw [← hm]
  exact List.mem_map.2 ⟨i, List.mem_filter.2 ⟨hi, by rw [hE, hav]; rfl⟩, rfl⟩
 obtain ⟨b, hbm, he⟩ := List.mem_map.1 h1
 have e1 : flatP b.1 = frontLs .any l.toArray (flatP us) i := congrArg Prod.fst he
 have e2 : flatP b.2 = restL .any l.toArray (flatP us) i := congrArg Prod.snd he
 rw [← e1, ← e2]
 exact mixI_of_ps b.1 a w (hin b hbm) (hb b hbm)
theorem wpT_node1 {l : List Oper} {us : Pcs} {n : Nat} {a : Act} {w : World} (f1 r1 : Pcs) (hc : nodeB l E us [(f1, r1)] = true) (h1 : wpPs P l C E (fun a w => wpT P .any l.toArray C E R n (flatP r1) a w) f1 a w) : wpT P .any l.toArray C E R (n + 1) (flatP us) a w :=
  wpT_node _ hc (by intro b hb; simp only [List.mem_cons, List.not_mem_nil, or_false] at hb; rw [hb]; exact h1)
theorem wpT_node2 {l : List Oper} {us : Pcs} {n : Nat} {a : Act} {w : World} (f1 r1 f2 r2 : Pcs) (hc : nodeB l E us [(f1, r1), (f2, r2)] = true) (h1 : wpPs P l C E (fun a w => wpT P .any l.toArray C E R n (flatP r1) a w) f1 a w)
    (h2 : wpPs P l C E (fun a w => wpT P .any l.toArray C E R n (flatP r2) a w) f2 a w) : wpT P .any l.toArray C E R (n + 1) (flatP us) a w :=
  wpT_node _ hc (by intro b hb; simp only [List.mem_cons, List.not_mem_nil, or_false] at hb; rcases hb with e | e <;> rw [e]; exact h1; exact h2)
theorem wpT_node3 {l : List Oper} {us : Pcs} {n : Nat} {a : Act} {w : World} (f1 r1 f2 r2 f3 r3 : Pcs) (hc : nodeB l E us [(f1, r1), (f2, r2), (f3, r3)] = true) (h1 : wpPs P l C E (fun a w => wpT P .any l.toArray C E R n (flatP r1) a w) f1 a w)
    (h2 : wpPs P l C E (fun a w => wpT P .any l.toArray C E R n (flatP r2) a w) f2 a w) (h3 : wpPs P l C E (fun a w => wpT P .any l.toArray C E R n (flatP r3) a w) f3 a w) : wpT P .any l.toArray C E R (n + 1) (flatP us) a w :=
  wpT_node _ hc (by intro b hb; simp only [List.mem_cons, List.not_mem_nil, or_false] at hb; rcases hb with e | e | e <;> rw [e]; exact h1; exact h2; exact h3)
def chkTB (md : Region.Mode) (ops : Array Oper) (E : List Nat) : Nat → List Nat → Bool
  | 0, U => U.all fun i => !E.contains i || U.all fun p => !(decide (p < i) && E.contains p) || (descendB md ops p ops.size).contains i
  | n + 1, U => U.all fun i => !(E.contains i && availB md ops E U i) || chkTB md ops E n (U.filter fun j => j != i)
theorem chkTB_ok : ∀ (n : Nat) (U : List Nat), chkTB md ops E n U = true → chkT md ops E n U
  | 0, U, h => fun i hi p hp hlt hEp hE => by
    unfold chkTB at h
    have h1 := List.all_eq_true.1 h i hi
    rw [hE] at h1
    have h2 := List.all_eq_true.1 (by simpa using h1 : (U.all fun p => !(decide (p < i) && E.contains p) || (descendB md ops p ops.size).contains i) = true) p hp
    rw [hEp, decide_eq_true hlt] at h2
    simpa using h2
  | n + 1, U, h => fun i hi hE hav => by
    unfold chkTB at h
    have h1 := List.all_eq_true.1 h i hi
    rw [hE, hav] at h1
    exact chkTB_ok n _ (by simpa using h1)
theorem wp_region_mixT {id : Nat} {a : Act} {w : World} {l : List Oper} (E : List Nat) (C : World → Prop) (t : Nat) (n : Nat) (hn : l.length = n) (hm : P.follows .mixedOrders = true) (hB : mixTB .any l.toArray E = true) (hk : chkTB .any l.toArray E t (List.range n) = true) (hC : C w.drew)
    (h : wpT P .any l.toArray C E (fun a w => Q .normal a w) t (flatP [(0, n)]) a w.drew) : (Code.region id l.toArray true).wp P Q a w := by
 have ok := mixTB_ok hB
 subst hn
 have hfl : flatP [(0, l.length)] = List.range l.length := by rw [List.range_eq_range']; show List.range' 0 l.length ++ [] = _; rw [List.append_nil]
 rw [hfl] at h
 have hu : unlB l.toArray (Array.replicate l.toArray.size false) = List.range l.length := by
  unfold unlB
  rw [List.filter_eq_self.2]
  ·simp
  ·intro i hi
   have hi' : i < l.length := by simpa using hi
   simp [hi']
 refine wp_region_any hm (mixT_any (C := C) (E := E) ok _ _ t a _ ?_ (by simp) ?_ ?_ ?_ ?_)
 ·rw [hu]; simp
 ·intro j oj _ hl
  rw [getD_replicate_false] at hl; cases hl
 ·intro _ _ _; exact hC
 ·rw [hu]; exact chkTB_ok _ _ hk
 ·rw [hu]; exact h
end Mix4
open Go.RowKit
theorem num2b (a b : Nat) : numN [(a : Int), (b : Int)] = a + b * 256 := by simp [numN]; omega
theorem num4b (a b c d : Nat) : numN [(a : Int), (b : Int), (c : Int), (d : Int)] = a + b * 256 + c * 65536 + d * 16777216 := by simp [numN]; omega
theorem take_get2 {zs : List Int} {k : Nat} (h : k + 2 ≤ zs.length) : (zs.drop k).take 2 = [zs.getD k 0, zs.getD (k + 1) 0] := by
 rw [List.drop_eq_getElem_cons (by omega), List.take_succ_cons, List.drop_eq_getElem_cons (by omega), List.take_succ_cons, List.take_zero]
 simp [List.getD, show k < zs.length by omega, show k + 1 < zs.length by omega]
theorem take_get4 {zs : List Int} {k : Nat} (h : k + 4 ≤ zs.length) : (zs.drop k).take 4 = [zs.getD k 0, zs.getD (k + 1) 0, zs.getD (k + 2) 0, zs.getD (k + 3) 0] := by
 rw [List.drop_eq_getElem_cons (by omega), List.take_succ_cons, List.drop_eq_getElem_cons (by omega), List.take_succ_cons, List.drop_eq_getElem_cons (by omega), List.take_succ_cons, List.drop_eq_getElem_cons (by omega), List.take_succ_cons, List.take_zero]
 simp [List.getD, show k < zs.length by omega, show k + 1 < zs.length by omega, show k + 1 + 1 < zs.length by omega, show k + 1 + 1 + 1 < zs.length by omega]
theorem Own.lt2 {w : World} {B : Nat} {v : Value} {zs : List Int} (h : Own w B v zs) {b : Nat} (hb : v.ownBlock = some b) : b < w.heap.size := by
 rcases h.1.2 with ⟨rfl, _⟩ | ⟨g, cap, cur, rfl, hg, hgg, _⟩
 ·cases hb
 ·obtain rfl : g = b := by simpa [Value.ownBlock] using hb
  exact (Array.getElem?_eq_some_iff.1 hgg).1
theorem tl97 (P : Prop) (h : P := by
 clear GL HB XC
 have qq0 := Blk.cellD (BB.out) 0 _ rfl
 have qq1 := Blk.cellD (BB.out) 1 _ rfl
 have qq2 := Blk.cellD (BB.out) 2 _ rfl
 have qf0 := Blk.frozen (BB.out) 0
 have qf1 := Blk.frozen (BB.out) 1
 have qf2 := Blk.frozen (BB.out) 2
 go_wp2
 refine bodyPost_ret (get_res _ ((((Blk.set (BB.out) 0 _)).set 1 _).set 2 _) rfl rfl rfl) rfl ?_
 exact ⟨0, 0, _, [], 0, false, rfl, Own.nil _ _, ((Keeps.setCell (KB.out) _ _ (fun h => absurd h (Nat.lt_irrefl _))).setCell _ _ (fun h => absurd h (Nat.lt_irrefl _))).setCell _ _ (fun h => absurd h (Nat.lt_irrefl _)), .inr ⟨rfl, GN.out, rfl, rfl, rfl, rfl⟩⟩) : P := h
theorem tl99 (P : Prop) (h : P := by
 have hpb : pl = tk := of_decide_eq_true HPB.out
 have GS : Hid (getL zs = some ((c0 : Int), (s3 : Int), bd, (sz : Int))) := by
  show getL zs = _
  rw [GL2.out]; exact if_pos hpb
 have rq0 := N5.out.cellD 0 _ rfl
 have rq1 := N5.out.cellD 1 _ rfl
 have rq2 := N5.out.cellD 2 _ rfl
 have qq0 := R5.out.cellD 0 _ rfl
 have qq1 := R5.out.cellD 1 _ rfl
 have qq2 := R5.out.cellD 2 _ rfl
 have qf0 := R5.out.frozen 0
 have qf1 := R5.out.frozen 1
 have qf2 := R5.out.frozen 2
 clear hpb HPB GL2 HSA HSB HPL HTK
 exact tl52 _) : P := h
theorem tl100 (P : Prop) (h : P := by
 have hpb : ¬ pl = tk := of_decide_eq_false HPB.out
 have GN : Hid (getL zs = none) := by
  show getL zs = none
  rw [GL2.out]; exact if_neg hpb
 clear GL2 V5 N5 hpb HPB HSA HSB HPL HTK
 exact tl50 _) : P := h
set_option maxRecDepth 100000 in
theorem tl98 (P : Prop) (h : P := by
 refine wpMix_eff (by kernel_rfl) ?_
 have nq0 := NB.out.cellD 0 _ rfl
 have nq1 := NB.out.cellD 1 _ rfl
 have nq2 := NB.out.cellD 2 _ rfl
 have nf0 := NB.out.frozen 0
 have nf1 := NB.out.frozen 1
 have nf2 := NB.out.frozen 2
 go_wp2
 first | (refine Exists.elim (⟨_, rfl⟩ : ∃ x, ((wy.setCell ⟨nb, 0, none⟩ (.int .i64 c0)).setCell ⟨nb, 1, none⟩ (.int .i64 s3)).setCell ⟨nb, 2, none⟩ (.slice A2 nn cap2) = x) fun w3 hw3 => ?_; rw [hw3]) | (refine Exists.elim (⟨_, rfl⟩ : ∃ x, ((w2.setCell ⟨nb, 0, none⟩ (.int .i64 c0)).setCell ⟨nb, 1, none⟩ (.int .i64 s3)).setCell ⟨nb, 2, none⟩ (.slice A2 nn cap2) = x) fun w3 hw3 => ?_; rw [hw3])
 have K3 := Lib.hid (show Keeps None w w3 from by rw [← hw3]; exact KB.out.trans (((KC.out.setCell _ _ (fun h => absurd h (Nat.not_lt.2 NBL.out))).setCell _ _ (fun h => absurd h (Nat.not_lt.2 NBL.out))).setCell _ _ (fun h => absurd h (Nat.not_lt.2 NBL.out))) (fun _ h => h) (fun _ _ h => h))
 have R3 := Lib.hid (show Blk w3 w.heap.size [.int .i64 0, .int .i64 0, .slice none 0 0] 95 from by rw [← hw3]; exact (((KC.out.setCell _ _ (fun h => absurd h (Nat.not_lt.2 NBL.out))).setCell _ _ (fun h => absurd h (Nat.not_lt.2 NBL.out))).setCell _ _ (fun h => absurd h (Nat.not_lt.2 NBL.out))).blk BB.out (fun h => h))
 have N3 := Lib.hid (show Blk w3 nb [.int .i64 c0, .int .i64 s3, .slice A2 nn cap2] 95 from by rw [← hw3]; exact ((NB.out.set 0 _).set 1 _).set 2 _)
 have V3 := Lib.hid (show Own w3 (w.heap.size + 1) (.slice A2 nn cap2) bd from by rw [← hw3]; exact V2.out.keeps (S := fun i => i = nb) ((((Keeps.refl (fun i => i = nb) _).put 0 _).put 1 _).put 2 _) (fun b e h => VN.out b e h))
 clear hw3 KC NB VN V2 nq0 nq1 nq2 nf0 nf1 nf2
 refine MixK.last (by kernel_rfl) ?_
 refine wpMix_nil ?_
 refine wpPs_nil ?_
 clear mk0 mn mH
 clear XC BODY BODY8 NU2 NU4 P2 P4
 have PUT := Lib.hid (fun w h => rsput_any c0 s3 A2 nn cap2 bd w h (by omega))
 have BD3 := Lib.hid (own_bs V3.out)
 have P3 := Lib.hid (PRE.out.keeps K3.out (fun _ _ _ _ _ h => h))
 obtain ⟨pl, HPL⟩ : ∃ x, Hid (putL c0 s3 bd = x) := ⟨_, rfl⟩
 rw [HPL.out] at PUT GL2
 obtain ⟨tk, HTK⟩ : ∃ x, Hid (zs.take sz = x) := ⟨_, rfl⟩
 rw [HTK.out] at P3 GL2
 obtain ⟨sb, HSB⟩ : ∃ x, Hid (strOf tk = x) := ⟨_, rfl⟩
 clear PRE
 go_wp2
 obtain ⟨mmS, mmh⟩ : ∃ S : World → Prop, ∀ w', S w' ↔ (w'.cell? ⟨nb, 0, none⟩ = some (.int .i64 c0) ∧ w'.cell? ⟨nb, 1, none⟩ = some (.int .i64 s3) ∧ w'.cell? ⟨nb, 2, none⟩ = some (.slice A2 nn cap2) ∧ ((convert 37 9 (.slice (some ⟨bl, off, none⟩) sz cap)).run Tryz.prog w' = .ok (.string sb) w')) := ⟨_, fun _ => Iff.rfl⟩
 have mmk0 : ∀ x : Memb mmS, x.at_.cell? ⟨nb, 0, none⟩ = some (.int .i64 c0) := fun x => ((mmh _).1 x.is).1
 have mmk1 : ∀ x : Memb mmS, x.at_.cell? ⟨nb, 1, none⟩ = some (.int .i64 s3) := fun x => ((mmh _).1 x.is).2.1
 have mmk2 : ∀ x : Memb mmS, x.at_.cell? ⟨nb, 2, none⟩ = some (.slice A2 nn cap2) := fun x => ((mmh _).1 x.is).2.2.1
 have mmk3 : ∀ x : Memb mmS, (convert 37 9 (.slice (some ⟨bl, off, none⟩) sz cap)).run Tryz.prog x.at_ = .ok (.string sb) x.at_ := fun x => ((mmh _).1 x.is).2.2.2
 have mmn : Nonempty (Memb mmS) := ⟨⟨(w3).drew, (mmh _).2 ⟨N3.out.cellD 0 _ rfl, N3.out.cellD 1 _ rfl, N3.out.cellD 2 _ rfl, HSB.out ▸ run_str P3.out.drew⟩⟩⟩
 have mmH := Lib.hid mmh
 clear mmh
 refine wp_region_mix2 [1] (InS mmS) (by kernel_rfl) (by kernel_rfl) (InS.mk ((mmH.out _).2 ⟨N3.out.cellD 0 _ rfl, N3.out.cellD 1 _ rfl, N3.out.cellD 2 _ rfl, HSB.out ▸ run_str P3.out.drew⟩)) ?_
 refine wpMix2_seg 1 (InS mmS) (by kernel_rfl) (by decide) (cl_base [] rfl (by kernel_rfl)) ?_
 simp only [tds]
 repeat (first | go_big_quiet_step (fail) | (go_big_quiet_want; first | refine quiet_conv mmk3 rfl rfl rfl aput ?_; go_big_quiet_on))
 refine wpQuiet_nil ?_
 refine wpMix2_eff (by kernel_rfl) ?_
 go_wp2_with fail
 refine (PUT.out _ BD3.out.drew).mono ?_
 rintro e w5 ⟨v5, rfl, o5, k5⟩
 obtain ⟨A5, cap5, rfl, bs5, -⟩ := o5.shape
 have K5 := Lib.hid (K3.out.drew.trans k5 (T := None) (fun _ h => h) (fun _ _ h => h))
 have R5 := Lib.hid (k5.blk R3.out.drew (fun h => h))
 have N5 := Lib.hid (k5.blk N3.out.drew (fun h => h))
 have V5 := Lib.hid (V3.out.drew.keeps k5 (fun _ _ h => h))
 have P5 := Lib.hid (P3.out.drew.keeps k5 (fun _ _ _ _ _ h => h))
 have BS5 := Lib.hid bs5
 have QZ := strOf_beq bs5.byte P3.out.byte
 obtain ⟨sa, HSA⟩ : ∃ x, Hid (strOf pl = x) := ⟨_, rfl⟩
 obtain ⟨pb, HPB⟩ : ∃ b, Hid (decide (pl = tk) = b) := ⟨_, rfl⟩
 rw [HSA.out, HSB.out, HPB.out] at QZ
 clear o5 k5 bs5 K3 R3 V3 PUT BD3
 go_wp2
 obtain ⟨mmL2S, mmL2h⟩ : ∃ S : World → Prop, ∀ w', S w' ↔ (((convert 37 9 (.slice A5 pl.length cap5)).run Tryz.prog w' = .ok (.string sa) w')) := ⟨_, fun _ => Iff.rfl⟩
 have mmL2k0 : ∀ x : Memb mmL2S, (convert 37 9 (.slice A5 pl.length cap5)).run Tryz.prog x.at_ = .ok (.string sa) x.at_ := fun x => ((mmL2h _).1 x.is)
 have mmL2n : Nonempty (Memb mmL2S) := ⟨⟨_, (mmL2h _).2 (HSA.out ▸ run_str BS5.out)⟩⟩
 have mmL2H := Lib.hid mmL2h
 clear mmL2h
 refine MixK2.late (D := InS mmL2S) (x := 2) (by kernel_rfl) (cls_cons (InS.mk ((mmL2H.out _).2 (HSA.out ▸ run_str BS5.out))) (cls_base (InS.mk ((mmH.out _).2 (⟨N5.out.cellD 0 _ rfl, N5.out.cellD 1 _ rfl, N5.out.cellD 2 _ rfl, HSB.out ▸ run_str P5.out⟩))))) ?_
 refine wpMix2_seg 1 (InS mmL2S) (by kernel_rfl) (by decide) (cl_one rfl) ?_
 simp only [tds]
 repeat (first | go_big_quiet_step (fail) | (go_big_quiet_want; first | refine quiet_conv mmk3 rfl rfl rfl aput ?_; go_big_quiet_on | refine quiet_conv mmL2k0 rfl rfl rfl aput ?_; go_big_quiet_on))
 refine wpQuiet_nil ?_
 refine wpMix2_seg 5 (InS mmS) (by kernel_rfl) (by decide) (cl_base [2] rfl (by kernel_rfl)) ?_
 simp only [tds]
 repeat (first | go_big_quiet_step (fail) | (go_big_quiet_want; first | refine quiet_conv mmk3 rfl rfl rfl aput ?_; go_big_quiet_on | refine quiet_conv mmL2k0 rfl rfl rfl aput ?_; go_big_quiet_on))
 refine wpQuiet_nil ?_
 refine wpMix2_nil ?_
 clear mmk0 mmk1 mmk2 mmk3 mmn mmH mmL2k0 mmL2n mmL2H
 clear BS5 P5 P3
 cases pb with
 | true =>
  exact tl99 _
 | false =>
  exact tl100 _) : P := h
set_option maxRecDepth 100000 in
theorem tl101 (P : Prop) (h : P := by
 refine MixK.on (InS.mk ((mH.out _).2 (XC.out _ (KB.out.trans KC.out (T := None) (fun _ h => h) (fun _ _ h => h))))) ?_
 refine wpMix_nil ?_
 refine wpPs_nil ?_
 refine wpT_leaf (ps := [(0, 4), (7, 7), (15, 1)]) (by kernel_rfl) ?_
 refine wpPs_cons ?_
 try simp only [tds, Nat.reduceSub]
 refine wpMix_seg 4 (by kernel_rfl) (by decide) ?_
 simp only [tds, Nat.reduceSub]
 repeat (go_big_quiet_step (fail))
 refine wpQuiet_nil ?_
 refine wpMix_nil ?_
 refine wpPs_cons ?_
 try simp only [tds, Nat.reduceSub]
 refine wpMix_seg 5 (by kernel_rfl) (by decide) ?_
 simp only [tds, Nat.reduceSub]
 repeat (go_big_quiet_step (fail))
 refine wpQuiet_nil ?_
 refine wpMix_eff (by kernel_rfl) ?_
 go_wp2_with (at_builtin; refine Hid.out ?_)
 refine Lib.hid ?_
 refine wpList_append_bs (Own.nil _ _) (BODY8.out.keeps (KB.out.trans KC.out (T := None) (fun _ h => h) (fun _ _ h => h)) (fun _ _ _ _ _ h => h)) (by simp; omega) (Nat.le_refl _) rfl rfl rfl rfl rfl ?_
 intro v2 w2 ho2 hk2
 rw [List.nil_append] at ho2
 have kx : Keeps None _ w2 := hk2.mono (fun i hi e => by simp [Value.ownBlock] at e)
 obtain ⟨A2, cap2, rfl, -, in2⟩ := ho2.shape
 rw [HBL.out] at ho2 ⊢
 try have NN := Lib.hid (kx.blk NB.out (fun h => h))
 try have VN := Lib.hid (show ∀ b, (Value.slice A2 nn cap2).ownBlock = some b → ¬ b = nb from fun b e h => ho2.notBelow (i := b) (by rw [h]; exact NB.out.lt) e)
 try clear NB
 try have NB := NN
 try clear NN
 have V2 := Lib.hid (ho2.lower (B' := w.heap.size + 1) (Nat.le_trans BB.out.lt KC.out.size))
 have KD := Lib.hid (KC.out.trans kx (T := None) (fun _ h => h) (fun _ _ h => h))
 clear KC kx ho2 hk2 in2
 have KC := KD
 clear KD
 go_wp2
 refine MixK.on (InS.mk ((mH.out _).2 (XC.out _ (KB.out.trans KC.out (T := None) (fun _ h => h) (fun _ _ h => h))))) ?_
 refine wpMix_seg 1 (by kernel_rfl) (by decide) ?_
 simp only [tds, Nat.reduceSub]
 repeat (go_big_quiet_step (fail))
 refine wpQuiet_nil ?_
 refine wpMix_nil ?_
 refine wpPs_cons ?_
 try simp only [tds, Nat.reduceSub]
 exact tl98 _) : P := h
set_option maxRecDepth 100000 in
set_option maxHeartbeats 3200000 in
theorem rsget_any (A : Option Addr) (L cap : Nat) (zs : List Int) (w : World) (h : Bs w A L cap zs) (hL : L ≤ 1000000) : Calls Tryz.prog 47 #[.slice A L cap] w (GetTold w zs) := by
 have hl := h.len
 have hle := h.le
 have hmx := h.max
 by_cases g1 : L < 16
 ·have d1 : decide ((L : Int) < 16) = true := decide_eq_true (by omega)
  have GN : Hid (getL zs = none) := by unfold getL; exact if_pos (by omega)
  clear h
  go_enter Tryz.func47, Tryz.ntmps47
  exact tl45 _
 have d1 : decide ((L : Int) < 16) = false := decide_eq_false (by omega)
 obtain ⟨bl, off, z0, rfl, hz0, a0, b0, x0⟩ := h.get (i := 0) (by omega)
 have hb := h.byte
 have gb : ∀ i, 0 ≤ zs.getD i 0 ∧ zs.getD i 0 ≤ 255 := fun i => byte_getD hb i
 obtain ⟨c0, rfl⟩ : ∃ c : Nat, z0 = c := ⟨z0.toNat, by omega⟩
 obtain ⟨c2, hc2⟩ : ∃ c : Nat, zs.getD 2 0 = c := ⟨(zs.getD 2 0).toNat, by have := gb 2; omega⟩
 obtain ⟨c3, hc3⟩ : ∃ c : Nat, zs.getD 3 0 = c := ⟨(zs.getD 3 0).toNat, by have := gb 3; omega⟩
 obtain ⟨c4, hc4⟩ : ∃ c : Nat, zs.getD 4 0 = c := ⟨(zs.getD 4 0).toNat, by have := gb 4; omega⟩
 obtain ⟨c5, hc5⟩ : ∃ c : Nat, zs.getD 5 0 = c := ⟨(zs.getD 5 0).toNat, by have := gb 5; omega⟩
 obtain ⟨c6, hc6⟩ : ∃ c : Nat, zs.getD 6 0 = c := ⟨(zs.getD 6 0).toNat, by have := gb 6; omega⟩
 obtain ⟨c7, hc7⟩ : ∃ c : Nat, zs.getD 7 0 = c := ⟨(zs.getD 7 0).toNat, by have := gb 7; omega⟩
 obtain ⟨nn, hnn⟩ : ∃ nn, nn = c2 + c3 * 256 := ⟨_, rfl⟩
 obtain ⟨s3, hs3⟩ : ∃ s3, s3 = c4 + c5 * 256 + c6 * 65536 + c7 * 16777216 := ⟨_, rfl⟩
 have s3b : s3 < 4294967296 := by have := gb 4; have := gb 5; have := gb 6; have := gb 7; omega
 have nnb : nn < 65536 := by have := gb 2; have := gb 3; omega
 have HB := Lib.hid h
 have N2 : Hid (numN ((zs.drop 2).take 2) = nn) := by show _ = _; rw [take_get2 (by omega), hc2, show zs.getD (2 + 1) 0 = c3 from hc3, num2b, hnn]
 have N4 : Hid (numN ((zs.drop 4).take 4) = s3) := by show _ = _; rw [take_get4 (by omega), hc4, show zs.getD (4 + 1) 0 = c5 from hc5, show zs.getD (4 + 2) 0 = c6 from hc6, show zs.getD (4 + 3) 0 = c7 from hc7, num4b, hs3]
 have XC := Lib.hid (fun (w' : World) (hk : Keeps None w w') => show w'.cell? ⟨bl, off, none⟩ = some (.int .u8 c0) from by
  have hbl : bl < w.heap.size := by obtain ⟨b', o', e, hb, _⟩ := h.at_ (by omega); cases e; exact hb
  exact (hk.cell hbl (fun h => h)).trans x0)
 have GL : Hid (getL zs = if sizeZ nn = 0 ∨ (L : Int) < sizeZ nn then none else if putL c0 s3 ((zs.drop 8).take nn) = zs.take (sizeZ nn).toNat then some ((c0 : Int), (s3 : Int), (zs.drop 8).take nn, sizeZ nn) else none) := by
  show getL zs = _
  unfold getL
  rw [if_neg (by omega), hz0, hc2, hc3, hc4, hc5, hc6, hc7]
  exact tl46 _
 have hc2n : ¬ cap = 2 := by omega
 have hc4n : ¬ cap = 4 := by omega
 have hc8n : ¬ cap = 8 := by omega
 have P2 := Lib.hid ((HB.out.drop (k := 2) (by omega)).take (k := 2) (by omega))
 have P4 := Lib.hid ((HB.out.drop (k := 4) (by omega)).take (k := 4) (by omega))
 obtain ⟨p2, hp2⟩ : ∃ x, (zs.drop 2).take 2 = x := ⟨_, rfl⟩
 obtain ⟨p4, hp4⟩ : ∃ x, (zs.drop 4).take 4 = x := ⟨_, rfl⟩
 rw [hp2] at N2 P2
 rw [hp4] at N4 P4
 have NU2 := Lib.hid (fun w' (h' : Bs w' (some ⟨bl, off + 2, none⟩) 2 (cap - 2) p2) => rsnumber_any _ 2 _ p2 w' h' (by decide))
 have NU4 := Lib.hid (fun w' (h' : Bs w' (some ⟨bl, off + 4, none⟩) 4 (cap - 4) p4) => rsnumber_any _ 4 _ p4 w' h' (by decide))
 rw [N2.out] at NU2
 rw [N4.out] at NU4
 have i0 : 0 < L := by omega
 have i16 : 16 ≤ L := by omega
 clear h hl hb gb hz0 hc2 hc3 hc4 hc5 hc6 hc7 hnn hs3 x0 hp2 hp4 N2 N4 g1
 go_enter Tryz.func47, Tryz.ntmps47
 go_wp2_with fail
 obtain ⟨wb, hwb⟩ : ∃ x, w.alloc (.cells #[.int .i64 0, .int .i64 0, .slice none 0 0] 95) = x := ⟨_, rfl⟩
 have BB : Hid (Blk wb w.heap.size [.int .i64 0, .int .i64 0, .slice none 0 0] 95) := by rw [← hwb]; exact Blk.new w [.int .i64 0, .int .i64 0, .slice none 0 0] 95
 have KB : Hid (Keeps None w wb) := by rw [← hwb]; exact (Keeps.refl None w).alloc _
 rw [hwb]
 clear hwb
 refine (NU2.out wb (P2.out.keeps KB.out (fun _ _ _ _ _ h => h))).mono ?_
 rintro e w' ⟨rfl, rfl⟩
 go_wp2_with fail
 refine (rssize_any nn _).mono ?_
 rintro e w' ⟨rfl, rfl⟩
 by_cases g2 : 512 < nn
 ·have z1 : sizeZ nn = 0 := if_pos (.inr (by omega))
  have GN : Hid (getL zs = none) := by rw [GL.out]; exact if_pos (.inl z1)
  rw [z1]
  exact tl97 _
 obtain ⟨sz, hsz⟩ : ∃ sz : Nat, sizeZ nn = sz := ⟨(sizeZ nn).toNat, by unfold sizeZ; split <;> omega⟩
 have hsz2 : sz = 16 + (nn + 7) / 8 * 8 := by
  have : sizeZ nn = 16 + ((nn : Int) + 7) / 8 * 8 := if_neg (by omega)
  omega
 rw [hsz] at GL ⊢
 have szb : nn + 16 ≤ sz := by omega
 have szc : sz ≤ 600 := by omega
 clear hsz hsz2
 by_cases g3 : L < sz
 ·have z1 : ((sz : Int) == 0) = false := by simp; omega
  have z2 : decide ((L : Int) < sz) = true := decide_eq_true (by omega)
  have GN : Hid (getL zs = none) := by rw [GL.out]; exact if_pos (.inr (by omega))
  exact tl97 _
 have z1 : ((sz : Int) == 0) = false := by simp; omega
 have z2 : decide ((L : Int) < sz) = false := decide_eq_false (by omega)
 have GL2 : Hid (getL zs = if putL c0 s3 ((zs.drop 8).take nn) = zs.take sz then some ((c0 : Int), (s3 : Int), (zs.drop 8).take nn, (sz : Int)) else none) := by
  show getL zs = _
  rw [GL.out, if_neg (show ¬ ((sz : Int) = 0 ∨ (L : Int) < sz) by omega), Int.toNat_natCast]
 clear GL
 have BODY := Lib.hid ((HB.out.drop (k := 8) (by omega)).take (k := nn) (by omega))
 have PRE := Lib.hid (HB.out.take (k := sz) (by omega))
 obtain ⟨bd, hbd⟩ : ∃ bd, (zs.drop 8).take nn = bd := ⟨_, rfl⟩
 rw [hbd] at BODY GL2
 have HBL := Lib.hid BODY.out.len
 have BODY8 : Hid (Bs w (some ⟨bl, off + 8, none⟩) (8 + nn - 8) (cap - 8) bd) := by show Bs _ _ _ _ _; rw [show 8 + nn - 8 = nn by omega]; exact BODY.out
 clear hbd HB
 go_wp2
 clear z1 z2
 have KC : Hid (Keeps None wb wb.drew) := (Keeps.refl None wb).drew
 obtain ⟨mS, mh⟩ : ∃ S : World → Prop, ∀ w', S w' ↔ (w'.cell? ⟨bl, off, none⟩ = some (.int .u8 c0)) := ⟨_, fun _ => Iff.rfl⟩
 have mk0 : ∀ x : Memb mS, x.at_.cell? ⟨bl, off, none⟩ = some (.int .u8 c0) := fun x => ((mh _).1 x.is)
 have mn : Nonempty (Memb mS) := ⟨⟨(wb).drew, (mh _).2 (XC.out _ KB.out.drew)⟩⟩
 have mH := Lib.hid mh
 clear mh
 refine wp_region_mixT [6, 12, 14, 15] (InS mS) 2 16 (by kernel_rfl) (by kernel_rfl) (by kernel_rfl) (by kernel_rfl) (InS.mk ((mH.out _).2 (XC.out _ KB.out.drew))) ?_
 refine wpT_node2 (us := [(0, 16)]) [(4, 3)] [(0, 4), (7, 9)] [(14, 1)] [(0, 14), (15, 1)] (by kernel_rfl) ?_ ?_
 ·
  refine wpPs_cons ?_
  try simp only [tds, Nat.reduceSub]
  refine wpMix_seg 2 (by kernel_rfl) (by decide) ?_
  simp only [tds, Nat.reduceSub]
  repeat (go_big_quiet_step (fail))
  refine wpQuiet_nil ?_
  refine wpMix_eff (by kernel_rfl) ?_
  go_wp2_with fail
  refine (NU4.out _ (P4.out.keeps (KB.out.trans KC.out (T := None) (fun _ h => h) (fun _ _ h => h)) (fun _ _ _ _ _ h => h))).mono ?_
  rintro e w' ⟨rfl, rfl⟩
  go_wp2
  refine MixK.on (InS.mk ((mH.out _).2 (XC.out _ (KB.out.trans KC.out (T := None) (fun _ h => h) (fun _ _ h => h))))) ?_
  refine wpMix_nil ?_
  refine wpPs_nil ?_
  refine wpT_node2 (us := [(0, 4), (7, 9)]) [(8, 5)] [(0, 4), (7, 1), (13, 3)] [(14, 1)] [(0, 4), (7, 7), (15, 1)] (by kernel_rfl) ?_ ?_
  ·
   refine wpPs_cons ?_
   try simp only [tds, Nat.reduceSub]
   refine wpMix_seg 4 (by kernel_rfl) (by decide) ?_
   simp only [tds, Nat.reduceSub]
   repeat (go_big_quiet_step (fail))
   refine wpQuiet_nil ?_
   refine wpMix_eff (by kernel_rfl) ?_
   go_wp2_with (at_builtin; refine Hid.out ?_)
   refine Lib.hid ?_
   refine wpList_append_bs (Own.nil _ _) (BODY8.out.keeps (KB.out.trans KC.out (T := None) (fun _ h => h) (fun _ _ h => h)) (fun _ _ _ _ _ h => h)) (by simp; omega) (Nat.le_refl _) rfl rfl rfl rfl rfl ?_
   intro v2 w2 ho2 hk2
   rw [List.nil_append] at ho2
   have kx : Keeps None _ w2 := hk2.mono (fun i hi e => by simp [Value.ownBlock] at e)
   obtain ⟨A2, cap2, rfl, -, in2⟩ := ho2.shape
   rw [HBL.out] at ho2 ⊢
   try have NN := Lib.hid (kx.blk NB.out (fun h => h))
   try have VN := Lib.hid (show ∀ b, (Value.slice A2 nn cap2).ownBlock = some b → ¬ b = nb from fun b e h => ho2.notBelow (i := b) (by rw [h]; exact NB.out.lt) e)
   try clear NB
   try have NB := NN
   try clear NN
   have V2 := Lib.hid (ho2.lower (B' := w.heap.size + 1) (Nat.le_trans BB.out.lt KC.out.size))
   have KD := Lib.hid (KC.out.trans kx (T := None) (fun _ h => h) (fun _ _ h => h))
   clear KC kx ho2 hk2 in2
   have KC := KD
   clear KD
   go_wp2
   refine MixK.on (InS.mk ((mH.out _).2 (XC.out _ (KB.out.trans KC.out (T := None) (fun _ h => h) (fun _ _ h => h))))) ?_
   refine wpMix_nil ?_
   refine wpPs_nil ?_
   refine wpT_leaf (ps := [(0, 4), (7, 1), (13, 3)]) (by kernel_rfl) ?_
   refine wpPs_cons ?_
   try simp only [tds, Nat.reduceSub]
   refine wpMix_seg 4 (by kernel_rfl) (by decide) ?_
   simp only [tds, Nat.reduceSub]
   repeat (go_big_quiet_step (fail))
   refine wpQuiet_nil ?_
   refine wpMix_nil ?_
   refine wpPs_cons ?_
   try simp only [tds, Nat.reduceSub]
   refine wpMix_seg 1 (by kernel_rfl) (by decide) ?_
   simp only [tds, Nat.reduceSub]
   repeat (go_big_quiet_step (fail))
   refine wpQuiet_nil ?_
   refine wpMix_nil ?_
   refine wpPs_cons ?_
   try simp only [tds, Nat.reduceSub]
   refine wpMix_seg 1 (by kernel_rfl) (by decide) ?_
   simp only [tds, Nat.reduceSub]
   repeat (go_big_quiet_step (fail))
   refine wpQuiet_nil ?_
   refine wpMix_eff (by kernel_rfl) ?_
   go_wp2
   first | (refine Exists.elim (⟨_, rfl⟩ : ∃ x, w2.alloc (.cells #[.int .i64 0, .int .i64 0, .slice none 0 0] 95) = x) fun wy hwy => ?_; refine Exists.elim (⟨_, rfl⟩ : ∃ x, w2.heap.size = x) fun nb hnb => ?_; rw [hwy, hnb]) | (refine Exists.elim (⟨_, rfl⟩ : ∃ x, (wb.alloc (.cells #[.int .i64 0, .int .i64 0, .slice none 0 0] 95)).drew = x) fun wy hwy => ?_; refine Exists.elim (⟨_, rfl⟩ : ∃ x, wb.heap.size = x) fun nb hnb => ?_; rw [hwy, hnb]) | (refine Exists.elim (⟨_, rfl⟩ : ∃ x, wb.drew.alloc (.cells #[.int .i64 0, .int .i64 0, .slice none 0 0] 95) = x) fun wy hwy => ?_; refine Exists.elim (⟨_, rfl⟩ : ∃ x, wb.heap.size = x) fun nb hnb => ?_; rw [hwy, hnb])
   have NB : Hid (Blk wy nb [.int .i64 0, .int .i64 0, .slice none 0 0] 95) := by rw [← hwy, ← hnb]; first | exact Blk.new _ [_, _, _] _ | exact (Blk.new _ [_, _, _] _).drew
   have NBL : Hid (wb.heap.size ≤ nb) := by rw [← hnb]; exact KC.out.size
   have KD : Hid (Keeps None wb wy) := by rw [← hwy]; first | exact KC.out.alloc _ | exact ((Keeps.refl None wb).alloc _).drew
   try have VN := Lib.hid (show ∀ b, (Value.slice A2 nn cap2).ownBlock = some b → ¬ b = nb from fun b e h => by have h1 := V2.out.lt2 e; have h2 : w2.heap.size = nb := hnb; omega)
   try have VV : Hid (Own wy (w.heap.size + 1) (.slice A2 nn cap2) bd) := by rw [← hwy]; exact V2.out.alloc _
   try clear V2
   try have V2 := VV
   try clear VV
   clear KC hwy hnb
   have KC := KD
   clear KD
   refine MixK.on (InS.mk ((mH.out _).2 (XC.out _ (KB.out.trans KC.out (T := None) (fun _ h => h) (fun _ _ h => h))))) ?_
   exact tl98 _
  ·
   refine wpPs_cons ?_
   try simp only [tds, Nat.reduceSub]
   refine wpMix_eff (by kernel_rfl) ?_
   go_wp2
   first | (refine Exists.elim (⟨_, rfl⟩ : ∃ x, w2.alloc (.cells #[.int .i64 0, .int .i64 0, .slice none 0 0] 95) = x) fun wy hwy => ?_; refine Exists.elim (⟨_, rfl⟩ : ∃ x, w2.heap.size = x) fun nb hnb => ?_; rw [hwy, hnb]) | (refine Exists.elim (⟨_, rfl⟩ : ∃ x, (wb.alloc (.cells #[.int .i64 0, .int .i64 0, .slice none 0 0] 95)).drew = x) fun wy hwy => ?_; refine Exists.elim (⟨_, rfl⟩ : ∃ x, wb.heap.size = x) fun nb hnb => ?_; rw [hwy, hnb]) | (refine Exists.elim (⟨_, rfl⟩ : ∃ x, wb.drew.alloc (.cells #[.int .i64 0, .int .i64 0, .slice none 0 0] 95) = x) fun wy hwy => ?_; refine Exists.elim (⟨_, rfl⟩ : ∃ x, wb.heap.size = x) fun nb hnb => ?_; rw [hwy, hnb])
   have NB : Hid (Blk wy nb [.int .i64 0, .int .i64 0, .slice none 0 0] 95) := by rw [← hwy, ← hnb]; first | exact Blk.new _ [_, _, _] _ | exact (Blk.new _ [_, _, _] _).drew
   have NBL : Hid (wb.heap.size ≤ nb) := by rw [← hnb]; exact KC.out.size
   have KD : Hid (Keeps None wb wy) := by rw [← hwy]; first | exact KC.out.alloc _ | exact ((Keeps.refl None wb).alloc _).drew
   try have VN := Lib.hid (show ∀ b, (Value.slice A2 nn cap2).ownBlock = some b → ¬ b = nb from fun b e h => by have h1 := V2.out.lt2 e; have h2 : w2.heap.size = nb := hnb; omega)
   try have VV : Hid (Own wy (w.heap.size + 1) (.slice A2 nn cap2) bd) := by rw [← hwy]; exact V2.out.alloc _
   try clear V2
   try have V2 := VV
   try clear VV
   clear KC hwy hnb
   have KC := KD
   clear KD
   exact tl101 _
 ·
  refine wpPs_cons ?_
  try simp only [tds, Nat.reduceSub]
  refine wpMix_eff (by kernel_rfl) ?_
  go_wp2
  first | (refine Exists.elim (⟨_, rfl⟩ : ∃ x, w2.alloc (.cells #[.int .i64 0, .int .i64 0, .slice none 0 0] 95) = x) fun wy hwy => ?_; refine Exists.elim (⟨_, rfl⟩ : ∃ x, w2.heap.size = x) fun nb hnb => ?_; rw [hwy, hnb]) | (refine Exists.elim (⟨_, rfl⟩ : ∃ x, (wb.alloc (.cells #[.int .i64 0, .int .i64 0, .slice none 0 0] 95)).drew = x) fun wy hwy => ?_; refine Exists.elim (⟨_, rfl⟩ : ∃ x, wb.heap.size = x) fun nb hnb => ?_; rw [hwy, hnb]) | (refine Exists.elim (⟨_, rfl⟩ : ∃ x, wb.drew.alloc (.cells #[.int .i64 0, .int .i64 0, .slice none 0 0] 95) = x) fun wy hwy => ?_; refine Exists.elim (⟨_, rfl⟩ : ∃ x, wb.heap.size = x) fun nb hnb => ?_; rw [hwy, hnb])
  have NB : Hid (Blk wy nb [.int .i64 0, .int .i64 0, .slice none 0 0] 95) := by rw [← hwy, ← hnb]; first | exact Blk.new _ [_, _, _] _ | exact (Blk.new _ [_, _, _] _).drew
  have NBL : Hid (wb.heap.size ≤ nb) := by rw [← hnb]; exact KC.out.size
  have KD : Hid (Keeps None wb wy) := by rw [← hwy]; first | exact KC.out.alloc _ | exact ((Keeps.refl None wb).alloc _).drew
  try have VN := Lib.hid (show ∀ b, (Value.slice A2 nn cap2).ownBlock = some b → ¬ b = nb from fun b e h => by have h1 := V2.out.lt2 e; have h2 : w2.heap.size = nb := hnb; omega)
  try have VV : Hid (Own wy (w.heap.size + 1) (.slice A2 nn cap2) bd) := by rw [← hwy]; exact V2.out.alloc _
  try clear V2
  try have V2 := VV
  try clear VV
  clear KC hwy hnb
  have KC := KD
  clear KD
  refine MixK.on (InS.mk ((mH.out _).2 (XC.out _ (KB.out.trans KC.out (T := None) (fun _ h => h) (fun _ _ h => h))))) ?_
  refine wpMix_nil ?_
  refine wpPs_nil ?_
  refine wpT_node1 (us := [(0, 14), (15, 1)]) [(4, 3)] [(0, 4), (7, 7), (15, 1)] (by kernel_rfl) ?_
  ·
   refine wpPs_cons ?_
   try simp only [tds, Nat.reduceSub]
   refine wpMix_seg 2 (by kernel_rfl) (by decide) ?_
   simp only [tds, Nat.reduceSub]
   repeat (go_big_quiet_step (fail))
   refine wpQuiet_nil ?_
   refine wpMix_eff (by kernel_rfl) ?_
   go_wp2_with fail
   refine (NU4.out _ (P4.out.keeps (KB.out.trans KC.out (T := None) (fun _ h => h) (fun _ _ h => h)) (fun _ _ _ _ _ h => h))).mono ?_
   rintro e w' ⟨rfl, rfl⟩
   go_wp2
   exact tl101 _
open Go.RowKit
structure Rec where
  k : Int
  s : Int
  b : List Int
structure RV where
  k : Int
  s : Int
  A : Option Addr
  c : Nat
  b : List Int
def RV.v (r : RV) : Value := .slice r.A r.b.length r.c
def RV.r (r : RV) : Rec := ⟨r.k, r.s, r.b⟩
def RV.at_ (r : RV) (b : Nat) : Prop := ∃ off, 0 < r.b.length ∧ r.A = some ⟨b, off, none⟩
def rcell (r : RV) : List Value := [.int .i64 r.k, .int .i64 r.s, r.v]
def rcells : List RV → List Value
  | [] => []
  | t :: ts => rcell t ++ rcells ts
theorem rcells_append (xs ys : List RV) : rcells (xs ++ ys) = rcells xs ++ rcells ys := by
 induction xs with
 | nil => rfl
 | cons t xs ih => simp [rcells, ih]
theorem rcells_length (ts : List RV) : (rcells ts).length = ts.length * 3 := by
 induction ts with
 | nil => rfl
 | cons t ts ih => simp [rcells, rcell, ih]; omega
theorem rcells_get (ts : List RV) (k : Nat) (t : RV) (h : ts[k]? = some t) (j : Nat) (hj : j < 3) : (rcells ts)[k * 3 + j]? = (rcell t)[j]? := by
 induction ts generalizing k with
 | nil => simp at h
 | cons s ts ih =>
  cases k with
  | zero =>
   obtain rfl : s = t := by simpa using h
   simp only [rcells, Nat.zero_mul, Nat.zero_add]
   rw [List.getElem?_append_left (by simp [rcell]; omega)]
  | succ k =>
   simp only [rcells]
   rw [List.getElem?_append_right (by simp [rcell]; omega)]
   have e : (k + 1) * 3 + j - (rcell s).length = k * 3 + j := by simp [rcell]; omega
   rw [e]
   exact ih k (by simpa using h)
structure Rws (w : World) (A : Option Addr) (n cap : Nat) (rs : List RV) : Prop where
  len : rs.length = n
  le : n ≤ cap
  max : cap ≤ 9223372036854775807
  nil : A = none → n = 0 ∧ cap = 0
  at_ : 0 < n → ∃ b off, A = some ⟨b, off, none⟩ ∧ b < w.heap.size ∧ ∀ k r, rs[k]? = some r → w.cell? ⟨b, off + k * 3, none⟩ = some (.int .i64 r.k) ∧ w.cell? ⟨b, off + k * 3 + 1, none⟩ = some (.int .i64 r.s) ∧ w.cell? ⟨b, off + k * 3 + 2, none⟩ = some r.v
theorem Rws.keeps {w w' : World} {A : Option Addr} {n cap : Nat} {rs : List RV} {S : Nat → Prop} (h : Rws w A n cap rs) (hk : Keeps S w w') (hS : ∀ b off, 0 < n → b < w.heap.size → A = some ⟨b, off, none⟩ → ¬ S b) : Rws w' A n cap rs :=
  ⟨h.len, h.le, h.max, h.nil, fun hn => by
    obtain ⟨b, off, e, hb, hc⟩ := h.at_ hn
    have hb' := hS b off hn hb e
    exact ⟨b, off, e, Nat.lt_of_lt_of_le hb hk.size, fun k r hr => by
      obtain ⟨h0, h1, h2⟩ := hc k r hr
      exact ⟨(hk.cell hb hb').trans h0, (hk.cell hb hb').trans h1, (hk.cell hb hb').trans h2⟩⟩⟩
theorem Rws.later {w w' : World} {A : Option Addr} {n cap : Nat} {rs : List RV} (h : Rws w A n cap rs) (hk : Keeps None w w') : Rws w' A n cap rs := h.keeps hk (fun _ _ _ _ _ h => h)
def OwnR (w : World) (B : Nat) (v : Value) (rs : List RV) : Prop := w.ownsRow B 95 3 v rs.length (rcells rs)
theorem OwnR.nil (w : World) (B : Nat) : OwnR w B (.slice none 0 0) [] := World.ownsRow_nil _ _ _ _
theorem OwnR.keeps {w w' : World} {B : Nat} {v : Value} {rs : List RV} {S : Nat → Prop} (h : OwnR w B v rs) (hk : Keeps S w w') (hS : ∀ b, v.ownBlock = some b → ¬ S b) : OwnR w' B v rs := by
 refine ⟨h.1, ?_⟩
 rcases h.2 with hn | ⟨g, cap, cur, rfl, hb, hg, rest⟩
 ·exact .inl hn
 ·exact tl30 _
theorem OwnR.later {w w' : World} {B : Nat} {v : Value} {rs : List RV} (h : OwnR w B v rs) (hk : Keeps None w w') : OwnR w' B v rs := h.keeps hk (fun _ _ h => h)
theorem OwnR.block {w : World} {B : Nat} {v : Value} {rs : List RV} (h : OwnR w B v rs) {b : Nat} (hb : v.ownBlock = some b) : B ≤ b ∧ b < w.heap.size := by
 rcases h.2 with ⟨rfl, _⟩ | ⟨g, cap, cur, rfl, hg, hgg, _⟩
 ·cases hb
 ·obtain rfl : g = b := by simpa [Value.ownBlock] using hb
  exact ⟨hg, (Array.getElem?_eq_some_iff.1 hgg).1⟩
theorem OwnR.lower {w : World} {B B' : Nat} {v : Value} {rs : List RV} (h : OwnR w B v rs) (hB : B' ≤ B) : OwnR w B' v rs := by
 refine ⟨h.1, ?_⟩
 rcases h.2 with hn | ⟨g, cap, cur, rfl, hb, rest⟩
 ·exact .inl hn
 ·exact .inr ⟨g, cap, cur, rfl, Nat.le_trans hB hb, rest⟩
theorem OwnR.shape {w : World} {B : Nat} {v : Value} {rs : List RV} (h : OwnR w B v rs) : ∃ A cap, v = .slice A rs.length cap ∧ Rws w A rs.length cap rs ∧ (∀ b off, A = some ⟨b, off, none⟩ → v.ownBlock = some b ∧ off = 0) := by
 obtain ⟨h1, h2⟩ := h
 rcases h2 with ⟨rfl, hz⟩ | ⟨g, cap, cur, rfl, hg, hgg, hc1, hc2, hlen, htk⟩
 ·have : rs = [] := by cases rs with
   | nil => rfl
   | cons t ts => simp at hz
  subst this
  exact ⟨none, 0, rfl, ⟨rfl, Nat.le_refl _, by decide, fun _ => ⟨rfl, rfl⟩, fun h => absurd h (Nat.lt_irrefl _)⟩, fun b off e => by cases e⟩
 ·refine ⟨some ⟨g, 0, none⟩, cap, rfl, ⟨rfl, hc1, ?_, (fun e => by cases e), fun hn => ⟨g, 0, rfl, (Array.getElem?_eq_some_iff.1 hgg).1, fun k r hr => ?_⟩⟩, fun b off e => by cases e; exact ⟨rfl, rfl⟩⟩
  ·have : maxLen = 9223372036854775807 := rfl
   omega
  ·have hk : k < rs.length := (List.getElem?_eq_some_iff.1 hr).1
   have get : ∀ j, j < 3 → w.cell? ⟨g, 0 + k * 3 + j, none⟩ = (rcell r)[j]? := fun j hj => by
    rw [← rcells_get rs k r hr j hj, ← htk]
    rw [List.getElem?_take_of_lt (by omega)]
    simp [World.cell?, hgg]
   exact ⟨get 0 (by decide), get 1 (by decide), get 2 (by decide)⟩
theorem Tryz.infoRw95 : (Tryz.prog.info? 95).map (fun i => (i.zero, i.size, i.bytes)) = some (some (.agg #[.int .i64 0, .int .i64 0, .slice none 0 0]), 3, 40) := by kernel_rfl
set_option maxRecDepth 100000 in
theorem rcells_flat (ns : List RV) : ∀ u ∈ rcells ns, u.oneCell' = true := by
 intro u hu
 induction ns with
 | nil => simp [rcells] at hu
 | cons t ns ih =>
  simp only [rcells, List.mem_append] at hu
  rcases hu with hu | hu
  ·simp [rcell, RV.v] at hu; rcases hu with rfl | rfl | rfl <;> rfl
  ·exact ih hu
set_option maxRecDepth 100000 in
theorem run_append_recs {w : World} {B : Nat} {v : Value} {rs ns : List RV} {A : Option Addr} {m c : Nat} (hown : OwnR w B v rs) (hs : Rws w A m c ns) (hlen : rs.length + m ≤ 1000000) (hB : B ≤ w.heap.size) :
    ∃ v' w', (Builtin.append_ #[76, 76] 76 #[v, .slice A m c]).run Tryz.prog w = .ok v' w' ∧ OwnR w' B v' (rs ++ ns) ∧ Keeps (fun k => v.ownBlock = some k) w w' ∧ (v'.ownBlock = v.ownBlock ∨ v'.ownBlock = some w.heap.size) := by
 obtain ⟨i, hi, hz0, hz1, hz2⟩ := info_parts Tryz.infoRw95
 have hnl := hs.len
 cases A with
 | none =>
  obtain ⟨rfl, rfl⟩ := hs.nil rfl
  have e : ns = [] := List.eq_nil_of_length_eq_zero hs.len
  subst e
  exact ⟨v, w, run_append_owned_none (P := Tryz.prog) w B 76 76 95 i 3 Tryz.underlying76 hi v _ _ hown, by rw [List.append_nil]; exact hown, Keeps.refl _ _, .inl rfl⟩
 | some a =>
  have hcells : ∀ j u, (rcells ns)[j]? = some u → w.cell? (a.add j) = some u := by
   intro j u hu
   have hj : j < (rcells ns).length := (List.getElem?_eq_some_iff.1 hu).1
   rw [rcells_length] at hj
   obtain ⟨k, r, rfl, hr⟩ : ∃ k r, j = k * 3 + r ∧ r < 3 := ⟨j / 3, j % 3, by omega, by omega⟩
   have hk : k < ns.length := by omega
   obtain ⟨b, off, e, _, hc⟩ := hs.at_ (by omega)
   cases e
   have e2 : (⟨b, off, none⟩ : Addr).add (k * 3 + r) = ⟨b, off + (k * 3 + r), none⟩ := by unfold Addr.add; split <;> simp_all
   rw [e2, ← hu, rcells_get ns k ns[k] (List.getElem?_eq_getElem hk) r hr]
   obtain ⟨c0, c1, c2⟩ := hc k ns[k] (List.getElem?_eq_getElem hk)
   obtain rfl | rfl | rfl : r = 0 ∨ r = 1 ∨ r = 2 := by omega
   ·exact c0
   ·rw [← Nat.add_assoc]; exact c1
   ·rw [← Nat.add_assoc]; exact c2
  obtain ⟨v', w', hr, ho, hg, -, hat⟩ := run_append_own_at (P := Tryz.prog) w B 76 76 95 i (.agg #[.int .i64 0, .int .i64 0, .slice none 0 0]) 3 40 Tryz.underlying76 hi hz0 hz1 hz2 rfl (by decide) v rs.length (rcells rs) hown a m c (rcells ns) (by rw [rcells_length, hnl]) hcells
   (rcells_flat ns) (by unfold maxLen; omega) (by omega) hB
  refine ⟨v', w', hr, ?_, (Keeps.refl _ w).grown hg (fun k hk _ => hk), hat⟩
  unfold OwnR
  rw [List.length_append, rcells_append, hnl]
  exact ho
theorem wpList_append_recs {ops : Array Oper} {rest : List Oper} {o : Oper} {a : Act} {Q : Exit → Act → World → Prop} {s x : Operand} {w : World} {B : Nat} {v : Value} {rs ns : List RV} {A : Option Addr} {m c : Nat}
    (hown : OwnR w B v rs) (hs : Rws w A m c ns) (hlen : rs.length + m ≤ 1000000) (hB : B ≤ w.heap.size) (hg : o.guard = none) (hty : o.type = 76) (ho : o.op = .call { callee := .builtin .append, args := #[s, x], argTypes := #[76, 76] }) (h1 : a.eval s = v) (h2 : a.eval x = .slice A m c)
    (h : ∀ v' w', OwnR w' B v' (rs ++ ns) → Keeps (fun k => v.ownBlock = some k) w w' → (v'.ownBlock = v.ownBlock ∨ v'.ownBlock = some w.heap.size) → wpList Tryz.prog ops Q rest (a.put o.dst v') w') : wpList Tryz.prog ops Q (o :: rest) a w := by
 obtain ⟨v', w', hr, h3, h4, h5⟩ := run_append_recs hown hs hlen hB
 exact wpList_append_run hr hg hty ho h1 h2 (h v' w' h3 h4 h5)
theorem Rws.one {w : World} {g : Nat} {T : TypeId} (r : RV) (h : Blk w g (rcell r) T) : Rws w (some ⟨g, 0, none⟩) 1 1 [r] :=
  ⟨rfl, Nat.le_refl _, by decide, (fun e => by cases e), fun _ => ⟨g, 0, rfl, h.lt, fun k x hx => by
    cases k with
    | zero =>
      obtain rfl : r = x := by simpa using hx
      exact ⟨h.cellD 0 _ rfl, h.cellD 1 _ rfl, h.cellD 2 _ rfl⟩
    | succ k => simp at hx⟩⟩
structure Bds (w : World) (P : Nat → Prop) (rs : List RV) : Prop where
  bs : ∀ r ∈ rs, Bs w r.A r.b.length r.c r.b
  p : ∀ r ∈ rs, ∀ b, r.at_ b → P b ∧ b < w.heap.size
theorem Bds.nil (w : World) (P : Nat → Prop) : Bds w P [] := ⟨by simp, by simp⟩
theorem Bds.keeps {w w' : World} {P S : Nat → Prop} {rs : List RV} (h : Bds w P rs) (hk : Keeps S w w') (hS : ∀ b, P b → b < w.heap.size → ¬ S b) : Bds w' P rs :=
  ⟨fun r hr => (h.bs r hr).keeps hk (fun b off h0 _ e hb => by
    obtain ⟨hp, hl⟩ := h.p r hr b ⟨off, h0, e⟩
    exact hS b hp hl hb), fun r hr b hb => ⟨(h.p r hr b hb).1, Nat.lt_of_lt_of_le (h.p r hr b hb).2 hk.size⟩⟩
theorem Bds.later {w w' : World} {P : Nat → Prop} {rs : List RV} (h : Bds w P rs) (hk : Keeps None w w') : Bds w' P rs := h.keeps hk (fun _ _ _ h => h)
theorem Bds.mono {w : World} {P Q : Nat → Prop} {rs : List RV} (h : Bds w P rs) (hQ : ∀ b, P b → b < w.heap.size → Q b) : Bds w Q rs :=
  ⟨h.bs, fun r hr b hb => ⟨hQ b (h.p r hr b hb).1 (h.p r hr b hb).2, (h.p r hr b hb).2⟩⟩
theorem Bds.append {w : World} {P : Nat → Prop} {xs ys : List RV} (h : Bds w P xs) (k : Bds w P ys) : Bds w P (xs ++ ys) :=
  ⟨fun r hr => (List.mem_append.1 hr).elim (h.bs r) (k.bs r), fun r hr => (List.mem_append.1 hr).elim (h.p r) (k.p r)⟩
theorem Bds.one {w : World} {P : Nat → Prop} {r : RV} (h : Bs w r.A r.b.length r.c r.b) (hp : ∀ b, r.at_ b → P b ∧ b < w.heap.size) : Bds w P [r] :=
  ⟨fun x hx => by obtain rfl := List.mem_singleton.1 hx; exact h, fun x hx => by obtain rfl := List.mem_singleton.1 hx; exact hp⟩
structure JS where
  l : List Rec
  epoch : Nat
  cur : Int
  used : Nat
  torn : Bool
  err : Int
def jcells (q : Nat) (lv : Value) (j : JS) : List Value := [.pointer (some ⟨q, 0, none⟩), .int .i64 0, .int .i64 2, lv, .int .i64 (j.epoch : Int), .int .i64 j.cur, .int .i64 (j.used : Int), .bool j.torn, .int .i64 j.err]
structure JX where
  L : FL
  jb : Nat
  lv : Value
  rs : List RV
def JX.S (X : JX) (k : Nat) : Prop := X.L.O k ∨ k = X.jb ∨ X.lv.ownBlock = some k ∨ ∃ r ∈ X.rs, r.at_ k
structure JAt (w : World) (B q : Nat) (X : JX) (s : FS) (j : JS) : Prop where
  f : FAt w B X.L s
  hq : X.L.bf = q
  c : Blk w X.jb (jcells q X.lv j) 125
  l : OwnR w B X.lv X.rs
  bd : Bds w (fun b => B ≤ b ∧ ¬ X.L.O b ∧ b ≠ X.jb ∧ ¬ X.lv.ownBlock = some b) X.rs
  recs : X.rs.map RV.r = j.l
  jo : ¬ X.L.O X.jb
  jB : B ≤ X.jb
  lo : ∀ b, X.lv.ownBlock = some b → ¬ X.L.O b ∧ b ≠ X.jb
theorem JAt.keeps {w w' : World} {B q : Nat} {X : JX} {s : FS} {j : JS} {S : Nat → Prop} (h : JAt w B q X s j) (hk : Keeps S w w') (hS : ∀ k, X.S k → ¬ S k) : JAt w' B q X s j :=
  ⟨h.f.keeps hk (fun k hO => hS k (.inl hO)), h.hq, hk.blk h.c (hS _ (.inr (.inl rfl))), h.l.keeps hk (fun b hb => hS b (.inr (.inr (.inl hb)))),
    ⟨fun r hr => (h.bd.bs r hr).keeps hk (fun b off h0 _ e hb => hS b (.inr (.inr (.inr ⟨r, hr, off, h0, e⟩))) hb), fun r hr b hb => ⟨(h.bd.p r hr b hb).1, Nat.lt_of_lt_of_le (h.bd.p r hr b hb).2 hk.size⟩⟩, h.recs, h.jo, h.jB, h.lo⟩
theorem JAt.later {w w' : World} {B q : Nat} {X : JX} {s : FS} {j : JS} (h : JAt w B q X s j) (hk : Keeps None w w') : JAt w' B q X s j := h.keeps hk (fun _ _ h => h)
theorem JAt.lt {w : World} {B q : Nat} {X : JX} {s : FS} {j : JS} (h : JAt w B q X s j) : ∀ k, X.S k → k < w.heap.size := fun k hk => by
  rcases hk with hk | rfl | hk | ⟨r, hr, hb⟩
  · exact h.f.lt k hk
  · exact h.c.lt
  · exact (h.l.block hk).2
  · exact (h.bd.p r hr k hb).2
theorem JAt.low {w : World} {B q : Nat} {X : JX} {s : FS} {j : JS} (h : JAt w B q X s j) : ∀ k, X.S k → B ≤ k := fun k hk => by
  rcases hk with hk | rfl | hk | ⟨r, hr, hb⟩
  · exact h.f.low k hk
  · exact h.jB
  · exact (h.l.block hk).1
  · exact (h.bd.p r hr k hb).1.1
structure JTurn (w w' : World) (B q : Nat) (X X' : JX) (s' : FS) (j' : JS) : Prop where
  at_ : JAt w' B q X' s' j'
  keeps : Keeps X.S w w'
  o : ∀ k, X'.S k → X.S k ∨ w.heap.size ≤ k
  jb : X'.jb = X.jb
theorem tl103 (P : Prop) (h : P := by
 obtain ⟨⟨p1, p2, p3, p4⟩, p5⟩ := h.bd.p r hr b hb
 exact ⟨⟨p1, out b p5 p2, p3, p4⟩, Nat.lt_of_lt_of_le p5 t.keeps.size⟩) : P := h
theorem tl102 (P : Prop) (h : P := by
 have out : ∀ k, k < w.heap.size → ¬ X.L.O k → ¬ L'.O k := fun k hk hn h' => (t.o k h').elim hn (fun h2 => by omega)
 refine ⟨⟨t.at_, t.bf.trans h.hq, t.keeps.blk h.c h.jo, h.l.keeps t.keeps (fun b hb => (h.lo b hb).1), ⟨fun r hr => (h.bd.bs r hr).keeps t.keeps (fun b off h0 _ e hb => (h.bd.p r hr b ⟨off, h0, e⟩).1.2.1 hb), fun r hr b hb => ?_⟩, h.recs, out _ h.c.lt h.jo, h.jB, fun b hb => ⟨out b (h.l.block hb).2 (h.lo b hb).1, (h.lo b hb).2⟩⟩, t.keeps.mono (fun k _ hk => .inl hk), fun k hk => ?_, rfl⟩
 ·exact tl103 _
 ·rcases hk with hk | hk
  ·exact (t.o k hk).imp .inl id
  ·exact .inl (.inr hk)) : P := h
theorem JAt.turn {w w' : World} {B q : Nat} {X : JX} {s s' : FS} {j : JS} {L' : FL} (h : JAt w B q X s j) (t : Turn w w' B X.L L' s') : JTurn w w' B q X { X with L := L' } s' j := by
 exact tl102 _
theorem JTurn.still {w w1 : World} {B q : Nat} {X : JX} {s : FS} {j : JS} (h : JAt w B q X s j) (k : Keeps None w w1) : JTurn w w1 B q X X s j := ⟨h.later k, k.mono (fun _ _ h => h.elim), fun _ h => .inl h, rfl⟩
theorem JTurn.from {w w1 w' : World} {B q : Nat} {X X' : JX} {s' : FS} {j' : JS} (k : Keeps None w w1) (t : JTurn w1 w' B q X X' s' j') : JTurn w w' B q X X' s' j' :=
  ⟨t.at_, k.trans t.keeps (fun _ h => h.elim) (fun _ _ h => h), fun x hx => (t.o x hx).imp id (fun h => Nat.le_trans k.size h), t.jb⟩
theorem JTurn.later {w w1 w' : World} {B q : Nat} {X X' : JX} {s' : FS} {j' : JS} (t : JTurn w w1 B q X X' s' j') (k : Keeps None w1 w') : JTurn w w' B q X X' s' j' :=
  ⟨t.at_.later k, t.keeps.trans k (fun _ h => h) (fun _ _ h => h.elim), t.o, t.jb⟩
theorem JTurn.trans {w w1 w' : World} {B q : Nat} {X X1 X' : JX} {s1 s' : FS} {j1 j' : JS} (t : JTurn w w1 B q X X1 s1 j1) (u : JTurn w1 w' B q X1 X' s' j') : JTurn w w' B q X X' s' j' :=
  ⟨u.at_, t.keeps.trans u.keeps (fun _ h => h) (fun k hk h => (t.o k h).elim id (fun h2 => by omega)), fun x hx => (u.o x hx).elim (fun h => t.o x h) (fun h => .inr (Nat.le_trans t.keeps.size h)), u.jb.trans t.jb⟩
structure JStay (w w' : World) (B q : Nat) (X X' : JX) (s' : FS) (j' : JS) : Prop where
  t : JTurn w w' B q X X' s' j'
  l : X'.L = X.L
  k : Keeps (fun b => X.S b ∧ ¬ X.L.O b) w w'
theorem JStay.at_ {w w' : World} {B q : Nat} {X X' : JX} {s' : FS} {j' : JS} (h : JStay w w' B q X X' s' j') : JAt w' B q X' s' j' := h.t.at_
theorem JStay.keeps {w w' : World} {B q : Nat} {X X' : JX} {s' : FS} {j' : JS} (h : JStay w w' B q X X' s' j') : Keeps X.S w w' := h.t.keeps
theorem JStay.o {w w' : World} {B q : Nat} {X X' : JX} {s' : FS} {j' : JS} (h : JStay w w' B q X X' s' j') : ∀ k, X'.S k → X.S k ∨ w.heap.size ≤ k := h.t.o
theorem JStay.jb {w w' : World} {B q : Nat} {X X' : JX} {s' : FS} {j' : JS} (h : JStay w w' B q X X' s' j') : X'.jb = X.jb := h.t.jb
theorem JStay.later {w w1 w' : World} {B q : Nat} {X X' : JX} {s' : FS} {j' : JS} (t : JStay w w1 B q X X' s' j') (k : Keeps None w1 w') : JStay w w' B q X X' s' j' :=
  ⟨t.t.later k, t.l, t.k.trans k (fun _ h => h) (fun _ _ h => h.elim)⟩
theorem JStay.trans {w w1 w' : World} {B q : Nat} {X X1 X' : JX} {s1 s' : FS} {j1 j' : JS} (t : JStay w w1 B q X X1 s1 j1) (u : JStay w1 w' B q X1 X' s' j') : JStay w w' B q X X' s' j' :=
  ⟨t.t.trans u.t, u.l.trans t.l, t.k.trans u.k (fun _ h => h) (fun k hk h => ⟨(t.o k h.1).elim id (fun h2 => by omega), by rw [← t.l]; exact h.2⟩)⟩
theorem tl104 (P : Prop) (h : P := by
 have ks := (Keeps.self X.jb w).put i x
 refine ⟨⟨⟨h.f.keeps ks (fun k hO (e : k = X.jb) => h.jo (e ▸ hO)), h.hq, by rw [e]; exact h.c.set i x, h.l.keeps ks (fun b hb => (h.lo b hb).2), ⟨fun r hr => (h.bd.bs r hr).keeps ks (fun b off h0 _ e => (h.bd.p r hr b ⟨off, h0, e⟩).1.2.2.1), fun r hr b hb => ⟨(h.bd.p r hr b hb).1, Nat.lt_of_lt_of_le (h.bd.p r hr b hb).2 ks.size⟩⟩, by rw [el]; exact h.recs, h.jo, h.jB, h.lo⟩, ks.mono (fun k _ hk => .inr (.inl hk)), fun k hk => .inl hk, rfl⟩, rfl, ks.mono (fun k _ (hk : k = X.jb) => by rw [hk]; exact ⟨.inr (.inl rfl), h.jo⟩)⟩) : P := h
theorem JAt.put {w : World} {B q : Nat} {X : JX} {s : FS} {j j' : JS} (h : JAt w B q X s j) (i : Nat) (x : Value) (e : jcells q X.lv j' = (jcells q X.lv j).set i x) (el : j'.l = j.l) : JStay w (w.setCell ⟨X.jb, i, none⟩ x) B q X X s j' := by
 exact tl104 _
open Go.RowKit
theorem get_full {xs bl : List Int} {k s n : Int} (h : getL xs = some (k, s, bl, n)) :
    fitsR k s bl.length ∧ n = sizeZ bl.length ∧ 16 ≤ n ∧ n ≤ xs.length ∧ xs.take n.toNat = putL k s bl ∧ n = ((putL k s bl).length : Int) := by
 unfold getL at h
 split at h
 ·cases h
 ·simp only at h
  split at h
  ·cases h
  ·rename_i h1 h2
   split at h
   ·rename_i h3
    simp only [Option.some.injEq, Prod.mk.injEq] at h
    obtain ⟨e1, e2, e3, e4⟩ := h
    rw [e1, e2, e3, e4] at h3
    have hn0 : n ≠ 0 := by rw [← e4]; exact fun e => h2 (.inl e)
    have hle : n ≤ xs.length := by rw [← e4]; exact Int.not_lt.1 fun e => h2 (.inr e)
    have hsz : n = 16 + ((xs.getD 2 0 + xs.getD 3 0 * 256) + 7) / 8 * 8 ∧ 0 ≤ xs.getD 2 0 + xs.getD 3 0 * 256 := by
     unfold sizeZ at e4
     split at e4
     ·omega
     ·constructor <;> omega
    have hbl : (bl.length : Int) = xs.getD 2 0 + xs.getD 3 0 * 256 := by
     rw [← e3, List.length_take, List.length_drop]
     omega
    have hl := congrArg List.length h3
    rw [List.length_take] at hl
    have hf : fitsR k s bl.length := by
     by_cases hf : fitsR k s bl.length
     ·exact hf
     ·have hp : putL k s bl = [] := if_neg hf
      rw [hp] at hl
      simp at hl
      omega
    exact ⟨hf, by rw [hbl]; exact e4.symm, by omega, hle, h3.symm, by omega⟩
   ·cases h
def epochF (zs : List Int) : Int :=
  match getL zs with
  | some (k, s, b, _) => if k = 1 ∧ b.length = 0 then s else 0
  | none => 0
theorem epochF_bd (zs : List Int) : 0 ≤ epochF zs ∧ epochF zs ≤ 4294967295 := by
 unfold epochF
 cases h : getL zs with
 | none => exact ⟨Int.le_refl _, by decide⟩
 | some r =>
  obtain ⟨k, s, b, n⟩ := r
  obtain ⟨⟨-, -, h3, h4, -⟩, -⟩ := get_full h
  simp only
  split <;> omega
theorem tl106 (P : Prop) (h : P := by
 have e0 : Hid (epochF zs = 0) := by
  rcases hg with ⟨h1, -⟩ | ⟨-, h2, -⟩
  ·cases h1
  ·show epochF zs = 0
   unfold epochF; rw [h2]
 clear hg
 go_wp2
 go_ret
 exact ⟨by rw [e0.out]; rfl, K1.out.alloc _⟩) : P := h
theorem tl109 (P : Prop) (h : P := by
 have e1 : decide (0 < (bl.length : Int)) = false := decide_eq_false (by omega)
 have e1n : decide (0 < bl.length) = false := decide_eq_false (by omega)
 have e0 : Hid (epochF zs = s) := EE.out.trans (if_pos ⟨rfl, g2⟩)
 rw [g2]
 clear EE g2 e1 e1n
 go_wp2
 go_ret
 exact ⟨by rw [e0.out]; rfl, K1.out.alloc _⟩) : P := h
theorem tl110 (P : Prop) (h : P := by
 have e1 : decide (0 < (bl.length : Int)) = true := decide_eq_true (by omega)
 have e1n : decide (0 < bl.length) = true := decide_eq_true (by omega)
 have e0 : Hid (epochF zs = 0) := EE.out.trans (if_neg (fun h => g2 h.2))
 clear EE g2
 go_wp2
 go_ret
 exact ⟨by rw [e0.out]; rfl, K1.out.alloc _⟩) : P := h
theorem tl108 (P : Prop) (h : P := by
 subst g1
 by_cases g2 : bl.length = 0
 ·exact tl109 _
 ·exact tl110 _) : P := h
theorem tl111 (P : Prop) (h : P := by
 have e1 : (k == 1) = false := by simpa using g1
 have e1n : (k != 1) = true := by simpa using g1
 have e0 : Hid (epochF zs = 0) := EE.out.trans (if_neg (fun h => g1 h.1))
 clear EE
 go_wp2
 go_ret
 exact ⟨by rw [e0.out]; rfl, K1.out.alloc _⟩) : P := h
theorem tl107 (P : Prop) (h : P := by
 have hs : getL zs = some (k, s, bl, m) := by
  rcases hg with ⟨-, h2⟩ | ⟨h1, -⟩
  ·exact h2
  ·cases h1
 have EE : Hid (epochF zs = if k = 1 ∧ bl.length = 0 then s else 0) := by show _ = _; unfold epochF; rw [hs]
 clear hg hs
 by_cases g1 : k = 1
 ·exact tl108 _
 ·exact tl111 _) : P := h
theorem tl105 (P : Prop) (h : P := by
 rintro e w1 ⟨k, s, v, bl, m, ok, rfl, o1, k1, hg⟩
 obtain ⟨A1, c1, rfl, b1, -⟩ := o1.shape
 have l1 := b1.le
 have m1 := b1.max
 have K1 := Lib.hid k1
 clear o1 k1 b1
 cases ok with
 | false =>
  exact tl106 _
 | true =>
  exact tl107 _) : P := h
set_option maxRecDepth 100000 in
set_option maxHeartbeats 800000 in
theorem jepochof_any (A : Option Addr) (n cap : Nat) (zs : List Int) (w : World) (h : Bs w A n cap zs) (hn : n ≤ 1000000) : Calls Tryz.prog 76 #[.slice A n cap] w (Pure (.int .i64 (epochF zs)) w) := by
 have H := Lib.hid h
 clear h
 go_enter Tryz.func76, Tryz.ntmps76
 go_wp2_with fail
 refine (sget_any A n cap zs w H.out hn).mono ?_
 exact tl105 _
def parseF : Nat → List Int → Nat → List Rec × Nat
  | 0, _, u => ([], u)
  | f + 1, zs, u => match getL (zs.drop u) with
    | some (k, s, b, n) => if k = 1 then ([], u) else (⟨k, s, b⟩ :: (parseF f zs (u + n.toNat)).1, (parseF f zs (u + n.toNat)).2)
    | none => ([], u)
theorem tl113 (P : Prop) (h : P := by
 rcases hat with e | ⟨n, e, hn⟩
 ·exact .inl (e.symm.trans hb)
 ·rw [hb] at e; obtain rfl := Option.some.inj e; exact .inr hn) : P := h
theorem tl115 (P : Prop) (h : P := by
 obtain ⟨⟨p1, p2, p3, p4⟩, p5⟩ := h.bd.p x hx b hb
 refine ⟨⟨p1, p2, p3, fun e => ?_⟩, Nat.lt_of_lt_of_le p5 (Nat.le_trans k0.size KK.size)⟩
 rcases nd b e with h1 | h1
 ·exact p4 h1
 ·have := k0.size; omega) : P := h
theorem tl116 (P : Prop) (h : P := by
 have hp := hp b hb
 refine ⟨⟨by omega, fun hO => ?_, fun e => ?_, fun e => ?_⟩, Nat.lt_of_lt_of_le hp.2 KK.size⟩
 ·have := h.f.lt b hO; omega
 ·have e : b = X.jb := e
  have := h.c.lt; omega
 ·rcases nd b e with h1 | h1
  ·have := nv b h1; omega
  ·omega) : P := h
theorem tl114 (P : Prop) (h : P := by
 refine Bds.append ⟨fun x hx => (hw.bd.bs x hx).keeps KK (fun b off h0 _ e hb => ?_), fun x hx b hb => ?_⟩ (Bds.one (hb.keeps KK (fun b off h0 _ e hb => ?_)) fun b hb => ?_)
 ·have hp := (hw.bd.p x hx b ⟨off, h0, e⟩).1
  rcases hb with hb | hb
  ·exact hp.2.2.2 hb
  ·exact hp.2.2.1 hb
 ·exact tl115 _
 ·have hp := hp b ⟨off, h0, e⟩
  rcases hb with hb | hb
  ·have := nv b hb; omega
  ·have := h.c.lt; omega
 ·exact tl116 _) : P := h
theorem tl118 (P : Prop) (h : P := by
 refine ⟨fun hO => ?_, fun e => ?_⟩
 ·have := h.f.lt b hO; have := k0.size; omega
 ·have e : b = X.jb := e
  have := h.c.lt; have := k0.size; omega) : P := h
theorem tl117 (P : Prop) (h : P := by
 rcases nd b hb with h1 | h1
 ·exact h.lo b h1
 ·exact tl118 _) : P := h
theorem tl119 (P : Prop) (h : P := by
 refine k0.trans KK (fun _ h => h.elim) (fun b _ hb => ?_)
 rcases hb with hb | hb
 ·exact .inr (.inr (.inl hb))
 ·exact .inr (.inl hb)) : P := h
theorem tl121 (P : Prop) (h : P := by
 rcases List.mem_append.1 hx' with h1 | h1
 ·exact .inl (.inr (.inr (.inr ⟨x', h1, hbx⟩)))
 ·obtain rfl := List.mem_singleton.1 h1
  exact .inr (hp x hbx).1) : P := h
theorem tl120 (P : Prop) (h : P := by
 rcases hx with hx | hx | hx | ⟨x', hx', hbx⟩
 ·exact .inl (.inl hx)
 ·exact .inl (.inr (.inl hx))
 ·rcases nd x hx with h1 | h1
  ·exact .inl (.inr (.inr (.inl h1)))
  ·exact .inr (Nat.le_trans k0.size h1)
 ·exact tl121 _) : P := h
theorem tl122 (P : Prop) (h : P := by
 refine k0.trans KK (fun _ h => h.elim) (fun b _ hb => ?_)
 rcases hb with hb | hb
 ·exact ⟨.inr (.inr (.inl hb)), (h.lo b hb).1⟩
 ·exact ⟨.inr (.inl hb), by rw [hb]; exact h.jo⟩) : P := h
theorem tl112 (P : Prop) (h : P := by
 have hw := h.later k0
 have ks := (Keeps.self X.jb w4).put 3 v'
 have nv : ∀ b, X.lv.ownBlock = some b → b < w0.heap.size := fun b hb => (h.l.block hb).2
 have hB0 : B ≤ w0.heap.size := Nat.le_of_lt (Nat.lt_of_le_of_lt h.jB h.c.lt)
 have nd : ∀ b, v'.ownBlock = some b → X.lv.ownBlock = some b ∨ w.heap.size ≤ b := fun b hb => by
  exact tl113 _
 have KK : Keeps (fun b => X.lv.ownBlock = some b ∨ b = X.jb) w (w4.setCell ⟨X.jb, 3, none⟩ v') := k.trans ks (fun _ h => .inl h) (fun _ _ h => .inr h)
 have jlv : ¬ X.lv.ownBlock = some X.jb := fun e => (h.lo _ e).2 rfl
 refine ⟨⟨⟨hw.f.keeps KK (fun b hO e => by
   rcases e with e | e
   ·exact (h.lo b e).1 hO
   ·exact h.jo (e ▸ hO)), h.hq, (k.blk hw.c jlv).set 3 v', o.keeps ks (fun b hb (e : b = X.jb) => by
   rcases nd b hb with h1 | h1
   ·exact (h.lo b h1).2 e
   ·have := hw.c.lt; omega), ?_, by simp [h.recs], h.jo, h.jB, fun b hb => ?_⟩, ?_, fun x hx => ?_, rfl⟩, rfl, ?_⟩
 ·exact tl114 _
 ·exact tl117 _
 ·exact tl119 _
 ·exact tl120 _
 ·exact tl122 _) : P := h
theorem JAt.push {w0 w w4 : World} {B q : Nat} {X : JX} {s : FS} {j : JS} {v' : Value} {r : RV} (h : JAt w0 B q X s j) (k0 : Keeps None w0 w) (k : Keeps (fun k => X.lv.ownBlock = some k) w w4) (o : OwnR w4 B v' (X.rs ++ [r]))
    (hat : v'.ownBlock = X.lv.ownBlock ∨ ∃ n, v'.ownBlock = some n ∧ w.heap.size ≤ n) (hb : Bs w r.A r.b.length r.c r.b) (hp : ∀ b, r.at_ b → w0.heap.size ≤ b ∧ b < w.heap.size) :
    JStay w0 (w4.setCell ⟨X.jb, 3, none⟩ v') B q X ⟨X.L, X.jb, v', X.rs ++ [r]⟩ s { j with l := j.l ++ [r.r] } := by
 exact tl112 _
open Go.RowKit
theorem tl123 (P : Prop) (h : P := by
 obtain ⟨rfl, hk1⟩ := hpush
 have hs : getL (zs.drop (1024)) = some (k, s', bl2, m) := by
  rcases hg with ⟨-, h2⟩ | ⟨h1, -⟩
  ·exact h2
  ·cases h1
 clear hg
 obtain ⟨hfit, -, hm16, hml, -, -⟩ := get_full hs
 rw [List.length_drop, HL.out] at hml
 obtain ⟨mm, rfl⟩ : ∃ mm : Nat, m = mm := ⟨m.toNat, by omega⟩
 exact absurd hm16 (by omega)) : P := h
theorem tl124 (P : Prop) (h : P := by
 show _ = _
 conv => lhs; unfold parseF
 rcases hg with ⟨h1, h2⟩ | ⟨h1, h2, -⟩
 ·rw [h2]; simp only; rw [if_pos]
  exact Classical.byContradiction fun hk => hpush ⟨h1, hk⟩
 ·rw [h2]) : P := h
theorem tl126 (P : Prop) (h : P := by
 refine ⟨rfl, ⟨L1, jb1, lv1, rs1⟩, ?_⟩
 rw [hu, ← PAR1.out, PE.out, List.append_nil, HBB.out]
 exact J3.out.trans P7.out) : P := h
theorem tl125 (P : Prop) (h : P := by
 have y6 := J3.out.at_.c.cellD 6 _ rfl
 have y7 := J3.out.at_.c.cellD 7 _ rfl
 have f7 := J3.out.at_.c.frozen 7
 try dsimp only at y6 y7
 have SL2 := Lib.hid (SLK.out _ (K2.out.mono (fun _ _ h => h.elim)))
 have BK := Lib.hid (fun w' h' => isBlank_any (some ⟨bl, off, none⟩) (0) (0) (zs.drop (1024)) w' h')
 obtain ⟨bb, HBB⟩ : ∃ x, Hid (blankB (zs.drop (1024)) = x) := ⟨_, rfl⟩
 rw [HBB.out] at BK
 go_wp2_with fail
 refine (BK.out _ (SL2.out.alloc _)).mono ?_
 rintro e w' ⟨rfl, rfl⟩
 have P7 := Lib.hid (J3.out.at_.put (j' := { j with l := j.l ++ pre, used := (1024), torn := !bb }) 7 (.bool (!bb)) rfl rfl)
 try dsimp only at P7
 go_wp2
 all_goals try rw [Exit.noGoto_normal]
 go_end0
 have hu : (parseF 64 zs 16).2 = (1024) := PAR2.out.symm.trans (by rw [PE.out])
 exact tl126 _) : P := h
theorem tl127 (P : Prop) (h : P := by
 try dsimp only at P6
 have e6 : (((u) + mm : Nat) : Int) = ((u) : Int) + (mm : Int) := by omega
 rw [e6] at P6
 clear e6
 go_wp2
 go_roundg G
 case measure => omega
 case rel => exact ⟨⟨L1, jb1, .slice A6 (rl + 1) c6, rs1 ++ [⟨k, s', A2, c2, bl2⟩]⟩, (u) + mm, pre ++ [⟨k, s', bl2⟩], by omega, by omega, by omega, by rw [← List.append_assoc]; exact T1.out.trans (PU.out.trans P6.out), by rw [← PAR1.out, PS.out]; simp, by rw [← PAR2.out, PS.out], by rw [List.length_append, List.length_singleton]; omega⟩) : P := h
theorem tl128 (P : Prop) (h : P := by
 have y6 := J3.out.at_.c.cellD 6 _ rfl
 have y7 := J3.out.at_.c.cellD 7 _ rfl
 have f7 := J3.out.at_.c.frozen 7
 try dsimp only at y6 y7
 have SL2 := Lib.hid (SLK.out _ (K2.out.mono (fun _ _ h => h.elim)))
 have BK := Lib.hid (fun w' h' => isBlank_any (some ⟨bl, off + u, none⟩) (1024 - u) (cap - u) (zs.drop (u)) w' h')
 obtain ⟨bb, HBB⟩ : ∃ x, Hid (blankB (zs.drop (u)) = x) := ⟨_, rfl⟩
 rw [HBB.out] at BK
 go_wp2_with fail
 refine (BK.out _ (SL2.out.alloc _)).mono ?_
 rintro e w' ⟨rfl, rfl⟩
 have P7 := Lib.hid (J3.out.at_.put (j' := { j with l := j.l ++ pre, used := (u), torn := !bb }) 7 (.bool (!bb)) rfl rfl)
 try dsimp only at P7
 go_wp2
 all_goals try rw [Exit.noGoto_normal]
 go_end0
 have hu : (parseF 64 zs 16).2 = (u) := PAR2.out.symm.trans (by rw [PE.out])
 exact tl126 _) : P := h
set_option maxRecDepth 100000 in
set_option maxHeartbeats 3200000 in
theorem jread_any (B q : Nat) (X : JX) (s : FS) (j : JS) (A : Option Addr) (cap : Nat) (zs : List Int) (w : World) (h : JAt w B q X s j) (hb : Bs w A 1024 cap zs) (hs : ∀ b off, A = some ⟨b, off, none⟩ → ¬ X.S b) (hl : j.l.length ≤ 1000) :
    Calls Tryz.prog 77 #[.pointer (some ⟨X.jb, 0, none⟩), .slice A 1024 cap] w fun e w' => e = .returned (.tuple #[]) ∧ ∃ X', JStay w w' B q X X' s { j with l := j.l ++ (parseF 64 zs 16).1, used := (parseF 64 zs 16).2, torn := !blankB (zs.drop (parseF 64 zs 16).2) } := by
 have hle := hb.le
 have hmx := hb.max
 have HL := Lib.hid hb.len
 obtain ⟨bl, off, he, hblt, -⟩ := hb.at_ (by decide)
 subst he
 have HB := Lib.hid hb
 have NS := Lib.hid (hs bl off rfl)
 have HLT := Lib.hid hblt
 obtain ⟨L, jb, lv, rs⟩ := X
 dsimp only at h hs ⊢
 have y6 := h.c.cellD 6 _ rfl
 have f6 := h.c.frozen 6
 have P6 := Lib.hid (h.put (j' := { j with used := 16 }) 6 (.int .i64 16) rfl rfl)
 dsimp only at y6 f6 P6
 clear h hb hs hblt
 go_enter Tryz.func77, Tryz.ntmps77
 go_wp2
 go_step3
 go_wp2
 go_step3
 go_wp2
 go_loopg [] 64 (fun g wr => ∃ (X1 : JX) (u : Nat) (pre : List Rec), g ≤ 64 ∧ 16 + 16 * (64 - g) ≤ u ∧ u ≤ 1024 ∧ JStay w wr B q ⟨L, jb, lv, rs⟩ X1 s { j with l := j.l ++ pre, used := u } ∧ pre ++ (parseF g zs u).1 = (parseF 64 zs 16).1 ∧ (parseF g zs u).2 = (parseF 64 zs 16).2 ∧ pre.length ≤ 64 - g)
 case atStart => exact ⟨⟨L, jb, lv, rs⟩, 16, [], Nat.le_refl _, Nat.le_refl _, by decide, by simpa using P6.out, rfl, rfl, Nat.zero_le _⟩
 case round =>
  clear P6 y6 f6
  obtain ⟨X1, u, pre, hg1, hg2, hu, ht, hp1, hp2, hpl⟩ := hrel
  obtain ⟨wv, rfl⟩ : ∃ x, x = wr := ⟨_, rfl⟩
  obtain ⟨G, rfl⟩ : ∃ G, gk = G + 1 := ⟨gk - 1, by omega⟩
  obtain ⟨L1, jb1, lv1, rs1⟩ := X1
  obtain rfl : jb1 = jb := ht.jb
  have T1 := Lib.hid ht
  have PAR1 := Lib.hid hp1
  have PAR2 := Lib.hid hp2
  have y6 := ht.at_.c.cellD 6 _ rfl
  try dsimp only at y6
  have BV := Lib.hid (HB.out.keeps ht.keeps (fun b off h0 _ e hS => by cases e; exact NS.out hS))
  have NS1 : Hid (¬ JX.S ⟨L1, jb1, lv1, rs1⟩ bl) := fun hS => by
   rcases ht.o bl hS with h1 | h1
   ·exact NS.out h1
   ·have := HLT.out; omega
  clear ht hp1 hp2
  by_cases hcu : cap = u
  ·obtain rfl : u = 1024 := by omega
   subst hcu
   have SL : Hid (Bs wv (some ⟨bl, off, none⟩) (1024 - 1024) (1024 - 1024) (zs.drop 1024)) := by have := BV.out.dropIf (k := 1024) (by omega); rwa [if_pos rfl] at this
   have SEP : Hid (∀ b o, 0 < 1024 - 1024 → some ⟨bl, off, none⟩ = some (⟨b, o, none⟩ : Addr) → ¬ JX.S ⟨L1, jb1, lv1, rs1⟩ b) := fun b o h => absurd h (by decide)
   have SL : Hid (Bs wv (some ⟨bl, off, none⟩) 0 0 (zs.drop 1024)) := SL
   have SEP : Hid (∀ b o, 0 < 0 → some ⟨bl, off, none⟩ = some (⟨b, o, none⟩ : Addr) → ¬ JX.S ⟨L1, jb1, lv1, rs1⟩ b) := fun b o h => absurd h (by decide)
   have SLK : Hid (∀ w', Keeps (JX.S ⟨L1, jb1, lv1, rs1⟩) wv w' → Bs w' (some ⟨bl, off, none⟩) (0) (0) (zs.drop (1024))) := fun w' hk => SL.out.keeps hk (fun b off h0 _ e => SEP.out b off h0 e)
   clear SEP
   go_wp2_with fail
   refine (sget_any (some ⟨bl, off, none⟩) (0) (0) _ wv SL.out (by omega)).mono ?_
   rintro e w2 ⟨k, s', v, bl2, m, ok, rfl, o2, k2, hg⟩
   obtain ⟨A2, c2, rfl, b2, in2⟩ := o2.shape
   have l2 := b2.le
   have m2 := b2.max
   have B2 := Lib.hid b2
   have I2 := Lib.hid in2
   have K2 := Lib.hid k2
   obtain ⟨n2, HN2⟩ : ∃ x, Hid (bl2.length = x) := ⟨_, rfl⟩
   rw [HN2.out] at l2 B2 ⊢
   clear o2 k2 b2 in2
   by_cases hpush : ok = true ∧ k ≠ 1
   ·exact tl123 _
   ·have PE : Hid (parseF (G + 1) zs (1024) = ([], (1024))) := by
     exact tl124 _
    clear hg
    cases ok with
    | false =>
     skip
     have J3 := Lib.hid (T1.out.later (K2.out.alloc (.cells #[.int .i64 (k), .int .i64 s', .slice A2 n2 c2] 95)))
     exact tl125 _
    | true =>
     obtain rfl : k = 1 := Classical.byContradiction fun hk => hpush ⟨rfl, hk⟩
     have J3 := Lib.hid (T1.out.later (K2.out.alloc (.cells #[.int .i64 (1), .int .i64 s', .slice A2 n2 c2] 95)))
     exact tl125 _
  ·have SL := Lib.hid (BV.out.drop (k := u) (by omega))
   have SEP : Hid (∀ b o, 0 < 1024 - u → some ⟨bl, off + u, none⟩ = some (⟨b, o, none⟩ : Addr) → ¬ JX.S ⟨L1, jb1, lv1, rs1⟩ b) := fun b o _ e hS => by cases e; exact NS1.out hS
   have SLK : Hid (∀ w', Keeps (JX.S ⟨L1, jb1, lv1, rs1⟩) wv w' → Bs w' (some ⟨bl, off + u, none⟩) (1024 - u) (cap - u) (zs.drop (u))) := fun w' hk => SL.out.keeps hk (fun b off h0 _ e => SEP.out b off h0 e)
   clear SEP
   go_wp2_with fail
   refine (sget_any (some ⟨bl, off + u, none⟩) (1024 - u) (cap - u) _ wv SL.out (by omega)).mono ?_
   rintro e w2 ⟨k, s', v, bl2, m, ok, rfl, o2, k2, hg⟩
   obtain ⟨A2, c2, rfl, b2, in2⟩ := o2.shape
   have l2 := b2.le
   have m2 := b2.max
   have B2 := Lib.hid b2
   have I2 := Lib.hid in2
   have K2 := Lib.hid k2
   obtain ⟨n2, HN2⟩ : ∃ x, Hid (bl2.length = x) := ⟨_, rfl⟩
   rw [HN2.out] at l2 B2 ⊢
   clear o2 k2 b2 in2
   by_cases hpush : ok = true ∧ k ≠ 1
   ·obtain ⟨rfl, hk1⟩ := hpush
    have hs : getL (zs.drop (u)) = some (k, s', bl2, m) := by
     rcases hg with ⟨-, h2⟩ | ⟨h1, -⟩
     ·exact h2
     ·cases h1
    clear hg
    obtain ⟨hfit, -, hm16, hml, -, -⟩ := get_full hs
    rw [List.length_drop, HL.out] at hml
    obtain ⟨mm, rfl⟩ : ∃ mm : Nat, m = mm := ⟨m.toNat, by omega⟩
    have PS : Hid (parseF (G + 1) zs (u) = (⟨k, s', bl2⟩ :: (parseF G zs ((u) + mm)).1, (parseF G zs ((u) + mm)).2)) := by
     show _ = _
     conv => lhs; unfold parseF
     rw [hs]; simp only [if_neg hk1, Int.toNat_natCast]
    have e1 : (k == 1) = false := by simpa using hk1
    have e1n : (k != 1) = true := by simpa using hk1
    have hrl : rs1.length ≤ 1100 := by
     have e := congrArg List.length T1.out.at_.recs
     rw [List.length_map] at e
     simp only [List.length_append] at e
     omega
    clear hs hk1 hfit
    go_wp2
    obtain ⟨w3, hw3⟩ : ∃ x, w2.alloc (.cells #[.int .i64 k, .int .i64 s', .slice A2 n2 c2] 95) = x := ⟨_, rfl⟩
    obtain ⟨nb, hnb⟩ : ∃ x, w2.heap.size = x := ⟨_, rfl⟩
    have K3 : Hid (Keeps None wv w3) := by show Keeps _ _ _; rw [← hw3]; exact K2.out.alloc _
    have N3 : Hid (Blk w3 nb [.int .i64 k, .int .i64 s', .slice A2 n2 c2] 95) := by show Blk _ _ _ _; rw [← hw3, ← hnb]; exact Blk.new _ [_, _, _] _
    have B3 : Hid (Bs w3 A2 n2 c2 bl2) := by show Bs _ _ _ _ _; rw [← hw3]; exact B2.out.alloc _
    have W23 : Hid (w2.heap.size ≤ w3.heap.size) := by show _ ≤ _; rw [← hw3]; simp
    have NBL : Hid (wv.heap.size ≤ nb) := by show _ ≤ _; rw [← hnb]; exact K2.out.size
    rw [hw3, hnb]
    clear hw3 hnb
    have J3 := Lib.hid (T1.out.at_.later K3.out)
    obtain ⟨A5, c5, hlv, r5, -⟩ := J3.out.l.shape
    dsimp only at hlv r5
    have l5 := r5.le
    have m5 := r5.max
    obtain ⟨rl, HRL⟩ : ∃ x, Hid (rs1.length = x) := ⟨_, rfl⟩
    rw [HRL.out] at hlv l5 hrl
    have HLV := Lib.hid hlv
    clear hlv r5
    have y3 := J3.out.c.cellD 3 _ rfl
    have z6 := J3.out.c.cellD 6 _ rfl
    try dsimp only at y3 z6
    rw [HLV.out] at y3
    have hjn : Hid (jb1 < wv.heap.size) := T1.out.at_.c.lt
    obtain ⟨mmS, mmh⟩ : ∃ S : World → Prop, ∀ w', S w' ↔ (w'.cell? ⟨jb1, 3, none⟩ = some (.slice A5 rl c5) ∧ w'.cell? ⟨nb, 0, none⟩ = some (.int .i64 k) ∧ w'.cell? ⟨nb, 1, none⟩ = some (.int .i64 s') ∧ w'.cell? ⟨nb, 2, none⟩ = some (.slice A2 n2 c2)) := ⟨_, fun _ => Iff.rfl⟩
    have mmk0 : ∀ x : Memb mmS, x.at_.cell? ⟨jb1, 3, none⟩ = some (.slice A5 rl c5) := fun x => ((mmh _).1 x.is).1
    have mmk1 : ∀ x : Memb mmS, x.at_.cell? ⟨nb, 0, none⟩ = some (.int .i64 k) := fun x => ((mmh _).1 x.is).2.1
    have mmk2 : ∀ x : Memb mmS, x.at_.cell? ⟨nb, 1, none⟩ = some (.int .i64 s') := fun x => ((mmh _).1 x.is).2.2.1
    have mmk3 : ∀ x : Memb mmS, x.at_.cell? ⟨nb, 2, none⟩ = some (.slice A2 n2 c2) := fun x => ((mmh _).1 x.is).2.2.2
    have mmn : Nonempty (Memb mmS) := ⟨⟨(w3).drew, (mmh _).2 ⟨y3, N3.out.cellD 0 _ rfl, N3.out.cellD 1 _ rfl, N3.out.cellD 2 _ rfl⟩⟩⟩
    have mmH := Lib.hid mmh
    clear mmh
    refine wp_region_mix [6, 7, 10] (InS mmS) (by kernel_rfl) (by kernel_rfl) (InS.mk ((mmH.out _).2 ⟨y3, N3.out.cellD 0 _ rfl, N3.out.cellD 1 _ rfl, N3.out.cellD 2 _ rfl⟩)) ?_
    refine wpMix_seg 6 (by kernel_rfl) (by decide) ?_
    simp only [tds]
    repeat (go_big_quiet_step (fail))
    refine wpQuiet_nil ?_
    refine wpMix_eff (by kernel_rfl) ?_
    go_wp2
    first | (refine Exists.elim (⟨_, rfl⟩ : ∃ x, (w3.alloc (.cells #[.int .i64 k, .int .i64 s', .slice A2 n2 c2] 95)).drew = x) fun w4 hw4 => ?_; rw [hw4]) | (refine Exists.elim (⟨_, rfl⟩ : ∃ x, w3.drew.alloc (.cells #[.int .i64 k, .int .i64 s', .slice A2 n2 c2] 95) = x) fun w4 hw4 => ?_; rw [hw4])
    have K4 : Hid (Keeps None w3 w4) := by show Keeps _ _ _; rw [← hw4]; first | exact ((Keeps.refl None w3).alloc _).drew | exact (Keeps.refl None w3).drew.alloc _
    have N4 : Hid (Blk w4 w3.heap.size [.int .i64 k, .int .i64 s', .slice A2 n2 c2] 95) := by show Blk _ _ _ _; rw [← hw4]; first | exact (Blk.new _ [_, _, _] _).drew | exact Blk.new w3.drew [_, _, _] _
    have M4 := Lib.hid (K4.out.blk N3.out (fun h => h))
    have J4 := Lib.hid (J3.out.later K4.out)
    have x3 := J4.out.c.cellD 3 _ rfl
    try dsimp only at x3
    rw [HLV.out] at x3
    clear hw4
    refine MixK.on (InS.mk ((mmH.out _).2 (⟨x3, M4.out.cellD 0 _ rfl, M4.out.cellD 1 _ rfl, M4.out.cellD 2 _ rfl⟩))) ?_
    refine wpMix_eff (by kernel_rfl) ?_
    go_wp2_with (at_builtin; refine Hid.out ?_)
    refine Lib.hid ?_
    refine wpList_append_recs (B := B) (rs := rs1) (ns := [⟨k, s', A2, c2, bl2⟩]) (HLV.out ▸ J4.out.l) (Rws.one _ (by show Blk _ _ [_, _, .slice A2 bl2.length c2] _; rw [HN2.out]; exact N4.out)) (by rw [HRL.out]; omega) (Nat.le_of_lt (Nat.lt_of_le_of_lt J4.out.jB J4.out.c.lt)) rfl rfl rfl rfl rfl ?_
    intro v6 w6 o6 k6 hat6
    rw [← HLV.out] at k6 hat6
    obtain ⟨A6, c6, hv6, r6, -⟩ := o6.shape
    have m6 := r6.max
    have l6 := r6.le
    have n6e : (rs1 ++ [(⟨k, s', A2, c2, bl2⟩ : RV)]).length = rl + 1 := by rw [List.length_append, HRL.out]; rfl
    rw [n6e] at hv6 l6
    subst hv6
    have PU := Lib.hid (T1.out.at_.push (K3.out.trans K4.out (T := None) (fun _ h => h) (fun _ _ h => h)) k6 o6 (hat6.imp id (fun h => ⟨_, h, Nat.le_refl _⟩)) ((show Bs w3 A2 bl2.length c2 bl2 from by rw [HN2.out]; exact B3.out).keeps K4.out (fun _ _ _ _ _ h => h)) (fun b ⟨o, h0, e⟩ => by have h1 := I2.out b o e; have h2 := (K3.out.trans K4.out (T := None) (fun _ h => h) (fun _ _ h => h)).size; have h3 := K3.out.size; have h4 := W23.out; have h5 := K4.out.size; exact ⟨h1.1, by omega⟩))
    have Y6 := Lib.hid (k6.blk J4.out.c (fun e => (J4.out.lo _ e).2 rfl))
    have M6 := Lib.hid (k6.blk M4.out (fun e => by have h1 := (T1.out.at_.l.block e).2; have h2 := NBL.out; omega))
    have x3 := Y6.out.cellD 3 _ rfl
    have g3 := Y6.out.frozen 3
    have g6 := Y6.out.frozen 6
    have x6 := Y6.out.cellD 6 _ rfl
    try dsimp only at x3 x6
    rw [HLV.out] at x3
    clear o6 k6 hat6 r6 n6e
    go_wp2
    refine MixK.on (InS.mk ((mmH.out _).2 (⟨x3, M6.out.cellD 0 _ rfl, M6.out.cellD 1 _ rfl, M6.out.cellD 2 _ rfl⟩))) ?_
    refine wpMix_seg 2 (by kernel_rfl) (by decide) ?_
    simp only [tds]
    repeat (go_big_quiet_step (fail))
    refine wpQuiet_nil ?_
    refine wpMix_eff (by kernel_rfl) ?_
    go_wp2
    refine MixK.last (by kernel_rfl) ?_
    refine wpMix_nil ?_
    clear mmk0 mmk1 mmk2 mmk3 mmn mmH
    have P6 := Lib.hid (PU.out.at_.put (j' := { j with l := (j.l ++ pre) ++ [⟨k, s', bl2⟩], used := (u) + mm }) 6 (.int .i64 (((u) + mm : Nat) : Int)) rfl rfl)
    exact tl127 _
   ·have PE : Hid (parseF (G + 1) zs (u) = ([], (u))) := by
     exact tl124 _
    clear hg
    cases ok with
    | false =>
     skip
     have J3 := Lib.hid (T1.out.later (K2.out.alloc (.cells #[.int .i64 (k), .int .i64 s', .slice A2 n2 c2] 95)))
     exact tl128 _
    | true =>
     obtain rfl : k = 1 := Classical.byContradiction fun hk => hpush ⟨rfl, hk⟩
     have J3 := Lib.hid (T1.out.later (K2.out.alloc (.cells #[.int .i64 (1), .int .i64 s', .slice A2 n2 c2] 95)))
     exact tl128 _
end Go.Proofs.YtobgbilanibodaaGreat
