
/- The walk of seal.Put. -/
import Derived.Test.YtgehkioneelgcaaJCuXSealPut2
import Derived.Test.YtgehkioneelgcaaJCuXMix3
import Derived.Deep.LoopGhost
namespace Go.Proofs.Ytgehkioneelgcaa
open Go.RowKit

theorem all_three {w : World} {a b c : Part} (ha : Bs w a.A a.n a.cap a.zs) (hb : Bs w b.A b.n b.cap b.zs) (hc : Bs w c.A c.n c.cap c.zs) : ∀ p ∈ [a, b, c], Bs w p.A p.n p.cap p.zs := by
  intro p hp
  simp only [List.mem_cons, List.not_mem_nil, or_false] at hp
  rcases hp with rfl | rfl | rfl
  · exact ha
  · exact hb
  · exact hc
theorem own_bs {w : World} {X : Nat} {A : Option Addr} {n cap : Nat} {l : List Int} (h : Own w X (.slice A n cap) l) : Bs w A n cap l := by
  obtain ⟨A', cap', e, hb, -⟩ := h.shape
  cases e
  exact hb
theorem Blk.newAt {X : World} {b : Nat} (h : X.heap.size = b) (c : List Value) (T : TypeId) : Blk (X.alloc (.cells c.toArray T)) b c T := by
  subst h; exact Blk.new _ _ _
theorem lit_bs (w : World) (b : Nat) (hb : b = w.heap.size) (zs : List Int) (hz : ∀ z ∈ zs, 0 ≤ z ∧ z ≤ 255) (hl : zs.length ≤ 1000000) : Bs (w.alloc (.cells (zs.map (Value.int .u8)).toArray 5)) (some ⟨b, 0, none⟩) zs.length zs.length zs := by
  subst hb; exact own_bs (Own.lit w zs hz hl)
set_option maxRecDepth 100000 in
set_option maxHeartbeats 3200000 in
theorem sput_any (kind seq : Int) (A : Option Addr) (n cap : Nat) (zs : List Int) (w : World) (h : Bs w A n cap zs) (hmx : n ≤ 1000000) :
    Calls Try.prog 31 #[.agg #[.int .i64 kind, .int .i64 seq, .slice A n cap]] w fun e w' => ∃ v, e = .returned v ∧ Own w' w.heap.size v (putL kind seq zs) ∧ Keeps None w w' := by
  have hl := h.len
  by_cases g1 : kind < 1
  · have d1 : decide (kind < 1) = true := decide_eq_true g1
    have HP : Hid (putL kind seq zs = []) := if_neg (fun hf => by obtain ⟨f1, f2, f3, f4, f5⟩ := hf; omega)
    clear h
    go_enter Try.func31, Try.ntmps31
    go_wp2
    go_ret
    exact ⟨_, rfl, by rw [HP.out]; exact Own.nil _ _, (Keeps.refl _ _).alloc _⟩
  have d1 : decide (kind < 1) = false := decide_eq_false g1
  by_cases g2 : 250 < kind
  · have d2 : decide (250 < kind) = true := decide_eq_true g2
    have HP : Hid (putL kind seq zs = []) := if_neg (fun hf => by obtain ⟨f1, f2, f3, f4, f5⟩ := hf; omega)
    clear h
    go_enter Try.func31, Try.ntmps31
    go_wp2
    go_ret
    exact ⟨_, rfl, by rw [HP.out]; exact Own.nil _ _, (Keeps.refl _ _).alloc _⟩
  have d2 : decide (250 < kind) = false := decide_eq_false g2
  by_cases g3 : seq < 0
  · have d3 : decide (seq < 0) = true := decide_eq_true g3
    have HP : Hid (putL kind seq zs = []) := if_neg (fun hf => by obtain ⟨f1, f2, f3, f4, f5⟩ := hf; omega)
    clear h
    go_enter Try.func31, Try.ntmps31
    go_wp2
    go_ret
    exact ⟨_, rfl, by rw [HP.out]; exact Own.nil _ _, (Keeps.refl _ _).alloc _⟩
  have d3 : decide (seq < 0) = false := decide_eq_false g3
  by_cases g4 : 4294967295 < seq
  · have d4 : decide (4294967295 < seq) = true := decide_eq_true g4
    have HP : Hid (putL kind seq zs = []) := if_neg (fun hf => by obtain ⟨f1, f2, f3, f4, f5⟩ := hf; omega)
    clear h
    go_enter Try.func31, Try.ntmps31
    go_wp2
    go_ret
    exact ⟨_, rfl, by rw [HP.out]; exact Own.nil _ _, (Keeps.refl _ _).alloc _⟩
  have d4 : decide (4294967295 < seq) = false := decide_eq_false g4
  by_cases g5 : 512 < n
  · have d5 : decide (512 < (n : Int)) = true := decide_eq_true (by omega)
    have HP : Hid (putL kind seq zs = []) := if_neg (fun hf => by obtain ⟨f1, f2, f3, f4, f5⟩ := hf; omega)
    clear h
    go_enter Try.func31, Try.ntmps31
    go_wp2
    go_ret
    exact ⟨_, rfl, by rw [HP.out]; exact Own.nil _ _, (Keeps.refl _ _).alloc _⟩
  have d5 : decide (512 < (n : Int)) = false := decide_eq_false (by omega)
  obtain ⟨kd, rfl⟩ : ∃ kd : Nat, kind = kd := ⟨kind.toNat, by omega⟩
  obtain ⟨sq, rfl⟩ : ∃ sq : Nat, seq = sq := ⟨seq.toNat, by omega⟩
  have k1 : kd ≤ 250 := by omega
  have k2 : sq < 4294967296 := by omega
  have k3 : n ≤ 512 := by omega
  have HP : Hid (putL kd sq zs = frontL kd sq zs ++ tailL (frontL kd sq zs)) := if_pos ⟨by omega, by omega, by omega, by omega, by omega⟩
  have HB := Lib.hid h
  have HL := Lib.hid hl
  clear h hl g1 g2 g3 g4 g5
  go_enter Try.func31, Try.ntmps31
  go_wp2
  obtain ⟨wb, hwb⟩ : ∃ x, w.alloc (.cells #[.int .i64 kd, .int .i64 sq, .slice A n cap] 40) = x := ⟨_, rfl⟩
  have BB : Hid (Blk wb w.heap.size [.int .i64 kd, .int .i64 sq, .slice A n cap] 40) := by rw [← hwb]; exact Blk.new w [.int .i64 kd, .int .i64 sq, .slice A n cap] 40
  have KB : Hid (Keeps None w wb) := by rw [← hwb]; exact (Keeps.refl None w).alloc _
  rw [hwb]
  clear hwb
  have FOUR := Lib.hid (fun w => sfour_any sq k2 w)
  have hhd : ∀ z ∈ headL kd sq n, 0 ≤ z ∧ z ≤ 255 := by
    intro z hz
    simp only [headL, List.mem_cons, List.not_mem_nil, or_false] at hz
    rcases hz with rfl | rfl | rfl | rfl <;> omega
  have HHD := Lib.hid hhd
  clear hhd
  obtain ⟨mS, mh⟩ : ∃ S : World → Prop, ∀ w', S w' ↔ (w'.cell? ⟨w.heap.size, 0, none⟩ = some (.int .i64 kd) ∧ w'.cell? ⟨w.heap.size, 1, none⟩ = some (.int .i64 sq) ∧ w'.cell? ⟨w.heap.size, 2, none⟩ = some (.slice A n cap)) := ⟨_, fun _ => Iff.rfl⟩
  have mk0 : ∀ x : Memb mS, x.at_.cell? ⟨w.heap.size, 0, none⟩ = some (.int .i64 kd) := fun x => ((mh _).1 x.is).1
  have mk1 : ∀ x : Memb mS, x.at_.cell? ⟨w.heap.size, 1, none⟩ = some (.int .i64 sq) := fun x => ((mh _).1 x.is).2.1
  have mk2 : ∀ x : Memb mS, x.at_.cell? ⟨w.heap.size, 2, none⟩ = some (.slice A n cap) := fun x => ((mh _).1 x.is).2.2
  have mn : Nonempty (Memb mS) := ⟨⟨(wb).drew, (mh _).2 ⟨BB.out.cellD 0 _ rfl, BB.out.cellD 1 _ rfl, BB.out.cellD 2 _ rfl⟩⟩⟩
  have mH := Lib.hid mh
  clear mh
  refine wp_region_mix_swap [8, 12, 15, 16] (InS mS) 8 9 13 8 12 (by kernel_rfl) (by kernel_rfl) (InS.mk ((mH.out _).2 ⟨BB.out.cellD 0 _ rfl, BB.out.cellD 1 _ rfl, BB.out.cellD 2 _ rfl⟩)) ?_ ?_
  ·
    refine wpMix_seg 8 (by kernel_rfl) (by decide) ?_
    simp only [List.take_succ_cons, List.take_zero, List.drop_succ_cons, List.drop_zero, Nat.reduceSub]
    repeat (go_big_quiet_step (fail))
    refine wpQuiet_nil ?_
    refine wpMix_eff (by kernel_rfl) ?_
    go_wp2
    have X1 : Hid (Keeps None wb (wb.alloc (.cells #[.int .u8 kd, .int .u8 0, .int .u8 ((n : Int) % 256), .int .u8 ((n : Int) / 256)] 5)).drew) := ((Keeps.refl None wb).alloc _).drew
    refine MixK.on (InS.mk ((mH.out _).2 (⟨(X1.out.blk BB.out (fun h => h)).cellD 0 _ rfl, (X1.out.blk BB.out (fun h => h)).cellD 1 _ rfl, (X1.out.blk BB.out (fun h => h)).cellD 2 _ rfl⟩))) ?_
    refine wpMix_seg 3 (by kernel_rfl) (by decide) ?_
    simp only [List.take_succ_cons, List.take_zero, List.drop_succ_cons, List.drop_zero, Nat.reduceSub]
    repeat (go_big_quiet_step (fail))
    refine wpQuiet_nil ?_
    refine wpMix_eff (by kernel_rfl) ?_
    go_wp2_with fail
    refine (FOUR.out _).mono ?_
    rintro e w2 ⟨v2, rfl, o2, kq⟩
    obtain ⟨A2, cap2, rfl, bs2, -⟩ := o2.shape
    have X2 : Hid (Keeps None wb w2) := X1.out.trans kq (fun _ h => h) (fun _ _ h => h)
    have HD2 : Hid (Bs w2 (some ⟨wb.heap.size, 0, none⟩) 4 4 (headL kd sq n)) := (lit_bs wb _ rfl (headL kd sq n) HHD.out (by simp [headL])).drew.keeps kq (fun _ _ _ _ _ h => h)
    have BS2 := Lib.hid bs2
    clear o2 kq bs2
    go_wp2
    refine MixK.on (InS.mk ((mH.out _).2 (⟨(X2.out.blk BB.out (fun h => h)).cellD 0 _ rfl, (X2.out.blk BB.out (fun h => h)).cellD 1 _ rfl, (X2.out.blk BB.out (fun h => h)).cellD 2 _ rfl⟩))) ?_
    refine wpMix_seg 2 (by kernel_rfl) (by decide) ?_
    simp only [List.take_succ_cons, List.take_zero, List.drop_succ_cons, List.drop_zero, Nat.reduceSub]
    repeat (go_big_quiet_step (fail))
    refine wpQuiet_nil ?_
    refine wpMix_eff (by kernel_rfl) ?_
    go_wp2
    have X3 : Hid (Keeps None wb (w2.alloc (.cells #[.slice (some ⟨wb.heap.size, 0, none⟩) 4 4, .slice A2 (le4 sq).length cap2, .slice A n cap] 24))) := X2.out.alloc _
    refine MixK.on (InS.mk ((mH.out _).2 (⟨(X3.out.blk BB.out (fun h => h)).cellD 0 _ rfl, (X3.out.blk BB.out (fun h => h)).cellD 1 _ rfl, (X3.out.blk BB.out (fun h => h)).cellD 2 _ rfl⟩))) ?_
    refine wpMix_eff (by kernel_rfl) ?_
    go_wp2_with fail
    refine (concat_any [⟨some ⟨wb.heap.size, 0, none⟩, 4, 4, headL kd sq n⟩, ⟨A2, (le4 sq).length, cap2, le4 sq⟩, ⟨A, n, cap, zs⟩] 3 w2.heap.size 24 _ (Blk.newAt rfl [_, _, _] _) rfl (all_three (HD2.out.alloc _) (BS2.out.alloc _) ((HB.out.keeps KB.out (fun _ _ _ _ _ h => h)).keeps X3.out (fun _ _ _ _ _ h => h))) (by simp [tot]; omega) (by simp [tot, le4]; omega) (by decide)).mono ?_
    rintro e w5 ⟨v5, rfl, o5, k5⟩
    have X5 : Hid (Keeps None wb w5) := X3.out.trans k5 (fun _ h => h) (fun _ _ h => h)
    have O5 := Lib.hid (show Own w5 w.heap.size v5 (headL kd sq n ++ le4 sq ++ zs) from by have := o5.lower (Nat.le_trans KB.out.size X3.out.size); simpa [cat] using this)
    clear o5 k5 X3 HD2 BS2 X2 X1
    go_wp2
    refine MixK.on (InS.mk ((mH.out _).2 (⟨(X5.out.blk BB.out (fun h => h)).cellD 0 _ rfl, (X5.out.blk BB.out (fun h => h)).cellD 1 _ rfl, (X5.out.blk BB.out (fun h => h)).cellD 2 _ rfl⟩))) ?_
    refine wpMix_seg 1 (by kernel_rfl) (by decide) ?_
    simp only [List.take_succ_cons, List.take_zero, List.drop_succ_cons, List.drop_zero, Nat.reduceSub]
    repeat (go_big_quiet_step (fail))
    refine wpQuiet_nil ?_
    refine wpMix_nil ?_
    clear mk0 mk1 mk2 mn mH
    have KW := Lib.hid (KB.out.trans X5.out (T := None) (fun _ h => h) (fun _ _ h => h))
    have FL : Hid ((headL kd sq n ++ le4 sq ++ zs).length = 8 + n) := by
      show (headL kd sq n ++ le4 sq ++ zs).length = 8 + n
      simp [headL, le4, HL.out]; omega
    have PK : padK n = (8 - n % 8) % 8 := rfl
    have FR : Hid (frontL kd sq zs = headL kd sq n ++ le4 sq ++ zs ++ List.replicate (padK n) 0) := by
      show frontL kd sq zs = _
      unfold frontL; rw [HL.out, Int.toNat_natCast]
    generalize headL kd sq n ++ le4 sq ++ zs = F0 at *
    clear X5 BB FOUR HHD
    go_wp2
    go_loopg [4] (padK n) (fun g ov wr => ∃ q : Nat, q + g = padK n ∧ Own wr w.heap.size ov (F0 ++ List.replicate q 0) ∧ Keeps None w wr)
    case atStart => exact ⟨0, by omega, by simpa using O5.out, KW.out⟩
    case round =>
      obtain ⟨q, hqg, hO, hK⟩ := hrel
      obtain ⟨A6, cap6, rfl, bs6, -⟩ := hO.shape
      have hl6 : (F0 ++ List.replicate q (0 : Int)).length = 8 + n + q := by simp [FL.out]
      rw [hl6]
      have HO := Lib.hid hO
      have HK := Lib.hid hK
      have BS6 := Lib.hid bs6
      rw [hl6] at HO BS6
      clear hO hK bs6 KW O5
      by_cases hlt : q < padK n
      · obtain ⟨G, rfl⟩ : ∃ G, gk = G + 1 := ⟨gk - 1, by omega⟩
        have hmod : ((8 + (n : Int) + q) % 8 != 0) = true := by
          have : ¬ (8 + n + q) % 8 = 0 := by omega
          simp; omega
        go_wp2_with (at_builtin; refine Hid.out ?_)
        refine Lib.hid ?_
        refine wpList_append_bs (HO.out.alloc _) (Bs.oneAt _ _ rfl 0 (by decide)) (by simp [FL.out]; omega) (Nat.le_trans HK.out.size (by simp)) rfl rfl rfl rfl rfl ?_
        intro v' w4 ho4 hk4
        have H4 := Lib.hid (show Own w4 w.heap.size v' (F0 ++ List.replicate (q + 1) 0) from by rw [List.replicate_succ', ← List.append_assoc]; exact ho4)
        have K4 := Lib.hid ((HK.out.alloc (.cells #[.int .u8 0] 5)).trans hk4 (T := None) (fun _ h => h) (fun i hi e => absurd e (HO.out.notBelow hi)))
        clear ho4 hk4 HO HK BS6
        go_wp2
        go_roundg G
        case measure => omega
        case rel => exact ⟨q + 1, by omega, H4.out, K4.out⟩
      · obtain rfl : q = padK n := by omega
        have hmod : ((8 + (n : Int) + (padK n : Nat)) % 8 != 0) = false := by
          have : (8 + n + padK n) % 8 = 0 := by omega
          simp; omega
        rw [← FR.out] at BS6
        have pk8 : padK n < 8 := by omega
        clear PK
        generalize padK n = q at *
        have hS := crcOf_lt (natL_lt BS6.out.byte)
        have HF : Hid (tailL (frontL kd sq zs) = le4 (crcOf (natL (frontL kd sq zs))) ++ le4 (crcOf (natL (frontL kd sq zs)) ^^^ 4294967295)) := rfl
        generalize frontL kd sq zs = F at *
        have SU := Lib.hid (fun w h => ssum_any A6 (8 + n + q) cap6 F w h)
        generalize crcOf (natL F) = S at *
        have hT : S ^^^ 4294967295 < 4294967296 := Nat.xor_lt_two_pow (n := 32) hS (by decide)
        have NT := not32 S hS
        have F1 := Lib.hid (fun w => sfour_any S hS w)
        have F2 := Lib.hid (fun w => sfour_any (S ^^^ 4294967295) hT w)
        generalize S ^^^ 4294967295 = S2 at *
        have HFL := Lib.hid BS6.out.len
        clear HO hS hT HB FL hlt hqg FR
        go_wp2_with fail
        refine (SU.out _ BS6.out).mono ?_
        rintro e w7 ⟨rfl, k7⟩
        have K7 := Lib.hid (HK.out.trans k7 (T := None) (fun _ h => h) (fun _ _ h => h))
        have B7 := Lib.hid (BS6.out.keeps k7 (fun _ _ _ _ _ h => h))
        clear k7 HK BS6 SU
        go_wp2_with fail
        refine (F1.out _).mono ?_
        rintro e w8 ⟨v8, rfl, o8, k8⟩
        obtain ⟨A8, cap8, rfl, bs8, -⟩ := o8.shape
        have K8 := Lib.hid (K7.out.trans k8 (T := None) (fun _ h => h) (fun _ _ h => h))
        have B8 := Lib.hid (B7.out.keeps k8 (fun _ _ _ _ _ h => h))
        have C8 := Lib.hid bs8
        clear k8 o8 bs8 K7 B7 F1
        go_wp2_with fail
        refine (F2.out _).mono ?_
        rintro e w9 ⟨v9, rfl, o9, k9⟩
        obtain ⟨A9, cap9, rfl, bs9, -⟩ := o9.shape
        have K9 := Lib.hid (K8.out.trans k9 (T := None) (fun _ h => h) (fun _ _ h => h))
        have B9 := Lib.hid (B8.out.keeps k9 (fun _ _ _ _ _ h => h))
        have C9 := Lib.hid (C8.out.keeps k9 (fun _ _ _ _ _ h => h))
        have D9 := Lib.hid bs9
        clear k9 o9 bs9 K8 B8 C8 F2 NT
        go_wp2_with fail
        refine (concat_any [⟨A6, 8 + n + q, cap6, F⟩, ⟨A8, (le4 S).length, cap8, le4 S⟩, ⟨A9, (le4 S2).length, cap9, le4 S2⟩] 3 w9.heap.size 24 _ (Blk.newAt rfl [_, _, _] _) rfl (all_three (B9.out.alloc _) (C9.out.alloc _) (D9.out.alloc _)) (by simp [tot]; omega) (by simp [tot, le4]; omega) (by decide)).mono ?_
        rintro e w5 ⟨v5, rfl, o5, k5⟩
        have OF := Lib.hid (show Own w5 w.heap.size v5 (putL kd sq zs) from by
          rw [HP.out, HF.out]
          have := o5.lower (Nat.le_trans K9.out.size (by simp))
          simpa [cat] using this)
        have KF := Lib.hid ((K9.out.alloc (.cells #[.slice A6 (8 + n + q) cap6, .slice A8 (le4 S).length cap8, .slice A9 (le4 S2).length cap9] 24)).trans k5 (T := None) (fun _ h => h) (fun _ _ h => h))
        clear o5 k5 K9 B9 C9 D9
        go_wp2
        go_ret
        exact ⟨_, rfl, OF.out, KF.out⟩
  ·
    try dsimp only
    try simp only [List.take_succ_cons, List.take_zero, List.drop_succ_cons, List.drop_zero, Nat.reduceSub]
    refine wpMix_seg 8 (by kernel_rfl) (by decide) ?_
    simp only [List.take_succ_cons, List.take_zero, List.drop_succ_cons, List.drop_zero, Nat.reduceSub]
    repeat (go_big_quiet_step (fail))
    refine wpQuiet_nil ?_
    refine wpMix_nil ?_
    try dsimp only
    try simp only [List.take_succ_cons, List.take_zero, List.drop_succ_cons, List.drop_zero, Nat.reduceSub]
    refine wpMix_seg 3 (by kernel_rfl) (by decide) ?_
    simp only [List.take_succ_cons, List.take_zero, List.drop_succ_cons, List.drop_zero, Nat.reduceSub]
    repeat (go_big_quiet_step (fail))
    refine wpQuiet_nil ?_
    refine wpMix_eff (by kernel_rfl) ?_
    go_wp2_with fail
    refine (FOUR.out _).mono ?_
    rintro e w2 ⟨v2, rfl, o2, kq⟩
    obtain ⟨A2, cap2, rfl, bs2, -⟩ := o2.shape
    have X2 : Hid (Keeps None wb w2) := (Keeps.refl None wb).drew.trans kq (fun _ h => h) (fun _ _ h => h)
    have BS2 := Lib.hid bs2
    clear o2 kq bs2
    go_wp2
    refine MixK.on (InS.mk ((mH.out _).2 (⟨(X2.out.blk BB.out (fun h => h)).cellD 0 _ rfl, (X2.out.blk BB.out (fun h => h)).cellD 1 _ rfl, (X2.out.blk BB.out (fun h => h)).cellD 2 _ rfl⟩))) ?_
    refine wpMix_nil ?_
    try dsimp only
    try simp only [List.take_succ_cons, List.take_zero, List.drop_succ_cons, List.drop_zero, Nat.reduceSub]
    refine wpMix_eff (by kernel_rfl) ?_
    go_wp2
    have X3 : Hid (Keeps None wb (w2.alloc (.cells #[.int .u8 kd, .int .u8 0, .int .u8 ((n : Int) % 256), .int .u8 ((n : Int) / 256)] 5))) := X2.out.alloc _
    refine MixK.on (InS.mk ((mH.out _).2 (⟨(X3.out.blk BB.out (fun h => h)).cellD 0 _ rfl, (X3.out.blk BB.out (fun h => h)).cellD 1 _ rfl, (X3.out.blk BB.out (fun h => h)).cellD 2 _ rfl⟩))) ?_
    refine wpMix_nil ?_
    try dsimp only
    try simp only [List.take_succ_cons, List.take_zero, List.drop_succ_cons, List.drop_zero, Nat.reduceSub]
    refine wpMix_seg 2 (by kernel_rfl) (by decide) ?_
    simp only [List.take_succ_cons, List.take_zero, List.drop_succ_cons, List.drop_zero, Nat.reduceSub]
    repeat (go_big_quiet_step (fail))
    refine wpQuiet_nil ?_
    refine wpMix_eff (by kernel_rfl) ?_
    go_wp2
    have X4 : Hid (Keeps None wb ((w2.alloc (.cells #[.int .u8 kd, .int .u8 0, .int .u8 ((n : Int) % 256), .int .u8 ((n : Int) / 256)] 5)).alloc (.cells #[.slice (some ⟨w2.heap.size, 0, none⟩) 4 4, .slice A2 (le4 sq).length cap2, .slice A n cap] 24))) := X3.out.alloc _
    refine MixK.on (InS.mk ((mH.out _).2 (⟨(X4.out.blk BB.out (fun h => h)).cellD 0 _ rfl, (X4.out.blk BB.out (fun h => h)).cellD 1 _ rfl, (X4.out.blk BB.out (fun h => h)).cellD 2 _ rfl⟩))) ?_
    refine wpMix_eff (by kernel_rfl) ?_
    go_wp2_with fail
    refine (concat_any [⟨some ⟨w2.heap.size, 0, none⟩, 4, 4, headL kd sq n⟩, ⟨A2, (le4 sq).length, cap2, le4 sq⟩, ⟨A, n, cap, zs⟩] 3 (w2.heap.size + 1) 24 _ (Blk.newAt (by simp) [_, _, _] _) rfl (all_three ((lit_bs w2 _ rfl (headL kd sq n) HHD.out (by simp [headL])).alloc _) ((BS2.out.alloc _).alloc _) ((HB.out.keeps KB.out (fun _ _ _ _ _ h => h)).keeps X4.out (fun _ _ _ _ _ h => h))) (by simp [tot]; omega) (by simp [tot, le4]; omega) (by decide)).mono ?_
    rintro e w5 ⟨v5, rfl, o5, k5⟩
    have X5 : Hid (Keeps None wb w5) := X4.out.trans k5 (fun _ h => h) (fun _ _ h => h)
    have O5 := Lib.hid (show Own w5 w.heap.size v5 (headL kd sq n ++ le4 sq ++ zs) from by have := o5.lower (Nat.le_trans KB.out.size X4.out.size); simpa [cat] using this)
    clear o5 k5 X4 X3 BS2 X2
    go_wp2
    refine MixK.on (InS.mk ((mH.out _).2 (⟨(X5.out.blk BB.out (fun h => h)).cellD 0 _ rfl, (X5.out.blk BB.out (fun h => h)).cellD 1 _ rfl, (X5.out.blk BB.out (fun h => h)).cellD 2 _ rfl⟩))) ?_
    refine wpMix_seg 1 (by kernel_rfl) (by decide) ?_
    simp only [List.take_succ_cons, List.take_zero, List.drop_succ_cons, List.drop_zero, Nat.reduceSub]
    repeat (go_big_quiet_step (fail))
    refine wpQuiet_nil ?_
    refine wpMix_nil ?_
    clear mk0 mk1 mk2 mn mH
    have KW := Lib.hid (KB.out.trans X5.out (T := None) (fun _ h => h) (fun _ _ h => h))
    have FL : Hid ((headL kd sq n ++ le4 sq ++ zs).length = 8 + n) := by
      show (headL kd sq n ++ le4 sq ++ zs).length = 8 + n
      simp [headL, le4, HL.out]; omega
    have PK : padK n = (8 - n % 8) % 8 := rfl
    have FR : Hid (frontL kd sq zs = headL kd sq n ++ le4 sq ++ zs ++ List.replicate (padK n) 0) := by
      show frontL kd sq zs = _
      unfold frontL; rw [HL.out, Int.toNat_natCast]
    generalize headL kd sq n ++ le4 sq ++ zs = F0 at *
    clear X5 BB FOUR HHD
    go_wp2
    go_loopg [4] (padK n) (fun g ov wr => ∃ q : Nat, q + g = padK n ∧ Own wr w.heap.size ov (F0 ++ List.replicate q 0) ∧ Keeps None w wr)
    case atStart => exact ⟨0, by omega, by simpa using O5.out, KW.out⟩
    case round =>
      obtain ⟨q, hqg, hO, hK⟩ := hrel
      obtain ⟨A6, cap6, rfl, bs6, -⟩ := hO.shape
      have hl6 : (F0 ++ List.replicate q (0 : Int)).length = 8 + n + q := by simp [FL.out]
      rw [hl6]
      have HO := Lib.hid hO
      have HK := Lib.hid hK
      have BS6 := Lib.hid bs6
      rw [hl6] at HO BS6
      clear hO hK bs6 KW O5
      by_cases hlt : q < padK n
      · obtain ⟨G, rfl⟩ : ∃ G, gk = G + 1 := ⟨gk - 1, by omega⟩
        have hmod : ((8 + (n : Int) + q) % 8 != 0) = true := by
          have : ¬ (8 + n + q) % 8 = 0 := by omega
          simp; omega
        go_wp2_with (at_builtin; refine Hid.out ?_)
        refine Lib.hid ?_
        refine wpList_append_bs (HO.out.alloc _) (Bs.oneAt _ _ rfl 0 (by decide)) (by simp [FL.out]; omega) (Nat.le_trans HK.out.size (by simp)) rfl rfl rfl rfl rfl ?_
        intro v' w4 ho4 hk4
        have H4 := Lib.hid (show Own w4 w.heap.size v' (F0 ++ List.replicate (q + 1) 0) from by rw [List.replicate_succ', ← List.append_assoc]; exact ho4)
        have K4 := Lib.hid ((HK.out.alloc (.cells #[.int .u8 0] 5)).trans hk4 (T := None) (fun _ h => h) (fun i hi e => absurd e (HO.out.notBelow hi)))
        clear ho4 hk4 HO HK BS6
        go_wp2
        go_roundg G
        case measure => omega
        case rel => exact ⟨q + 1, by omega, H4.out, K4.out⟩
      · obtain rfl : q = padK n := by omega
        have hmod : ((8 + (n : Int) + (padK n : Nat)) % 8 != 0) = false := by
          have : (8 + n + padK n) % 8 = 0 := by omega
          simp; omega
        rw [← FR.out] at BS6
        have pk8 : padK n < 8 := by omega
        clear PK
        generalize padK n = q at *
        have hS := crcOf_lt (natL_lt BS6.out.byte)
        have HF : Hid (tailL (frontL kd sq zs) = le4 (crcOf (natL (frontL kd sq zs))) ++ le4 (crcOf (natL (frontL kd sq zs)) ^^^ 4294967295)) := rfl
        generalize frontL kd sq zs = F at *
        have SU := Lib.hid (fun w h => ssum_any A6 (8 + n + q) cap6 F w h)
        generalize crcOf (natL F) = S at *
        have hT : S ^^^ 4294967295 < 4294967296 := Nat.xor_lt_two_pow (n := 32) hS (by decide)
        have NT := not32 S hS
        have F1 := Lib.hid (fun w => sfour_any S hS w)
        have F2 := Lib.hid (fun w => sfour_any (S ^^^ 4294967295) hT w)
        generalize S ^^^ 4294967295 = S2 at *
        have HFL := Lib.hid BS6.out.len
        clear HO hS hT HB FL hlt hqg FR
        go_wp2_with fail
        refine (SU.out _ BS6.out).mono ?_
        rintro e w7 ⟨rfl, k7⟩
        have K7 := Lib.hid (HK.out.trans k7 (T := None) (fun _ h => h) (fun _ _ h => h))
        have B7 := Lib.hid (BS6.out.keeps k7 (fun _ _ _ _ _ h => h))
        clear k7 HK BS6 SU
        go_wp2_with fail
        refine (F1.out _).mono ?_
        rintro e w8 ⟨v8, rfl, o8, k8⟩
        obtain ⟨A8, cap8, rfl, bs8, -⟩ := o8.shape
        have K8 := Lib.hid (K7.out.trans k8 (T := None) (fun _ h => h) (fun _ _ h => h))
        have B8 := Lib.hid (B7.out.keeps k8 (fun _ _ _ _ _ h => h))
        have C8 := Lib.hid bs8
        clear k8 o8 bs8 K7 B7 F1
        go_wp2_with fail
        refine (F2.out _).mono ?_
        rintro e w9 ⟨v9, rfl, o9, k9⟩
        obtain ⟨A9, cap9, rfl, bs9, -⟩ := o9.shape
        have K9 := Lib.hid (K8.out.trans k9 (T := None) (fun _ h => h) (fun _ _ h => h))
        have B9 := Lib.hid (B8.out.keeps k9 (fun _ _ _ _ _ h => h))
        have C9 := Lib.hid (C8.out.keeps k9 (fun _ _ _ _ _ h => h))
        have D9 := Lib.hid bs9
        clear k9 o9 bs9 K8 B8 C8 F2 NT
        go_wp2_with fail
        refine (concat_any [⟨A6, 8 + n + q, cap6, F⟩, ⟨A8, (le4 S).length, cap8, le4 S⟩, ⟨A9, (le4 S2).length, cap9, le4 S2⟩] 3 w9.heap.size 24 _ (Blk.newAt rfl [_, _, _] _) rfl (all_three (B9.out.alloc _) (C9.out.alloc _) (D9.out.alloc _)) (by simp [tot]; omega) (by simp [tot, le4]; omega) (by decide)).mono ?_
        rintro e w5 ⟨v5, rfl, o5, k5⟩
        have OF := Lib.hid (show Own w5 w.heap.size v5 (putL kd sq zs) from by
          rw [HP.out, HF.out]
          have := o5.lower (Nat.le_trans K9.out.size (by simp))
          simpa [cat] using this)
        have KF := Lib.hid ((K9.out.alloc (.cells #[.slice A6 (8 + n + q) cap6, .slice A8 (le4 S).length cap8, .slice A9 (le4 S2).length cap9] 24)).trans k5 (T := None) (fun _ h => h) (fun _ _ h => h))
        clear o5 k5 K9 B9 C9 D9
        go_wp2
        go_ret
        exact ⟨_, rfl, OF.out, KF.out⟩
end Go.Proofs.Ytgehkioneelgcaa
