
/- Texts put together: SealPut3, Bits2, SealGet, SealGet2, SealAl, Init, SealRec, SR, Nor, Nor2, NorOrder, NorTwice, BytesC, Fl, NorRef. -/
import Derived.Test.YtobgbilanibodaaGreatLPla
import Derived.Deep.LoopGhost
import Derived.Laws.BitsAllLaws
import Derived.Lib.Strings
import Derived.Test.YtobgbilanibodaaGreatRows
import Derived.ProofKit
import Derived.Deep.Strs
import Derived.Lib.Hide
import Derived.Laws.CopyOwn
namespace Go.Proofs.YtobgbilanibodaaGreat
open Go.RowKit
theorem all_three {w : World} {a b c : Part} (ha : Bs w a.A a.n a.cap a.zs) (hb : Bs w b.A b.n b.cap b.zs) (hc : Bs w c.A c.n c.cap c.zs) : ∀ p ∈ [a, b, c], Bs w p.A p.n p.cap p.zs := by
 intro p hp
 simp only [List.mem_cons, List.not_mem_nil, or_false] at hp
 rcases hp with rfl | rfl | rfl
 ·exact ha
 ·exact hb
 ·exact hc
theorem own_bs {w : World} {X : Nat} {A : Option Addr} {n cap : Nat} {l : List Int} (h : Own w X (.slice A n cap) l) : Bs w A n cap l := by
 obtain ⟨A', cap', e, hb, -⟩ := h.shape
 cases e
 exact hb
theorem Blk.newAt {X : World} {b : Nat} (h : X.heap.size = b) (c : List Value) (T : TypeId) : Blk (X.alloc (.cells c.toArray T)) b c T := by
 subst h; exact Blk.new _ _ _
theorem lit_bs (w : World) (b : Nat) (hb : b = w.heap.size) (zs : List Int) (hz : ∀ z ∈ zs, 0 ≤ z ∧ z ≤ 255) (hl : zs.length ≤ 1000000) : Bs (w.alloc (.cells (zs.map (Value.int .u8)).toArray 5)) (some ⟨b, 0, none⟩) zs.length zs.length zs := by
 subst hb; exact own_bs (Own.lit w zs hz hl)
theorem tl40 (P : Prop) (h : P := by
 go_enter Tryz.func80, Tryz.ntmps80
 go_wp2
 go_ret
 exact ⟨_, rfl, by rw [HP.out]; exact Own.nil _ _, (Keeps.refl _ _).alloc _⟩) : P := h
theorem tl39 (P : Prop) (h : P := by
 have HP : Hid (putL kind seq zs = []) := if_neg (fun hf => by obtain ⟨f1, f2, f3, f4, f5⟩ := hf; omega)
 clear h
 exact tl40 _) : P := h
theorem tl43 (P : Prop) (h : P := by
 obtain ⟨G, rfl⟩ : ∃ G, gk = G + 1 := ⟨gk - 1, by omega⟩
 have hmod : ((8 + (n : Int) + q) % 8 != 0) = true := by
  have : ¬ (8 + n + q) % 8 = 0 := by omega
  simp; omega
 go_wp2_with (at_builtin; refine Hid.out ?_)
 refine Lib.hid ?_
 refine wpList_append_bs (HO.out.alloc _) (Bs.oneAt _ _ rfl 0 (by decide)) (by simp [FL.out]; omega) (Nat.le_trans HK.out.size (by simp)) rfl rfl rfl rfl rfl ?_
 intro v' w4 ho4 hk4
 have H4 := Lib.hid (show Own w4 w.heap.size v' (F0 ++ List.replicate (q + 1) 0) from by rw [List.replicate_succ', ← List.append_assoc]; exact ho4)
 have K4 := Lib.hid ((HK.out.alloc (.cells #[.int .u8 0] 5)).trans hk4 (T := None) (fun _ h => h) (fun i hi e => absurd e (HO.out.notBelow hi)))
 clear ho4 hk4 HO HK BS6
 go_wp2
 go_roundg G
 case measure => omega
 case rel => exact ⟨q + 1, by omega, H4.out, K4.out⟩) : P := h
set_option maxRecDepth 100000 in
theorem tl44 (P : Prop) (h : P := by
 obtain rfl : q = padK n := by omega
 have hmod : ((8 + (n : Int) + (padK n : Nat)) % 8 != 0) = false := by
  have : (8 + n + padK n) % 8 = 0 := by omega
  simp; omega
 rw [← FR.out] at BS6
 have pk8 : padK n < 8 := by omega
 clear PK
 generalize padK n = q at *
 have hS := crcOf_lt (natL_lt BS6.out.byte)
 have HF : Hid (tailL (frontL kd sq zs) = le4 (crcOf (natL (frontL kd sq zs))) ++ le4 (crcOf (natL (frontL kd sq zs)) ^^^ 4294967295)) := rfl
 generalize frontL kd sq zs = F at *
 have SU := Lib.hid (fun w h => ssum_any A6 (8 + n + q) cap6 F w h)
 generalize crcOf (natL F) = S at *
 have hT : S ^^^ 4294967295 < 4294967296 := Nat.xor_lt_two_pow (n := 32) hS (by decide)
 have NT := not32 S hS
 have F1 := Lib.hid (fun w => sfour_any S hS w)
 have F2 := Lib.hid (fun w => sfour_any (S ^^^ 4294967295) hT w)
 generalize S ^^^ 4294967295 = S2 at *
 have HFL := Lib.hid BS6.out.len
 clear HO hS hT HB FL hlt hqg FR
 go_wp2_with fail
 refine (SU.out _ BS6.out).mono ?_
 rintro e w7 ⟨rfl, k7⟩
 have K7 := Lib.hid (HK.out.trans k7 (T := None) (fun _ h => h) (fun _ _ h => h))
 have B7 := Lib.hid (BS6.out.keeps k7 (fun _ _ _ _ _ h => h))
 clear k7 HK BS6 SU
 go_wp2_with fail
 refine (F1.out _).mono ?_
 rintro e w8 ⟨v8, rfl, o8, k8⟩
 obtain ⟨A8, cap8, rfl, bs8, -⟩ := o8.shape
 have K8 := Lib.hid (K7.out.trans k8 (T := None) (fun _ h => h) (fun _ _ h => h))
 have B8 := Lib.hid (B7.out.keeps k8 (fun _ _ _ _ _ h => h))
 have C8 := Lib.hid bs8
 clear k8 o8 bs8 K7 B7 F1
 go_wp2_with fail
 refine (F2.out _).mono ?_
 rintro e w9 ⟨v9, rfl, o9, k9⟩
 obtain ⟨A9, cap9, rfl, bs9, -⟩ := o9.shape
 have K9 := Lib.hid (K8.out.trans k9 (T := None) (fun _ h => h) (fun _ _ h => h))
 have B9 := Lib.hid (B8.out.keeps k9 (fun _ _ _ _ _ h => h))
 have C9 := Lib.hid (C8.out.keeps k9 (fun _ _ _ _ _ h => h))
 have D9 := Lib.hid bs9
 clear k9 o9 bs9 K8 B8 C8 F2 NT
 go_wp2_with fail
 refine (concat_any [⟨A6, 8 + n + q, cap6, F⟩, ⟨A8, (le4 S).length, cap8, le4 S⟩, ⟨A9, (le4 S2).length, cap9, le4 S2⟩] 3 w9.heap.size 37 _ (Blk.newAt rfl [_, _, _] _) rfl (all_three (B9.out.alloc _) (C9.out.alloc _) (D9.out.alloc _)) (by simp [tot]; omega) (by simp [tot, le4]; omega) (by decide)).mono ?_
 rintro e w5 ⟨v5, rfl, o5, k5⟩
 have OF := Lib.hid (show Own w5 w.heap.size v5 (putL kd sq zs) from by
  rw [HP.out, HF.out]
  have := o5.lower (Nat.le_trans K9.out.size (by simp))
  simpa [cat] using this)
 have KF := Lib.hid ((K9.out.alloc (.cells #[.slice A6 (8 + n + q) cap6, .slice A8 (le4 S).length cap8, .slice A9 (le4 S2).length cap9] 37)).trans k5 (T := None) (fun _ h => h) (fun _ _ h => h))
 clear o5 k5 K9 B9 C9 D9
 go_wp2
 go_ret
 exact ⟨_, rfl, OF.out, KF.out⟩) : P := h
theorem tl42 (P : Prop) (h : P := by
 obtain ⟨q, hqg, hO, hK⟩ := hrel
 obtain ⟨A6, cap6, rfl, bs6, -⟩ := hO.shape
 have hl6 : (F0 ++ List.replicate q (0 : Int)).length = 8 + n + q := by simp [FL.out]
 rw [hl6]
 have HO := Lib.hid hO
 have HK := Lib.hid hK
 have BS6 := Lib.hid bs6
 rw [hl6] at HO BS6
 clear hO hK bs6 KW O5
 by_cases hlt : q < padK n
 ·exact tl43 _
 ·exact tl44 _) : P := h
theorem tl41 (P : Prop) (h : P := by
 go_wp2
 refine MixK.on (InS.mk ((mH.out _).2 (⟨(X5.out.blk BB.out (fun h => h)).cellD 0 _ rfl, (X5.out.blk BB.out (fun h => h)).cellD 1 _ rfl, (X5.out.blk BB.out (fun h => h)).cellD 2 _ rfl⟩))) ?_
 refine wpMix_seg 1 (by kernel_rfl) (by decide) ?_
 simp only [tds, Nat.reduceSub]
 repeat (go_big_quiet_step (fail))
 refine wpQuiet_nil ?_
 refine wpMix_nil ?_
 clear mk0 mk1 mk2 mn mH
 have KW := Lib.hid (KB.out.trans X5.out (T := None) (fun _ h => h) (fun _ _ h => h))
 have FL : Hid ((headL kd sq n ++ le4 sq ++ zs).length = 8 + n) := by
  show (headL kd sq n ++ le4 sq ++ zs).length = 8 + n
  simp [headL, le4, HL.out]; omega
 have PK : padK n = (8 - n % 8) % 8 := rfl
 have FR : Hid (frontL kd sq zs = headL kd sq n ++ le4 sq ++ zs ++ List.replicate (padK n) 0) := by
  show frontL kd sq zs = _
  unfold frontL; rw [HL.out, Int.toNat_natCast]
 generalize headL kd sq n ++ le4 sq ++ zs = F0 at *
 clear X5 BB FOUR HHD
 go_wp2
 go_loopg [4] (padK n) (fun g ov wr => ∃ q : Nat, q + g = padK n ∧ Own wr w.heap.size ov (F0 ++ List.replicate q 0) ∧ Keeps None w wr)
 case atStart => exact ⟨0, by omega, by simpa using O5.out, KW.out⟩
 case round =>
  exact tl42 _) : P := h
set_option maxRecDepth 100000 in
set_option maxHeartbeats 3200000 in
theorem sput_any (kind seq : Int) (A : Option Addr) (n cap : Nat) (zs : List Int) (w : World) (h : Bs w A n cap zs) (hmx : n ≤ 1000000) :
    Calls Tryz.prog 80 #[.agg #[.int .i64 kind, .int .i64 seq, .slice A n cap]] w fun e w' => ∃ v, e = .returned v ∧ Own w' w.heap.size v (putL kind seq zs) ∧ Keeps None w w' := by
 have hl := h.len
 by_cases g1 : kind < 1
 ·have d1 : decide (kind < 1) = true := decide_eq_true g1
  exact tl39 _
 have d1 : decide (kind < 1) = false := decide_eq_false g1
 by_cases g2 : 250 < kind
 ·have d2 : decide (250 < kind) = true := decide_eq_true g2
  exact tl39 _
 have d2 : decide (250 < kind) = false := decide_eq_false g2
 by_cases g3 : seq < 0
 ·have d3 : decide (seq < 0) = true := decide_eq_true g3
  exact tl39 _
 have d3 : decide (seq < 0) = false := decide_eq_false g3
 by_cases g4 : 4294967295 < seq
 ·have d4 : decide (4294967295 < seq) = true := decide_eq_true g4
  exact tl39 _
 have d4 : decide (4294967295 < seq) = false := decide_eq_false g4
 by_cases g5 : 512 < n
 ·have d5 : decide (512 < (n : Int)) = true := decide_eq_true (by omega)
  exact tl39 _
 have d5 : decide (512 < (n : Int)) = false := decide_eq_false (by omega)
 obtain ⟨kd, rfl⟩ : ∃ kd : Nat, kind = kd := ⟨kind.toNat, by omega⟩
 obtain ⟨sq, rfl⟩ : ∃ sq : Nat, seq = sq := ⟨seq.toNat, by omega⟩
 have k1 : kd ≤ 250 := by omega
 have k2 : sq < 4294967296 := by omega
 have k3 : n ≤ 512 := by omega
 have HP : Hid (putL kd sq zs = frontL kd sq zs ++ tailL (frontL kd sq zs)) := if_pos ⟨by omega, by omega, by omega, by omega, by omega⟩
 have HB := Lib.hid h
 have HL := Lib.hid hl
 clear h hl g1 g2 g3 g4 g5
 go_enter Tryz.func80, Tryz.ntmps80
 go_wp2
 obtain ⟨wb, hwb⟩ : ∃ x, w.alloc (.cells #[.int .i64 kd, .int .i64 sq, .slice A n cap] 95) = x := ⟨_, rfl⟩
 have BB : Hid (Blk wb w.heap.size [.int .i64 kd, .int .i64 sq, .slice A n cap] 95) := by rw [← hwb]; exact Blk.new w [.int .i64 kd, .int .i64 sq, .slice A n cap] 95
 have KB : Hid (Keeps None w wb) := by rw [← hwb]; exact (Keeps.refl None w).alloc _
 rw [hwb]
 clear hwb
 have FOUR := Lib.hid (fun w => sfour_any sq k2 w)
 have hhd : ∀ z ∈ headL kd sq n, 0 ≤ z ∧ z ≤ 255 := by
  intro z hz
  simp only [headL, List.mem_cons, List.not_mem_nil, or_false] at hz
  rcases hz with rfl | rfl | rfl | rfl <;> omega
 have HHD := Lib.hid hhd
 clear hhd
 obtain ⟨mS, mh⟩ : ∃ S : World → Prop, ∀ w', S w' ↔ (w'.cell? ⟨w.heap.size, 0, none⟩ = some (.int .i64 kd) ∧ w'.cell? ⟨w.heap.size, 1, none⟩ = some (.int .i64 sq) ∧ w'.cell? ⟨w.heap.size, 2, none⟩ = some (.slice A n cap)) := ⟨_, fun _ => Iff.rfl⟩
 have mk0 : ∀ x : Memb mS, x.at_.cell? ⟨w.heap.size, 0, none⟩ = some (.int .i64 kd) := fun x => ((mh _).1 x.is).1
 have mk1 : ∀ x : Memb mS, x.at_.cell? ⟨w.heap.size, 1, none⟩ = some (.int .i64 sq) := fun x => ((mh _).1 x.is).2.1
 have mk2 : ∀ x : Memb mS, x.at_.cell? ⟨w.heap.size, 2, none⟩ = some (.slice A n cap) := fun x => ((mh _).1 x.is).2.2
 have mn : Nonempty (Memb mS) := ⟨⟨(wb).drew, (mh _).2 ⟨BB.out.cellD 0 _ rfl, BB.out.cellD 1 _ rfl, BB.out.cellD 2 _ rfl⟩⟩⟩
 have mH := Lib.hid mh
 clear mh
 refine wp_region_mix_swap [8, 12, 15, 16] (InS mS) 8 9 13 8 12 (by kernel_rfl) (by kernel_rfl) (InS.mk ((mH.out _).2 ⟨BB.out.cellD 0 _ rfl, BB.out.cellD 1 _ rfl, BB.out.cellD 2 _ rfl⟩)) ?_ ?_
 ·
  refine wpMix_seg 8 (by kernel_rfl) (by decide) ?_
  simp only [tds, Nat.reduceSub]
  repeat (go_big_quiet_step (fail))
  refine wpQuiet_nil ?_
  refine wpMix_eff (by kernel_rfl) ?_
  go_wp2
  have X1 : Hid (Keeps None wb (wb.alloc (.cells #[.int .u8 kd, .int .u8 0, .int .u8 ((n : Int) % 256), .int .u8 ((n : Int) / 256)] 5)).drew) := ((Keeps.refl None wb).alloc _).drew
  refine MixK.on (InS.mk ((mH.out _).2 (⟨(X1.out.blk BB.out (fun h => h)).cellD 0 _ rfl, (X1.out.blk BB.out (fun h => h)).cellD 1 _ rfl, (X1.out.blk BB.out (fun h => h)).cellD 2 _ rfl⟩))) ?_
  refine wpMix_seg 3 (by kernel_rfl) (by decide) ?_
  simp only [tds, Nat.reduceSub]
  repeat (go_big_quiet_step (fail))
  refine wpQuiet_nil ?_
  refine wpMix_eff (by kernel_rfl) ?_
  go_wp2_with fail
  refine (FOUR.out _).mono ?_
  rintro e w2 ⟨v2, rfl, o2, kq⟩
  obtain ⟨A2, cap2, rfl, bs2, -⟩ := o2.shape
  have X2 : Hid (Keeps None wb w2) := X1.out.trans kq (fun _ h => h) (fun _ _ h => h)
  have HD2 : Hid (Bs w2 (some ⟨wb.heap.size, 0, none⟩) 4 4 (headL kd sq n)) := (lit_bs wb _ rfl (headL kd sq n) HHD.out (by simp [headL])).drew.keeps kq (fun _ _ _ _ _ h => h)
  have BS2 := Lib.hid bs2
  clear o2 kq bs2
  go_wp2
  refine MixK.on (InS.mk ((mH.out _).2 (⟨(X2.out.blk BB.out (fun h => h)).cellD 0 _ rfl, (X2.out.blk BB.out (fun h => h)).cellD 1 _ rfl, (X2.out.blk BB.out (fun h => h)).cellD 2 _ rfl⟩))) ?_
  refine wpMix_seg 2 (by kernel_rfl) (by decide) ?_
  simp only [tds, Nat.reduceSub]
  repeat (go_big_quiet_step (fail))
  refine wpQuiet_nil ?_
  refine wpMix_eff (by kernel_rfl) ?_
  go_wp2
  have X3 : Hid (Keeps None wb (w2.alloc (.cells #[.slice (some ⟨wb.heap.size, 0, none⟩) 4 4, .slice A2 (le4 sq).length cap2, .slice A n cap] 37))) := X2.out.alloc _
  refine MixK.on (InS.mk ((mH.out _).2 (⟨(X3.out.blk BB.out (fun h => h)).cellD 0 _ rfl, (X3.out.blk BB.out (fun h => h)).cellD 1 _ rfl, (X3.out.blk BB.out (fun h => h)).cellD 2 _ rfl⟩))) ?_
  refine wpMix_eff (by kernel_rfl) ?_
  go_wp2_with fail
  refine (concat_any [⟨some ⟨wb.heap.size, 0, none⟩, 4, 4, headL kd sq n⟩, ⟨A2, (le4 sq).length, cap2, le4 sq⟩, ⟨A, n, cap, zs⟩] 3 w2.heap.size 37 _ (Blk.newAt rfl [_, _, _] _) rfl (all_three (HD2.out.alloc _) (BS2.out.alloc _) ((HB.out.keeps KB.out (fun _ _ _ _ _ h => h)).keeps X3.out (fun _ _ _ _ _ h => h))) (by simp [tot]; omega) (by simp [tot, le4]; omega) (by decide)).mono ?_
  rintro e w5 ⟨v5, rfl, o5, k5⟩
  have X5 : Hid (Keeps None wb w5) := X3.out.trans k5 (fun _ h => h) (fun _ _ h => h)
  have O5 := Lib.hid (show Own w5 w.heap.size v5 (headL kd sq n ++ le4 sq ++ zs) from by have := o5.lower (Nat.le_trans KB.out.size X3.out.size); simpa [cat] using this)
  clear o5 k5 X3 HD2 BS2 X2 X1
  exact tl41 _
 ·
  try dsimp only
  try simp only [tds, Nat.reduceSub]
  refine wpMix_seg 8 (by kernel_rfl) (by decide) ?_
  simp only [tds, Nat.reduceSub]
  repeat (go_big_quiet_step (fail))
  refine wpQuiet_nil ?_
  refine wpMix_nil ?_
  try dsimp only
  try simp only [tds, Nat.reduceSub]
  refine wpMix_seg 3 (by kernel_rfl) (by decide) ?_
  simp only [tds, Nat.reduceSub]
  repeat (go_big_quiet_step (fail))
  refine wpQuiet_nil ?_
  refine wpMix_eff (by kernel_rfl) ?_
  go_wp2_with fail
  refine (FOUR.out _).mono ?_
  rintro e w2 ⟨v2, rfl, o2, kq⟩
  obtain ⟨A2, cap2, rfl, bs2, -⟩ := o2.shape
  have X2 : Hid (Keeps None wb w2) := (Keeps.refl None wb).drew.trans kq (fun _ h => h) (fun _ _ h => h)
  have BS2 := Lib.hid bs2
  clear o2 kq bs2
  go_wp2
  refine MixK.on (InS.mk ((mH.out _).2 (⟨(X2.out.blk BB.out (fun h => h)).cellD 0 _ rfl, (X2.out.blk BB.out (fun h => h)).cellD 1 _ rfl, (X2.out.blk BB.out (fun h => h)).cellD 2 _ rfl⟩))) ?_
  refine wpMix_nil ?_
  try dsimp only
  try simp only [tds, Nat.reduceSub]
  refine wpMix_eff (by kernel_rfl) ?_
  go_wp2
  have X3 : Hid (Keeps None wb (w2.alloc (.cells #[.int .u8 kd, .int .u8 0, .int .u8 ((n : Int) % 256), .int .u8 ((n : Int) / 256)] 5))) := X2.out.alloc _
  refine MixK.on (InS.mk ((mH.out _).2 (⟨(X3.out.blk BB.out (fun h => h)).cellD 0 _ rfl, (X3.out.blk BB.out (fun h => h)).cellD 1 _ rfl, (X3.out.blk BB.out (fun h => h)).cellD 2 _ rfl⟩))) ?_
  refine wpMix_nil ?_
  try dsimp only
  try simp only [tds, Nat.reduceSub]
  refine wpMix_seg 2 (by kernel_rfl) (by decide) ?_
  simp only [tds, Nat.reduceSub]
  repeat (go_big_quiet_step (fail))
  refine wpQuiet_nil ?_
  refine wpMix_eff (by kernel_rfl) ?_
  go_wp2
  have X4 : Hid (Keeps None wb ((w2.alloc (.cells #[.int .u8 kd, .int .u8 0, .int .u8 ((n : Int) % 256), .int .u8 ((n : Int) / 256)] 5)).alloc (.cells #[.slice (some ⟨w2.heap.size, 0, none⟩) 4 4, .slice A2 (le4 sq).length cap2, .slice A n cap] 37))) := X3.out.alloc _
  refine MixK.on (InS.mk ((mH.out _).2 (⟨(X4.out.blk BB.out (fun h => h)).cellD 0 _ rfl, (X4.out.blk BB.out (fun h => h)).cellD 1 _ rfl, (X4.out.blk BB.out (fun h => h)).cellD 2 _ rfl⟩))) ?_
  refine wpMix_eff (by kernel_rfl) ?_
  go_wp2_with fail
  refine (concat_any [⟨some ⟨w2.heap.size, 0, none⟩, 4, 4, headL kd sq n⟩, ⟨A2, (le4 sq).length, cap2, le4 sq⟩, ⟨A, n, cap, zs⟩] 3 (w2.heap.size + 1) 37 _ (Blk.newAt (by simp) [_, _, _] _) rfl (all_three ((lit_bs w2 _ rfl (headL kd sq n) HHD.out (by simp [headL])).alloc _) ((BS2.out.alloc _).alloc _) ((HB.out.keeps KB.out (fun _ _ _ _ _ h => h)).keeps X4.out (fun _ _ _ _ _ h => h))) (by simp [tot]; omega) (by simp [tot, le4]; omega) (by decide)).mono ?_
  rintro e w5 ⟨v5, rfl, o5, k5⟩
  have X5 : Hid (Keeps None wb w5) := X4.out.trans k5 (fun _ h => h) (fun _ _ h => h)
  have O5 := Lib.hid (show Own w5 w.heap.size v5 (headL kd sq n ++ le4 sq ++ zs) from by have := o5.lower (Nat.le_trans KB.out.size X4.out.size); simpa [cat] using this)
  clear o5 k5 X4 X3 BS2 X2
  exact tl41 _
theorem ofInt_i64 (a : Nat) (ha : a < 9223372036854775808) : (BitVec.ofInt 64 (a : Int)).toNat = a := by
 rw [BitVec.ofInt_natCast, BitVec.toNat_ofNat]; exact Nat.mod_eq_of_lt (by omega)
theorem wrap_nat (x : Nat) (h : x < 9223372036854775808) : IntKind.i64.wrap (x : Int) = x := by
 simp [IntKind.wrap, IntKind.bits, IntKind.signed]; omega
theorem i64_and_nat (a b : Nat) (ha : a < 9223372036854775808) (hb : b < 9223372036854775808) : bits .and .i64 (a : Int) (b : Int) = ((a &&& b : Nat) : Int) := by
 have hx : a &&& b < 2 ^ 63 := Nat.and_lt_two_pow _ (by omega)
 show IntKind.i64.wrap ((BitVec.ofInt 64 (a : Int) &&& BitVec.ofInt 64 (b : Int)).toNat : Int) = _
 rw [BitVec.toNat_and, ofInt_i64 a ha, ofInt_i64 b hb]
 exact wrap_nat _ (by omega)
theorem i64_or_nat (a b : Nat) (ha : a < 9223372036854775808) (hb : b < 9223372036854775808) : bits .or .i64 (a : Int) (b : Int) = ((a ||| b : Nat) : Int) := by
 have hx : a ||| b < 2 ^ 63 := Nat.or_lt_two_pow (by omega) (by omega)
 show IntKind.i64.wrap ((BitVec.ofInt 64 (a : Int) ||| BitVec.ofInt 64 (b : Int)).toNat : Int) = _
 rw [BitVec.toNat_or, ofInt_i64 a ha, ofInt_i64 b hb]
 exact wrap_nat _ (by omega)
theorem i64_and_one (a : Nat) (ha : a < 9223372036854775808) : bits .and .i64 (a : Int) 1 = ((a % 2 : Nat) : Int) := by
 have := i64_and_nat a 1 ha (by decide)
 rw [nat_mask1] at this
 exact this
open Go.RowKit
theorem strOf_data (zs : List Int) (acc : ByteArray) : (zs.foldl (fun r n => r.push (UInt8.ofNat n.toNat)) acc).data.toList = acc.data.toList ++ zs.map (fun n => UInt8.ofNat n.toNat) := by
 induction zs generalizing acc with
 | nil => simp
 | cons z zs ih => rw [List.foldl_cons, ih, List.map_cons]; simp [ByteArray.push]
theorem strOf_inj {xs ys : List Int} (hx : ∀ z ∈ xs, 0 ≤ z ∧ z ≤ 255) (hy : ∀ z ∈ ys, 0 ≤ z ∧ z ≤ 255) (h : (strOf xs).data.toList = (strOf ys).data.toList) : xs = ys := by
 have h1 : xs.map (fun n => UInt8.ofNat n.toNat) = ys.map (fun n => UInt8.ofNat n.toNat) := by
  simp only [strOf, strOf_data] at h
  simpa using h
 have back : ∀ l : List Int, (∀ z ∈ l, 0 ≤ z ∧ z ≤ 255) → (l.map (fun n => UInt8.ofNat n.toNat)).map (fun b => (b.toNat : Int)) = l := by
  intro l hl
  induction l with
  | nil => rfl
  | cons z l ih =>
   have hz := hl z List.mem_cons_self
   simp only [List.map_cons]
   rw [ih (fun y hy => hl y (List.mem_cons_of_mem _ hy))]
   congr 1
   have : z.toNat < 256 := by omega
   rw [UInt8.toNat_ofNat']
   have e : z.toNat % 2 ^ 8 = z.toNat := Nat.mod_eq_of_lt this
   rw [e]; omega
 rw [← back xs hx, ← back ys hy, h1]
theorem strOf_beq {xs ys : List Int} (hx : ∀ z ∈ xs, 0 ≤ z ∧ z ≤ 255) (hy : ∀ z ∈ ys, 0 ≤ z ∧ z ≤ 255) : ((strOf xs).toList == (strOf ys).toList) = decide (xs = ys) := by
 rw [Lib.toList_data, Lib.toList_data]
 by_cases h : xs = ys
 ·subst h; simp
 ·rw [decide_eq_false h]
  cases hb : ((strOf xs).data.toList == (strOf ys).data.toList) with
  | false => rfl
  | true => exact absurd (strOf_inj hx hy (by simpa using hb)) h
set_option maxRecDepth 100000 in
theorem bequal_any (A B : Option Addr) (n m c d : Nat) (xs ys : List Int) (w : World) (hx : Bs w A n c xs) (hy : Bs w B m d ys) :
    Calls Tryz.prog 94 #[.slice A n c, .slice B m d] w fun e w' => e = .returned (.bool (decide (xs = ys))) ∧ w = w' := by
 have h1 := run_str hx
 have h2 := run_str hy
 have E := Lib.hid (strOf_beq hx.byte hy.byte)
 generalize strOf xs = sx at *
 generalize strOf ys = sy at *
 go_enter Tryz.func94, Tryz.ntmps94
 go_wp2
 go_ret
 exact ⟨by rw [← E.out]; first | rfl | (congr 2; simp), rfl⟩
def getL (zs : List Int) : Option (Int × Int × List Int × Int) :=
  if zs.length < 16 then none else
  let n : Int := zs.getD 2 0 + zs.getD 3 0 * 256
  if sizeZ n = 0 ∨ (zs.length : Int) < sizeZ n then none else
  let seq : Int := zs.getD 4 0 + zs.getD 5 0 * 256 + zs.getD 6 0 * 65536 + zs.getD 7 0 * 16777216
  let body := (zs.drop 8).take n.toNat
  if putL (zs.getD 0 0) seq body = zs.take (sizeZ n).toNat then some (zs.getD 0 0, seq, body, sizeZ n) else none
def GetIs (zs : List Int) (k s : Int) (bl : List Int) (n : Int) (ok : Bool) : Prop :=
  (ok = true ∧ getL zs = some (k, s, bl, n)) ∨ (ok = false ∧ getL zs = none ∧ k = 0 ∧ s = 0 ∧ bl = [] ∧ n = 0)
theorem or_two (a b : Nat) (ha : a < 256) (hb : b < 256) : bits .or .i64 (a : Int) ((b : Int) * 256) = ((a + b * 256 : Nat) : Int) := by
 have := i64_or_nat a (b * 256) (by omega) (by omega)
 rw [Nat.or_comm, nat_join 8 (b * 256) a (by omega) (by omega)] at this
 rw [Nat.add_comm a]
 exact this
theorem or_three (a b : Nat) (ha : a < 65536) (hb : b < 256) : bits .or .i64 (a : Int) ((b : Int) * 65536) = ((a + b * 65536 : Nat) : Int) := by
 have := i64_or_nat a (b * 65536) (by omega) (by omega)
 rw [Nat.or_comm, nat_join 16 (b * 65536) a (by omega) (by omega)] at this
 rw [Nat.add_comm a]
 exact this
theorem or_four (a b : Nat) (ha : a < 16777216) (hb : b < 256) : bits .or .i64 (a : Int) ((b : Int) * 16777216) = ((a + b * 16777216 : Nat) : Int) := by
 have := i64_or_nat a (b * 16777216) (by omega) (by omega)
 rw [Nat.or_comm, nat_join 24 (b * 16777216) a (by omega) (by omega)] at this
 rw [Nat.add_comm a]
 exact this
open Go.RowKit
theorem results_cell3 {fn : Func} {p u v : Tmp} {ty : TypeId} (h : fn.results = #[.cell p ty, .tmp u, .tmp v]) (tmps : Array Value) (P : Program) (w : World) :
    (results fn tmps).run P w = ((asAddr (tmps.getD p undef)).run P w).andThen fun a w₁ => ((loadVar ty a).run P w₁).andThen fun x w₂ => .ok (.tuple #[x, tmps.getD u undef, tmps.getD v undef]) w₂ := by
 simp only [results, h]
 simp [Sem.run_bind, Result.andThen]
theorem Tryz.info95 : (Tryz.prog.info? 95).map (fun i => (i.zero, i.size)) = some (some (.agg #[.int .i64 0, .int .i64 0, .slice none 0 0]), 3) := by kernel_rfl
theorem get_res {w : World} {g : Nat} {a b c x y : Value} {T : TypeId} (tmps : Array Value) (h : Blk w g [a, b, c] T) (h2 : tmps.getD 2 undef = .pointer (some ⟨g, 0, none⟩)) (h3 : tmps.getD 3 undef = x) (h4 : tmps.getD 4 undef = y) :
    (results Tryz.f99 tmps).run Tryz.prog w = .ok (.tuple #[.agg #[a, b, c], x, y]) w := by
 have hl : (loadVar 95 ⟨g, 0, none⟩).run Tryz.prog w = .ok (.agg #[a, b, c]) w :=
  run_loadVar_row w g T 95 #[a, b, c] (0, 0) _ h Tryz.underlying95 rfl (by rw [(zero_of_info Tryz.info95).2]; rfl)
 rw [results_cell3 (p := 2) (u := 3) (v := 4) (ty := 95) rfl, h2, h3, h4]
 simp only [asAddr, Sem.run_pure, Result.andThen_ok, hl]
def GetTold (w : World) (zs : List Int) (e : Ending) (w' : World) : Prop :=
  ∃ k s v bl n ok, e = .returned (.tuple #[.agg #[.int .i64 k, .int .i64 s, v], .int .i64 n, .bool ok]) ∧ Own w' w.heap.size v bl ∧ Keeps None w w' ∧ GetIs zs k s bl n ok
theorem tl45 (P : Prop) (h : P := by
 go_wp2
 refine bodyPost_ret (get_res _ (Blk.new w [.int .i64 0, .int .i64 0, .slice none 0 0] 95) rfl rfl rfl) rfl ?_
 exact ⟨0, 0, _, [], 0, false, rfl, Own.nil _ _, (Keeps.refl None w).alloc _, .inr ⟨rfl, GN.out, rfl, rfl, rfl, rfl⟩⟩) : P := h
theorem tl46 (P : Prop) (h : P := by
 have q1 : (c2 : Int) + c3 * 256 = nn := by omega
 have q2 : (c4 : Int) + c5 * 256 + c6 * 65536 + c7 * 16777216 = s3 := by omega
 simp only [q1, q2, hl, Int.toNat_natCast]) : P := h
theorem tl47 (P : Prop) (h : P := by
 clear GL HB e4 e5 e6 XC
 have qq0 := Blk.cellD (BB.out) 0 _ rfl
 have qq1 := Blk.cellD (BB.out) 1 _ rfl
 have qq2 := Blk.cellD (BB.out) 2 _ rfl
 have qf0 := Blk.frozen (BB.out) 0
 have qf1 := Blk.frozen (BB.out) 1
 have qf2 := Blk.frozen (BB.out) 2
 go_wp2
 refine bodyPost_ret (get_res _ ((((Blk.set (BB.out.drew) 0 _)).set 1 _).set 2 _) rfl rfl rfl) rfl ?_
 exact ⟨0, 0, _, [], 0, false, rfl, Own.nil _ _, ((Keeps.setCell (KB.out.drew) _ _ (fun h => absurd h (Nat.lt_irrefl _))).setCell _ _ (fun h => absurd h (Nat.lt_irrefl _))).setCell _ _ (fun h => absurd h (Nat.lt_irrefl _)), .inr ⟨rfl, GN.out, rfl, rfl, rfl, rfl⟩⟩) : P := h
theorem tl50 (P : Prop) (h : P := by
 have qq0 := Blk.cellD (R5.out) 0 _ rfl
 have qq1 := Blk.cellD (R5.out) 1 _ rfl
 have qq2 := Blk.cellD (R5.out) 2 _ rfl
 have qf0 := Blk.frozen (R5.out) 0
 have qf1 := Blk.frozen (R5.out) 1
 have qf2 := Blk.frozen (R5.out) 2
 go_wp2
 refine bodyPost_ret (get_res _ ((((Blk.set (R5.out) 0 _)).set 1 _).set 2 _) rfl rfl rfl) rfl ?_
 exact ⟨0, 0, _, [], 0, false, rfl, Own.nil _ _, ((Keeps.setCell (K5.out) _ _ (fun h => absurd h (Nat.lt_irrefl _))).setCell _ _ (fun h => absurd h (Nat.lt_irrefl _))).setCell _ _ (fun h => absurd h (Nat.lt_irrefl _)), .inr ⟨rfl, GN.out, rfl, rfl, rfl, rfl⟩⟩) : P := h
theorem tl49 (P : Prop) (h : P := by
 have GN : Hid (getL zs = none) := by
  show getL zs = none
  rw [GL2.out]; exact if_neg (of_decide_eq_false HPB.out)
 clear GL2 V5 N5 N3
 exact tl50 _) : P := h
theorem tl52 (P : Prop) (h : P := by
 go_wp2
 refine bodyPost_ret (get_res _ ((((Blk.set (R5.out) 0 _)).set 1 _).set 2 _) rfl rfl rfl) rfl ?_
 exact ⟨c0, s3, _, bd, sz, true, rfl, ((V5.out.keeps (S := fun i => i = w.heap.size) ((((Keeps.refl (fun i => i = w.heap.size) w5).put 0 _).put 1 _).put 2 _) (fun b e h => V5.out.notBelow (i := b) (by omega) e)).lower (Nat.le_succ _)), ((K5.out.setCell _ _ (fun h => absurd h (Nat.lt_irrefl _))).setCell _ _ (fun h => absurd h (Nat.lt_irrefl _))).setCell _ _ (fun h => absurd h (Nat.lt_irrefl _)), .inl ⟨rfl, GS.out⟩⟩) : P := h
theorem tl51 (P : Prop) (h : P := by
 have GS : Hid (getL zs = some ((c0 : Int), (s3 : Int), bd, (sz : Int))) := by
  show getL zs = _
  rw [GL2.out]; exact if_pos (of_decide_eq_true HPB.out)
 have rq0 := N5.out.cellD 0 _ rfl
 have rq1 := N5.out.cellD 1 _ rfl
 have rq2 := N5.out.cellD 2 _ rfl
 have qq0 := R5.out.cellD 0 _ rfl
 have qq1 := R5.out.cellD 1 _ rfl
 have qq2 := R5.out.cellD 2 _ rfl
 have qf0 := R5.out.frozen 0
 have qf1 := R5.out.frozen 1
 have qf2 := R5.out.frozen 2
 exact tl52 _) : P := h
set_option maxRecDepth 100000 in
theorem tl48 (P : Prop) (h : P := by
 rw [hw3] at K3 R3 N3 V3 ⊢
 rw [hrb] at N3 ⊢
 clear hw3 hrb
 refine MixK.on (InS.mk ((mH.out _).2 (X0.out _ K3.out))) ?_
 refine wpMix_nil ?_
 clear mk0 mn mH
 clear BC KC X0 BODY
 have hbl6 : bd.length ≤ 1000000 := by rw [HBL.out]; omega
 have PUT := Lib.hid (fun w h => sput_any c0 s3 A2 bd.length cap2 bd w h hbl6)
 have BD3 := Lib.hid (own_bs V3.out)
 have P3 := Lib.hid (PRE.out.keeps K3.out (fun _ _ _ _ _ h => h))
 have EQ := Lib.hid (fun A5 n5 c5 w h1 h2 => bequal_any A5 (some ⟨bl, off, none⟩) n5 sz c5 cap (putL c0 s3 bd) (zs.take sz) w h1 h2)
 obtain ⟨pb, hpb⟩ : ∃ b, decide (putL c0 s3 bd = zs.take sz) = b := ⟨_, rfl⟩
 rw [hpb] at EQ
 have HPB := Lib.hid hpb
 clear hpb PRE HB
 go_wp2
 obtain ⟨mS, mh⟩ : ∃ S : World → Prop, ∀ w', S w' ↔ (w'.cell? ⟨rb, 0, none⟩ = some (.int .i64 c0) ∧ w'.cell? ⟨rb, 1, none⟩ = some (.int .i64 s3) ∧ w'.cell? ⟨rb, 2, none⟩ = some (.slice A2 bd.length cap2)) := ⟨_, fun _ => Iff.rfl⟩
 have mk0 : ∀ x : Memb mS, x.at_.cell? ⟨rb, 0, none⟩ = some (.int .i64 c0) := fun x => ((mh _).1 x.is).1
 have mk1 : ∀ x : Memb mS, x.at_.cell? ⟨rb, 1, none⟩ = some (.int .i64 s3) := fun x => ((mh _).1 x.is).2.1
 have mk2 : ∀ x : Memb mS, x.at_.cell? ⟨rb, 2, none⟩ = some (.slice A2 bd.length cap2) := fun x => ((mh _).1 x.is).2.2
 have mn : Nonempty (Memb mS) := ⟨⟨(w3).drew, (mh _).2 ⟨N3.out.cellD 0 _ rfl, N3.out.cellD 1 _ rfl, N3.out.cellD 2 _ rfl⟩⟩⟩
 have mH := Lib.hid mh
 clear mh
 refine wp_region_mix [1, 5] (InS mS) (by kernel_rfl) (by kernel_rfl) (InS.mk ((mH.out _).2 ⟨N3.out.cellD 0 _ rfl, N3.out.cellD 1 _ rfl, N3.out.cellD 2 _ rfl⟩)) ?_
 refine wpMix_seg 1 (by kernel_rfl) (by decide) ?_
 simp only [tds]
 repeat (go_big_quiet_step (fail))
 refine wpQuiet_nil ?_
 refine wpMix_eff (by kernel_rfl) ?_
 go_wp2_with fail
 refine (PUT.out _ BD3.out.drew).mono ?_
 rintro e w5 ⟨v5, rfl, o5, k5⟩
 obtain ⟨A5, cap5, rfl, bs5, -⟩ := o5.shape
 have K5 := Lib.hid (K3.out.drew.trans k5 (T := None) (fun _ h => h) (fun _ _ h => h))
 have R5 := Lib.hid (k5.blk R3.out.drew (fun h => h))
 have N5 := Lib.hid (k5.blk N3.out.drew (fun h => h))
 have V5 := Lib.hid (V3.out.drew.keeps k5 (fun _ _ h => h))
 have P5 := Lib.hid (P3.out.drew.keeps k5 (fun _ _ _ _ _ h => h))
 have BS5 := Lib.hid bs5
 clear o5 k5 bs5 K3 R3 V3 P3 PUT BD3
 go_wp2
 refine MixK.on (InS.mk ((mH.out _).2 (⟨N5.out.cellD 0 _ rfl, N5.out.cellD 1 _ rfl, N5.out.cellD 2 _ rfl⟩))) ?_
 refine wpMix_seg 3 (by kernel_rfl) (by decide) ?_
 simp only [tds]
 repeat (go_big_quiet_step (fail))
 refine wpQuiet_nil ?_
 refine wpMix_eff (by kernel_rfl) ?_
 go_wp2_with fail
 refine (EQ.out _ _ _ w5 BS5.out P5.out).mono ?_
 rintro e w' ⟨rfl, rfl⟩
 go_wp2
 refine MixK.on (InS.mk ((mH.out _).2 (⟨N5.out.cellD 0 _ rfl, N5.out.cellD 1 _ rfl, N5.out.cellD 2 _ rfl⟩))) ?_
 refine wpMix_seg 1 (by kernel_rfl) (by decide) ?_
 simp only [tds]
 repeat (go_big_quiet_step (fail))
 refine wpQuiet_nil ?_
 refine wpMix_nil ?_
 clear mk0 mk1 mk2 mn mH
 clear EQ BS5 P5
 cases pb with
 | false =>
  exact tl49 _
 | true =>
  exact tl51 _) : P := h
set_option maxRecDepth 100000 in
set_option maxHeartbeats 3200000 in
theorem sget_any (A : Option Addr) (L cap : Nat) (zs : List Int) (w : World) (h : Bs w A L cap zs) (hL : L ≤ 1000000) : Calls Tryz.prog 99 #[.slice A L cap] w (GetTold w zs) := by
 have hl := h.len
 have hle := h.le
 have hmx := h.max
 by_cases g1 : L < 16
 ·have d1 : decide ((L : Int) < 16) = true := decide_eq_true (by omega)
  have GN : Hid (getL zs = none) := by unfold getL; exact if_pos (by omega)
  clear h
  go_enter Tryz.func99, Tryz.ntmps99
  exact tl45 _
 have d1 : decide ((L : Int) < 16) = false := decide_eq_false (by omega)
 obtain ⟨bl, off, z0, rfl, hz0, a0, b0, -⟩ := h.get (i := 0) (by omega)
 obtain ⟨_, _, z2, ee, hz2, a2, b2, x2⟩ := h.get (i := 2) (by omega)
 cases ee
 obtain ⟨_, _, z3, ee, hz3, a3, b3, x3⟩ := h.get (i := 3) (by omega)
 cases ee
 obtain ⟨_, _, z4, ee, hz4, a4, b4, x4⟩ := h.get (i := 4) (by omega)
 cases ee
 obtain ⟨_, _, z5, ee, hz5, a5, b5, x5⟩ := h.get (i := 5) (by omega)
 cases ee
 obtain ⟨_, _, z6, ee, hz6, a6, b6, x6⟩ := h.get (i := 6) (by omega)
 cases ee
 obtain ⟨_, _, z7, ee, hz7, a7, b7, x7⟩ := h.get (i := 7) (by omega)
 cases ee
 obtain ⟨_, _, z0', ee, hz0', -, -, x0⟩ := h.get (i := 0) (by omega)
 cases ee
 obtain rfl : z0' = z0 := by rw [← hz0', hz0]
 obtain ⟨c0, rfl⟩ : ∃ c : Nat, z0' = c := ⟨z0'.toNat, by omega⟩
 obtain ⟨c2, rfl⟩ : ∃ c : Nat, z2 = c := ⟨z2.toNat, by omega⟩
 obtain ⟨c3, rfl⟩ : ∃ c : Nat, z3 = c := ⟨z3.toNat, by omega⟩
 obtain ⟨c4, rfl⟩ : ∃ c : Nat, z4 = c := ⟨z4.toNat, by omega⟩
 obtain ⟨c5, rfl⟩ : ∃ c : Nat, z5 = c := ⟨z5.toNat, by omega⟩
 obtain ⟨c6, rfl⟩ : ∃ c : Nat, z6 = c := ⟨z6.toNat, by omega⟩
 obtain ⟨c7, rfl⟩ : ∃ c : Nat, z7 = c := ⟨z7.toNat, by omega⟩
 have XC := Lib.hid (fun (w' : World) (hk : Keeps None w w') => show w'.cell? ⟨bl, off + 0, none⟩ = some (.int .u8 c0) ∧ w'.cell? ⟨bl, off + 2, none⟩ = some (.int .u8 c2) ∧ w'.cell? ⟨bl, off + 3, none⟩ = some (.int .u8 c3) ∧ w'.cell? ⟨bl, off + 4, none⟩ = some (.int .u8 c4) ∧ w'.cell? ⟨bl, off + 5, none⟩ = some (.int .u8 c5) ∧ w'.cell? ⟨bl, off + 6, none⟩ = some (.int .u8 c6) ∧ w'.cell? ⟨bl, off + 7, none⟩ = some (.int .u8 c7) from by
  have hbl : bl < w.heap.size := by obtain ⟨b', o', e, hb, _⟩ := h.at_ (by omega); cases e; exact hb
  exact ⟨(hk.cell hbl (fun h => h)).trans x0, (hk.cell hbl (fun h => h)).trans x2, (hk.cell hbl (fun h => h)).trans x3, (hk.cell hbl (fun h => h)).trans x4, (hk.cell hbl (fun h => h)).trans x5, (hk.cell hbl (fun h => h)).trans x6, (hk.cell hbl (fun h => h)).trans x7⟩)
 have HB := Lib.hid h
 have i0 : 0 < L := by omega
 have i2 : 2 < L := by omega
 have i3 : 3 < L := by omega
 have i4 : 4 < L := by omega
 have i5 : 5 < L := by omega
 have i6 : 6 < L := by omega
 have i7 : 7 < L := by omega
 obtain ⟨nn, hnn⟩ : ∃ nn, nn = c2 + c3 * 256 := ⟨_, rfl⟩
 have e1 := or_two c2 c3 (by omega) (by omega)
 rw [← hnn] at e1
 obtain ⟨s1, hs1⟩ : ∃ s1, s1 = c4 + c5 * 256 := ⟨_, rfl⟩
 have e4 := or_two c4 c5 (by omega) (by omega)
 rw [← hs1] at e4
 obtain ⟨s2, hs2⟩ : ∃ s2, s2 = s1 + c6 * 65536 := ⟨_, rfl⟩
 have e5 := or_three s1 c6 (by omega) (by omega)
 rw [← hs2] at e5
 obtain ⟨s3, hs3⟩ : ∃ s3, s3 = s2 + c7 * 16777216 := ⟨_, rfl⟩
 have e6 := or_four s2 c7 (by omega) (by omega)
 rw [← hs3] at e6
 have s3b : s3 < 4294967296 := by omega
 have nnb : nn < 65536 := by omega
 have GL : Hid (getL zs = if sizeZ nn = 0 ∨ (L : Int) < sizeZ nn then none else if putL c0 s3 ((zs.drop 8).take nn) = zs.take (sizeZ nn).toNat then some ((c0 : Int), (s3 : Int), (zs.drop 8).take nn, sizeZ nn) else none) := by
  show getL zs = _
  unfold getL
  rw [if_neg (by omega), hz0, hz2, hz3, hz4, hz5, hz6, hz7]
  exact tl46 _
 clear hz0 hz0' hz2 hz3 hz4 hz5 hz6 hz7 hnn hs1 hs2 hs3 x0 x2 x3 x4 x5 x6 x7 h hl g1
 go_enter Tryz.func99, Tryz.ntmps99
 go_wp2
 obtain ⟨wb, hwb⟩ : ∃ x, w.alloc (.cells #[.int .i64 0, .int .i64 0, .slice none 0 0] 95) = x := ⟨_, rfl⟩
 have BB : Hid (Blk wb w.heap.size [.int .i64 0, .int .i64 0, .slice none 0 0] 95) := by rw [← hwb]; exact Blk.new w [.int .i64 0, .int .i64 0, .slice none 0 0] 95
 have KB : Hid (Keeps None w wb) := by rw [← hwb]; exact (Keeps.refl None w).alloc _
 rw [hwb]
 clear hwb
 obtain ⟨mS, mh⟩ : ∃ S : World → Prop, ∀ w', S w' ↔ (w'.cell? ⟨bl, off + 2, none⟩ = some (.int .u8 c2) ∧ w'.cell? ⟨bl, off + 3, none⟩ = some (.int .u8 c3)) := ⟨_, fun _ => Iff.rfl⟩
 have mk0 : ∀ x : Memb mS, x.at_.cell? ⟨bl, off + 2, none⟩ = some (.int .u8 c2) := fun x => ((mh _).1 x.is).1
 have mk1 : ∀ x : Memb mS, x.at_.cell? ⟨bl, off + 3, none⟩ = some (.int .u8 c3) := fun x => ((mh _).1 x.is).2
 have mn : Nonempty (Memb mS) := ⟨⟨(wb).drew, (mh _).2 ⟨(XC.out wb KB.out).2.1, (XC.out wb KB.out).2.2.1⟩⟩⟩
 have mH := Lib.hid mh
 clear mh
 refine wp_region_mix [] (InS mS) (by kernel_rfl) (by kernel_rfl) (InS.mk ((mH.out _).2 ⟨(XC.out wb KB.out).2.1, (XC.out wb KB.out).2.2.1⟩)) ?_
 refine wpMix_seg 11 (by kernel_rfl) (by decide) ?_
 simp only [tds]
 repeat (go_big_quiet_step (fail))
 refine wpQuiet_nil ?_
 refine wpMix_nil ?_
 clear mk0 mk1 mn mH
 go_wp2_with fail
 refine (ssize_any nn _).mono ?_
 rintro e w' ⟨rfl, rfl⟩
 by_cases g2 : 512 < nn
 ·have z1 : sizeZ nn = 0 := if_pos (.inr (by omega))
  have GN : Hid (getL zs = none) := by rw [GL.out]; exact if_pos (.inl z1)
  rw [z1]
  exact tl47 _
 obtain ⟨sz, hsz⟩ : ∃ sz : Nat, sizeZ nn = sz := ⟨(sizeZ nn).toNat, by unfold sizeZ; split <;> omega⟩
 have hsz2 : sz = 16 + (nn + 7) / 8 * 8 := by
  have : sizeZ nn = 16 + ((nn : Int) + 7) / 8 * 8 := if_neg (by omega)
  omega
 rw [hsz] at GL ⊢
 have HSZ2 := Lib.hid hsz2
 have szb : nn + 16 ≤ sz := by omega
 have szc : sz ≤ 600 := by omega
 clear hsz hsz2
 by_cases g3 : L < sz
 ·have z1 : ((sz : Int) == 0) = false := by simp; omega
  have z2 : decide ((L : Int) < sz) = true := decide_eq_true (by omega)
  have GN : Hid (getL zs = none) := by rw [GL.out]; exact if_pos (.inr (by omega))
  exact tl47 _
 have z1 : ((sz : Int) == 0) = false := by simp; omega
 have z2 : decide ((L : Int) < sz) = false := decide_eq_false (by omega)
 have GL2 : Hid (getL zs = if putL c0 s3 ((zs.drop 8).take nn) = zs.take sz then some ((c0 : Int), (s3 : Int), (zs.drop 8).take nn, (sz : Int)) else none) := by
  show getL zs = _
  rw [GL.out, if_neg (show ¬ ((sz : Int) = 0 ∨ (L : Int) < sz) by omega), Int.toNat_natCast]
 clear GL
 go_wp2
 obtain ⟨mS, mh⟩ : ∃ S : World → Prop, ∀ w', S w' ↔ (w'.cell? ⟨bl, off + 4, none⟩ = some (.int .u8 c4) ∧ w'.cell? ⟨bl, off + 5, none⟩ = some (.int .u8 c5) ∧ w'.cell? ⟨bl, off + 6, none⟩ = some (.int .u8 c6) ∧ w'.cell? ⟨bl, off + 7, none⟩ = some (.int .u8 c7)) := ⟨_, fun _ => Iff.rfl⟩
 have mk0 : ∀ x : Memb mS, x.at_.cell? ⟨bl, off + 4, none⟩ = some (.int .u8 c4) := fun x => ((mh _).1 x.is).1
 have mk1 : ∀ x : Memb mS, x.at_.cell? ⟨bl, off + 5, none⟩ = some (.int .u8 c5) := fun x => ((mh _).1 x.is).2.1
 have mk2 : ∀ x : Memb mS, x.at_.cell? ⟨bl, off + 6, none⟩ = some (.int .u8 c6) := fun x => ((mh _).1 x.is).2.2.1
 have mk3 : ∀ x : Memb mS, x.at_.cell? ⟨bl, off + 7, none⟩ = some (.int .u8 c7) := fun x => ((mh _).1 x.is).2.2.2
 have mn : Nonempty (Memb mS) := ⟨⟨(wb.drew).drew, (mh _).2 ⟨(XC.out _ KB.out.drew).2.2.2.1, (XC.out _ KB.out.drew).2.2.2.2.1, (XC.out _ KB.out.drew).2.2.2.2.2.1, (XC.out _ KB.out.drew).2.2.2.2.2.2⟩⟩⟩
 have mH := Lib.hid mh
 clear mh
 refine wp_region_mix [] (InS mS) (by kernel_rfl) (by kernel_rfl) (InS.mk ((mH.out _).2 ⟨(XC.out _ KB.out.drew).2.2.2.1, (XC.out _ KB.out.drew).2.2.2.2.1, (XC.out _ KB.out.drew).2.2.2.2.2.1, (XC.out _ KB.out.drew).2.2.2.2.2.2⟩)) ?_
 refine wpMix_seg 23 (by kernel_rfl) (by decide) ?_
 simp only [tds]
 repeat (go_big_quiet_step (fail))
 refine wpQuiet_nil ?_
 refine wpMix_nil ?_
 clear mk0 mk1 mk2 mk3 mn mH
 go_wp2
 clear e1 e4 e5 e6 z1 z2
 obtain ⟨wc, hwc⟩ : ∃ x, wb.drew.drew = x := ⟨_, rfl⟩
 have BC : Hid (Blk wc w.heap.size [.int .i64 0, .int .i64 0, .slice none 0 0] 95) := by rw [← hwc]; exact BB.out.drew.drew
 have KC : Hid (Keeps None w wc) := by rw [← hwc]; exact KB.out.drew.drew
 rw [hwc]
 clear hwc BB KB
 have hc8 : ¬ cap = 8 := by omega
 have BODY := Lib.hid ((HB.out.drop (k := 8) (by omega)).take (k := nn) (by omega))
 have PRE := Lib.hid (HB.out.take (k := sz) (by omega))
 obtain ⟨bd, hbd⟩ : ∃ bd, (zs.drop 8).take nn = bd := ⟨_, rfl⟩
 rw [hbd] at BODY GL2
 have HBL := Lib.hid BODY.out.len
 have X0 := Lib.hid (fun (w' : World) (hk : Keeps None w w') => (show w'.cell? ⟨bl, off, none⟩ = some (.int .u8 c0) from (XC.out w' hk).1))
 clear hbd XC
 obtain ⟨mS, mh⟩ : ∃ S : World → Prop, ∀ w', S w' ↔ (w'.cell? ⟨bl, off, none⟩ = some (.int .u8 c0)) := ⟨_, fun _ => Iff.rfl⟩
 have mk0 : ∀ x : Memb mS, x.at_.cell? ⟨bl, off, none⟩ = some (.int .u8 c0) := fun x => ((mh _).1 x.is)
 have mn : Nonempty (Memb mS) := ⟨⟨(wc).drew, (mh _).2 (X0.out _ KC.out.drew)⟩⟩
 have mH := Lib.hid mh
 clear mh
 refine wp_region_mix_swap [9, 11, 12] (InS mS) 9 11 12 9 11 (by kernel_rfl) (by kernel_rfl) (InS.mk ((mH.out _).2 (X0.out _ KC.out.drew))) ?_ ?_
 ·
  refine wpMix_seg 9 (by kernel_rfl) (by decide) ?_
  simp only [tds, Nat.reduceSub]
  repeat (go_big_quiet_step (fail))
  refine wpQuiet_nil ?_
  refine wpMix_eff (by kernel_rfl) ?_
  go_wp2_with fail
  refine (clone_any _ nn _ bd _ (BODY.out.keeps KC.out.drew (fun _ _ _ _ _ h => h)) (by omega)).mono ?_
  rintro e w2 ⟨v2, rfl, o2, k2⟩
  obtain ⟨A2, cap2, rfl, bs2, -⟩ := o2.shape
  have K2 := Lib.hid (KC.out.drew.trans k2 (T := None) (fun _ h => h) (fun _ _ h => h))
  have R2 := Lib.hid (k2.blk BC.out.drew (fun h => h))
  have V2 := Lib.hid (o2.lower (B' := w.heap.size + 1) BC.out.lt)
  clear o2 k2 bs2
  go_wp2
  refine MixK.on (InS.mk ((mH.out _).2 (X0.out _ K2.out))) ?_
  refine wpMix_seg 1 (by kernel_rfl) (by decide) ?_
  simp only [tds, Nat.reduceSub]
  repeat (go_big_quiet_step (fail))
  refine wpQuiet_nil ?_
  refine wpMix_eff (by kernel_rfl) ?_
  go_wp2
  refine MixK.on (InS.mk ((mH.out _).2 (X0.out _ (K2.out.alloc _)))) ?_
  refine wpMix_eff (by kernel_rfl) ?_
  go_wp2
  have K3 := Lib.hid (K2.out.alloc (.cells #[.int .i64 c0, .int .i64 s3, .slice A2 bd.length cap2] 95))
  have R3 := Lib.hid (R2.out.alloc (.cells #[.int .i64 c0, .int .i64 s3, .slice A2 bd.length cap2] 95))
  have N3 := Lib.hid (Blk.new w2 [.int .i64 c0, .int .i64 s3, .slice A2 bd.length cap2] 95)
  have V3 := Lib.hid (V2.out.alloc (.cells #[.int .i64 c0, .int .i64 s3, .slice A2 bd.length cap2] 95))
  clear K2 R2 V2
  obtain ⟨w3, hw3⟩ : ∃ x, w2.alloc (.cells #[.int .i64 c0, .int .i64 s3, .slice A2 bd.length cap2] 95) = x := ⟨_, rfl⟩
  obtain ⟨rb, hrb⟩ : ∃ x, w2.heap.size = x := ⟨_, rfl⟩
  exact tl48 _
 ·
  try dsimp only
  try simp only [tds, Nat.reduceSub]
  refine wpMix_seg 9 (by kernel_rfl) (by decide) ?_
  simp only [tds, Nat.reduceSub]
  repeat (go_big_quiet_step (fail))
  refine wpQuiet_nil ?_
  refine wpMix_nil ?_
  try dsimp only
  try simp only [tds, Nat.reduceSub]
  refine wpMix_eff (by kernel_rfl) ?_
  go_wp2
  refine MixK.on (InS.mk ((mH.out _).2 (X0.out _ ((KC.out.alloc _).drew)))) ?_
  refine wpMix_nil ?_
  try dsimp only
  try simp only [tds, Nat.reduceSub]
  refine wpMix_eff (by kernel_rfl) ?_
  go_wp2_with fail
  refine (clone_any _ nn _ bd _ (BODY.out.keeps (KC.out.alloc _).drew (fun _ _ _ _ _ h => h)) (by omega)).mono ?_
  rintro e w2 ⟨v2, rfl, o2, k2⟩
  obtain ⟨A2, cap2, rfl, bs2, -⟩ := o2.shape
  have K2 := Lib.hid ((KC.out.alloc (.cells #[.int .i64 0, .int .i64 0, .slice none 0 0] 95)).drew.trans k2 (T := None) (fun _ h => h) (fun _ _ h => h))
  have R2 := Lib.hid (k2.blk (BC.out.alloc (.cells #[.int .i64 0, .int .i64 0, .slice none 0 0] 95)).drew (fun h => h))
  have N2 := k2.blk (Blk.new wc [.int .i64 0, .int .i64 0, .slice none 0 0] 95).drew (fun h => h)
  have V2 := Lib.hid (o2.lower (B' := w.heap.size + 1) (Nat.le_trans BC.out.lt ((Keeps.refl None wc).alloc (.cells #[.int .i64 0, .int .i64 0, .slice none 0 0] 95)).size))
  have VN := Lib.hid (fun (b : Nat) (e : (Value.slice A2 bd.length cap2).ownBlock = some b) (h : b = wc.heap.size) => Own.notBelow o2 (i := b) (by subst h; simp) e)
  have nq0 := N2.cellD 0 _ rfl
  have nq1 := N2.cellD 1 _ rfl
  have nq2 := N2.cellD 2 _ rfl
  have nf0 := N2.frozen 0
  have nf1 := N2.frozen 1
  have nf2 := N2.frozen 2
  have HN2 := Lib.hid N2
  clear o2 k2 bs2 N2
  go_wp2
  refine MixK.on (InS.mk ((mH.out _).2 (X0.out _ K2.out))) ?_
  refine wpMix_seg 1 (by kernel_rfl) (by decide) ?_
  simp only [tds, Nat.reduceSub]
  repeat (go_big_quiet_step (fail))
  refine wpQuiet_nil ?_
  refine wpMix_nil ?_
  try dsimp only
  try simp only [tds, Nat.reduceSub]
  refine wpMix_eff (by kernel_rfl) ?_
  go_wp2
  have K3 := Lib.hid (((K2.out.setCell ⟨wc.heap.size, 0, none⟩ (.int .i64 c0) (fun h => absurd h (Nat.not_lt.2 KC.out.size))).setCell ⟨wc.heap.size, 1, none⟩ (.int .i64 s3) (fun h => absurd h (Nat.not_lt.2 KC.out.size))).setCell ⟨wc.heap.size, 2, none⟩ (.slice A2 bd.length cap2) (fun h => absurd h (Nat.not_lt.2 KC.out.size)))
  have R3 := Lib.hid (((R2.out.setOther ⟨wc.heap.size, 0, none⟩ (.int .i64 c0) (Nat.ne_of_lt BC.out.lt)).setOther ⟨wc.heap.size, 1, none⟩ (.int .i64 s3) (Nat.ne_of_lt BC.out.lt)).setOther ⟨wc.heap.size, 2, none⟩ (.slice A2 bd.length cap2) (Nat.ne_of_lt BC.out.lt))
  have N3 := Lib.hid (((HN2.out.set 0 (.int .i64 c0)).set 1 (.int .i64 s3)).set 2 (.slice A2 bd.length cap2))
  have V3 := Lib.hid (V2.out.keeps (S := fun i => i = wc.heap.size) ((((Keeps.refl (fun i => i = wc.heap.size) w2).put 0 (.int .i64 c0)).put 1 (.int .i64 s3)).put 2 (.slice A2 bd.length cap2)) (fun b e h => VN.out b e h))
  clear K2 R2 V2 HN2 nq0 nq1 nq2 nf0 nf1 nf2 VN
  obtain ⟨w3, hw3⟩ : ∃ x, ((w2.setCell ⟨wc.heap.size, 0, none⟩ (.int .i64 c0)).setCell ⟨wc.heap.size, 1, none⟩ (.int .i64 s3)).setCell ⟨wc.heap.size, 2, none⟩ (.slice A2 bd.length cap2) = x := ⟨_, rfl⟩
  obtain ⟨rb, hrb⟩ : ∃ x, wc.heap.size = x := ⟨_, rfl⟩
  exact tl48 _
open Go.RowKit
set_option maxRecDepth 100000 in
theorem rfall_any (i : Nat) (hi : i < 256) (w : World) : Calls Tryz.prog 110 #[.int .u8 i] w fun e w' => e = .returned (.int .u32 (halves 8 i)) ∧ w = w' := by
 go_enter Tryz.func110, Tryz.ntmps110
 go_wp2
 go_loop [3, 4] (fun xv kv => ∃ k : Nat, k ≤ 8 ∧ kv = .int .i64 k ∧ xv = .int .u32 (halves k i)) (fun _ kv => 8 - (intOf kv).toNat)
 case atStart => exact ⟨0, by decide, rfl, rfl⟩
 case round =>
  obtain ⟨k, hk, rfl, rfl⟩ := hrel
  have hx := halves_lt k (x := i) (by omega)
  have HS := Lib.hid (halves_succ k i)
  generalize hgx : halves k i = x at *
  have HX := Lib.hid hgx
  clear hgx
  by_cases h8 : k < 8
  ·by_cases ho : x % 2 = 1
   ·have e2 := bits_poly x hx
    have e1 : ((x : Int) % 2) = 1 := by omega
    exact tl33 _
   ·have e1 : ((x : Int) % 2) = 0 := by omega
    have HO := Lib.hid (half1_even ho)
    clear ho
    exact tl34 _
  ·obtain rfl : k = 8 := by omega
   clear HS hk h8
   go_wp2
   go_ret
   exact ⟨by rw [HX.out]; rfl, rfl⟩
set_option maxRecDepth 100000 in
set_option maxHeartbeats 1600000 in
theorem rsum_any (A : Option Addr) (n cap : Nat) (zs : List Int) (w : World) (h : Bs w A n cap zs) :
    Calls Tryz.prog 95 #[.slice A n cap] w fun e w' => e = .returned (.int .u32 (crcOf (natL zs))) ∧ w = w' := by
 have hle := h.le
 have hmax := h.max
 have HL := Lib.hid h.len
 have HB := Lib.hid h
 have HBY := Lib.hid h.byte
 clear h
 go_enter Tryz.func95, Tryz.ntmps95
 go_wp2
 go_loop [3, 4] (fun xv kv => ∃ k : Nat, k ≤ n ∧ kv = .int .i64 k ∧ xv = .int .u32 (crcRun 4294967295 (natL (zs.take k)))) (fun _ kv => n - (intOf kv).toNat)
 case atStart => exact ⟨0, Nat.zero_le _, rfl, rfl⟩
 case round =>
  obtain ⟨k, hk, rfl, rfl⟩ := hrel
  have hx : crcRun 4294967295 (natL (zs.take k)) < 4294967296 := crcRun_lt (by decide) (natL_lt (fun z hz => HBY.out z (List.mem_of_mem_take hz)))
  by_cases hlt : k < n
  ·obtain ⟨bl, of1, z, rfl, hz1, hza, hzb, hc1⟩ := HB.out.get hlt
   obtain ⟨c, rfl⟩ : ∃ c : Nat, z = c := ⟨z.toNat, by omega⟩
   have HS : Hid (crcRun 4294967295 (natL (zs.take (k + 1))) = crcStep (crcRun 4294967295 (natL (zs.take k))) c) := by
    show _ = _
    rw [natL_take zs k (by rw [HL.out]; exact hlt), crcRun_append, hz1]; rfl
   generalize crcRun 4294967295 (natL (zs.take k)) = x at *
   have hc : c < 256 := by omega
   have e1 : bits .xor .u8 ((x : Int) % 256) c = ((x % 256 ^^^ c : Nat) : Int) := u8_xor_nat (x % 256) c (Nat.mod_lt _ (by decide)) hc
   have hi : x % 256 ^^^ c < 256 := Nat.xor_lt_two_pow (n := 8) (Nat.mod_lt _ (by decide)) hc
   have e2 : bits .xor .u32 ((x : Int) / 256) (halves 8 (x % 256 ^^^ c) : Nat) = ((crcStep x c : Nat) : Int) := u32_xor_nat (x / 256) _ (by omega) (halves_lt 8 (by omega))
   have FA := Lib.hid (fun w => rfall_any (x % 256 ^^^ c) hi w)
   generalize crcStep x c = y at *
   generalize halves 8 (x % 256 ^^^ c) = hh at *
   generalize x % 256 ^^^ c = ii at *
   clear hz1
   go_wp2_with fail
   refine (FA.out _).mono ?_
   rintro e w' ⟨rfl, rfl⟩
   go_wp2
   go_round
   case rel => exact ⟨k + 1, by omega, by go_num, by rw [HS.out]⟩
   case measure => simp [intOf]; omega
  ·obtain rfl : k = n := by omega
   rw [List.take_of_length_le (by rw [HL.out]; exact Nat.le_refl _)] at hx ⊢
   have HF : Hid (crcOf (natL zs) = crcRun 4294967295 (natL zs) ^^^ 4294967295) := rfl
   generalize crcRun 4294967295 (natL zs) = x at *
   go_wp2
   go_ret
   exact ⟨by rw [HF.out, ← not32 x hx]; rfl, rfl⟩
open Go.RowKit
def initWords : List (List Char) := [['c', 'u', 't'],
  ['a', 't'],
  ['b', 'o', 'o', 't', 'j', 'a', 'c', 'k', '/', 'b', 'o', 'o', 't', 'j', 'a', 'c', 'k', 'l', 'a', 'w', '2', '3', '.', 'L', 'e', 'd', 'g', 'e', 'r', 'P', 'l', 'a', 'y', 's']]
def initChars : List Char := ['h', 'a', 'r', 'n', 'e', 's', 's', ' ', '2', '8', '0', 'd', '5', 'e', 'f', '7', '8', '8', '3', '4', 'c', 'e', 'f', '5', 'f', '2', '3', 'd', '7', '6', '2', '1', '9', '9', 'f', 'b', '4', 'b', '0', '0', '8', '0', '4', 'd', 'e', '9', 'b', '5', '4', 'e', '6', '7', '8', 'c', '3', '1', '8', '8', '6', 'd', '6', '7', 'a', '7', '7', 'e', '9', 'd', '7', '5', '1', '2', ' ', 'c', 'u', 't', ' ', 'a', 't', ' ', 'b', 'o', 'o', 't', 'j', 'a', 'c', 'k', '/', 'b', 'o', 'o', 't', 'j', 'a', 'c', 'k', 'l', 'a', 'w', '2', '3', '.', 'L', 'e', 'd', 'g', 'e', 'r', 'P', 'l', 'a', 'y', 's']
theorem init_of : Tryz.prog.initOrder = String.ofList initChars := by kernel_rfl
theorem init_split : behindMainWord (wordsSigns initChars) = initWords := by kernel_rfl
theorem init_words : behindMainWord (wordsSigns Tryz.checked.prog.initOrder.toList) = initWords := by
 have h : Tryz.checked.prog.initOrder = String.ofList initChars := init_of
 rw [h, String.toList_ofList]; exact init_split
theorem cut_chars : "cut".toList = ['c', 'u', 't'] := by rw [show ("cut" : String) = String.ofList ['c', 'u', 't'] from rfl, String.toList_ofList]
theorem strip_cut (rest : List (List Char)) : stripLifts liftWords (['c', 'u', 't'] :: rest) = ([], ['c', 'u', 't'] :: rest) := by kernel_rfl
theorem mayEnter_cut (P : Program) (rest : List (List Char)) (h : behindMainWord (wordsSigns P.initOrder.toList) = ['c', 'u', 't'] :: rest) (hl : P.laysLater = false) (hr : P.bearsReflect = false) (hd : P.doorRows = []) : P.mayEnter = true := by
 unfold Program.mayEnter
 rw [h]
 simp [strip_cut, cut_chars, hl, hr, Program.doorFits, hd]
theorem headLifts_cut (P : Program) (rest : List (List Char)) (h : behindMainWord (wordsSigns P.initOrder.toList) = ['c', 'u', 't'] :: rest) : P.headLifts = [] := by
 unfold Program.headLifts
 rw [h]
 simp [strip_cut, cut_chars]
theorem liftsFinal_cut (P : Program) (rest : List (List Char)) (h : behindMainWord (wordsSigns P.initOrder.toList) = ['c', 'u', 't'] :: rest) : P.liftsFinal = false := by
 unfold Program.liftsFinal
 rw [headLifts_cut P rest h, h]
 have : ('c' :: 'u' :: ['t'] == "carried".toList) = false := by decide
 simp [this]
theorem make_cut (P : Program) (rest : List (List Char)) (h : behindMainWord (wordsSigns P.initOrder.toList) = ['c', 'u', 't'] :: rest) : P.make = some .cut := by
 unfold Program.make
 rw [h]
 simp [cut_chars]
theorem closed_mayEnter : Tryz.checked.prog.mayEnter = true := mayEnter_cut _ _ init_words (by kernel_rfl) (by kernel_rfl) (by kernel_rfl)
theorem closed_lifts : Tryz.checked.prog.liftsFinal = false := liftsFinal_cut _ _ init_words
theorem closed_make : Tryz.checked.prog.make = some .cut := make_cut _ _ init_words
theorem closed_laid : laidOutB Tryz.checked.prog = true := by kernel_rfl
theorem closed_maps : mapsRowed Tryz.checked.prog = true := by kernel_rfl
theorem closed_heard : Tryz.checked.prog.stopsHeard = true := by kernel_rfl
theorem closed_plain : Tryz.checked.prog.plainKeys = true := by kernel_rfl
open Go.RowKit Go.ChangeShapes Go.WideShapes Go.ChangeAt
set_option maxRecDepth 100000
section
variable {H : Type} {enc : TypeId × Value → H} {w : World} {base : Nat} {spare : Nat → Bool} {held : Bool}
end
theorem putL_cons (k s : Int) (zs more : List Int) (hf : fitsR k s zs.length) : putL k s zs ++ more = k :: 0 :: ((zs.length : Int) % 256) :: ((zs.length : Int) / 256) :: ((s.toNat : Int) % 256) :: ((s.toNat : Int) / 256 % 256) :: ((s.toNat : Int) / 65536 % 256) :: ((s.toNat : Int) / 16777216) :: (zs ++ (List.replicate (padK zs.length) 0 ++ (tailL (frontL k s zs) ++ more))) := by
 unfold putL
 rw [if_pos hf]
 simp [frontL, headL, le4]
theorem putL_len (k s : Int) (zs : List Int) (hf : fitsR k s zs.length) : ((putL k s zs).length : Int) = sizeZ zs.length := by
 have h5 := hf.2.2.2.2
 have := putL_cons k s zs [] hf
 rw [List.append_nil] at this
 rw [this]
 have e : sizeZ zs.length = 16 + ((zs.length : Int) + 7) / 8 * 8 := if_neg (by omega)
 rw [e]
 have hp : padK zs.length = (8 - zs.length % 8) % 8 := rfl
 simp only [List.length_cons, List.length_append, List.length_replicate, tailL, le4, List.length_nil]
 omega
theorem get_put (k s : Int) (zs more : List Int) (hf : fitsR k s zs.length) : getL (putL k s zs ++ more) = some (k, s, zs, sizeZ zs.length) := by
 have hlen := putL_len k s zs hf
 have hc := putL_cons k s zs more hf
 obtain ⟨f1, f2, f3, f4, f5⟩ := hf
 have hs : sizeZ zs.length = 16 + ((zs.length : Int) + 7) / 8 * 8 := if_neg (by omega)
 have hn : ((zs.length : Int) % 256) + ((zs.length : Int) / 256) * 256 = zs.length := by omega
 have hq : ((s.toNat : Int) % 256) + ((s.toNat : Int) / 256 % 256) * 256 + ((s.toNat : Int) / 65536 % 256) * 65536 + ((s.toNat : Int) / 16777216) * 16777216 = s := by omega
 have hpl : (putL k s zs ++ more).length = (putL k s zs).length + more.length := List.length_append
 unfold getL
 rw [if_neg (by rw [hpl]; omega)]
 have g0 : (putL k s zs ++ more).getD 0 0 = k := by rw [hc]; rfl
 have g2 : (putL k s zs ++ more).getD 2 0 = (zs.length : Int) % 256 := by rw [hc]; rfl
 have g3 : (putL k s zs ++ more).getD 3 0 = (zs.length : Int) / 256 := by rw [hc]; rfl
 have g4 : (putL k s zs ++ more).getD 4 0 = (s.toNat : Int) % 256 := by rw [hc]; rfl
 have g5 : (putL k s zs ++ more).getD 5 0 = (s.toNat : Int) / 256 % 256 := by rw [hc]; rfl
 have g6 : (putL k s zs ++ more).getD 6 0 = (s.toNat : Int) / 65536 % 256 := by rw [hc]; rfl
 have g7 : (putL k s zs ++ more).getD 7 0 = (s.toNat : Int) / 16777216 := by rw [hc]; rfl
 have g8 : ((putL k s zs ++ more).drop 8).take zs.length = zs := by rw [hc]; simp
 simp only [g0, g2, g3, g4, g5, g6, g7, hn, hq, Int.toNat_natCast, g8]
 rw [if_neg (by rw [hpl]; omega), if_pos]
 rw [← hlen, Int.toNat_natCast, List.take_left']
 rfl
open Go.RowKit
def lowL : Nat → Nat → List Int
  | 0, _ => []
  | k + 1, n => ((n % 256 : Nat) : Int) :: lowL k (n / 256)
theorem lowL_len : ∀ (k n : Nat), (lowL k n).length = k
  | 0, _ => rfl
  | k + 1, n => by simp [lowL, lowL_len k]
theorem lowL_byte : ∀ (k n : Nat), ∀ z ∈ lowL k n, 0 ≤ z ∧ z ≤ 255
  | 0, _, z, h => by simp [lowL] at h
  | k + 1, n, z, h => by
    simp only [lowL, List.mem_cons] at h
    rcases h with rfl | h
    · omega
    · exact lowL_byte k _ z h
theorem lowL_snoc : ∀ (k n : Nat), lowL (k + 1) n = lowL k n ++ [((n / 256 ^ k % 256 : Nat) : Int)]
  | 0, n => by simp [lowL]
  | k + 1, n => by
    have h := lowL_snoc k (n / 256)
    rw [lowL, h, lowL]
    rw [Nat.div_div_eq_div_mul, show 256 * 256 ^ k = 256 ^ (k + 1) by rw [Nat.pow_succ, Nat.mul_comm]]
    rfl
def lowTo (m k n : Nat) : List Int := lowL k n ++ List.replicate (m - k) 0
theorem lowTo_len (m k n : Nat) (h : k ≤ m) : (lowTo m k n).length = m := by
 unfold lowTo; rw [List.length_append, lowL_len, List.length_replicate]; omega
theorem lowTo_set (m k n : Nat) (h : k < m) : (lowTo m k n).set k ((n / 256 ^ k % 256 : Nat) : Int) = lowTo m (k + 1) n := by
 unfold lowTo
 obtain ⟨q, hq⟩ : ∃ q, m - k = q + 1 := ⟨m - k - 1, by omega⟩
 rw [show m - (k + 1) = q by omega, hq, lowL_snoc, List.set_append_right k _ (by rw [lowL_len]; exact Nat.le_refl _), lowL_len, Nat.sub_self, List.replicate_succ]
 simp
theorem lowL_two (n : Nat) (h : n < 65536) : lowL 2 n = [(n : Int) % 256, (n : Int) / 256] := by
 simp only [lowL]
 congr 2
 omega
theorem lowL_four (n : Nat) (h : n < 4294967296) : lowL 4 n = le4 n := by
 simp only [lowL, le4, List.cons.injEq, and_true]
 refine ⟨?_, ?_, ?_, ?_⟩ <;> omega
def numN : List Int → Nat
  | [] => 0
  | z :: zs => z.toNat + 256 * numN zs
theorem numN_lt : ∀ (zs : List Int), (∀ z ∈ zs, 0 ≤ z ∧ z ≤ 255) → numN zs < 256 ^ zs.length
  | [], _ => by simp [numN]
  | z :: zs, h => by
    have h1 := h z List.mem_cons_self
    have h2 := numN_lt zs (fun y hy => h y (List.mem_cons_of_mem _ hy))
    rw [numN, List.length_cons, Nat.pow_succ]
    omega
theorem numN_low : ∀ (k n : Nat), n < 256 ^ k → numN (lowL k n) = n
  | 0, n, h => by simp at h; subst h; rfl
  | k + 1, n, h => by
    rw [lowL, numN, numN_low k (n / 256) (by rw [Nat.pow_succ] at h; omega)]
    omega
set_option maxRecDepth 100000 in
set_option maxHeartbeats 800000 in
theorem rslow_any (n m : Nat) (w : World) (hn : n < 18446744073709551616) (hm : m ≤ 64) : Calls Tryz.prog 62 #[.int .u64 (n : Int), .int .i64 (m : Int)] w (Cloned w (lowL m n)) := by
 have hmk := fun w => run_make_blk (P := Tryz.prog) 37 5 (.int .u8 0) 1 Tryz.underlying37 Tryz.info5 rfl .i64 .i64 (m : Int) (m : Int) m rfl rfl (by omega) (by omega) w
 go_enter Tryz.func62, Tryz.ntmps62
 go_wp2
 go_loopw [0, 6] (fun nv iv wr => ∃ k x : Nat, k ≤ m ∧ iv = .int .i64 (k : Int) ∧ nv = .int .u64 (x : Int) ∧ x < 18446744073709551616 ∧ Hid (x = n / 256 ^ k) ∧ Blk wr w.heap.size ((lowTo m k n).map (.int .u8)) 5 ∧ Keeps None w wr) (fun _ iv _ => m - (intOf iv).toNat)
 case atStart =>
  refine ⟨0, n, Nat.zero_le _, rfl, rfl, hn, by show _ = _; simp, ?_, (Keeps.refl _ _).alloc _⟩
  have := Blk.new w (List.replicate m (.int .u8 0)) 5
  have e : lowTo m 0 n = List.replicate m 0 := by simp [lowTo, lowL]
  rw [e]
  simpa using this
 case round =>
  obtain ⟨k, x, hk, rfl, rfl, hx, hxe, hb, hkp⟩ := hrel
  have HB := Lib.hid hb
  have HK := Lib.hid hkp
  by_cases hlt : k < m
  ·have c2 := hb.cellD k _ (map_getD 0 (show k < (lowTo m k n).length by rw [lowTo_len m k n hk]; exact hlt))
   have c3 := hb.frozen k
   clear hb hkp hmk
   go_wp2
   go_roundw
   case rel =>
    refine ⟨k + 1, x / 256, by omega, by go_num, by go_num, by omega, ?_, ?_, HK.out.setCell _ _ (by simp)⟩
    ·show x / 256 = n / 256 ^ (k + 1)
     rw [hxe.out, Nat.div_div_eq_div_mul, Nat.pow_succ]
    ·have := HB.out.set k (.int .u8 ((x % 256 : Nat) : Int))
     rw [← lowTo_set m k n hlt, List.map_set, ← hxe.out]
     exact this
   case measure => simp [intOf]; omega
  ·clear hb hkp hmk
   obtain rfl : k = m := by omega
   have fin : Own wr w.heap.size (.slice (some ⟨w.heap.size, 0, none⟩) k k) (lowL k n) := by
    have hb := HB.out
    have e : lowTo k k n = lowL k n := by simp [lowTo]
    rw [e] at hb
    refine ⟨⟨by simp [lowL_len], .inr ⟨w.heap.size, k, _, by simp [lowL_len], Nat.le_refl _, hb, by simp [lowL_len], by unfold maxLen; omega, by simp [lowL_len], by rw [lowL_len, List.take_of_length_le (by simp [lowL_len])]⟩⟩, lowL_byte k n⟩
   have FIN := Lib.hid fin
   clear fin
   go_wp2
   go_ret
   exact ⟨_, rfl, FIN.out, HK.out⟩
set_option maxRecDepth 100000 in
set_option maxHeartbeats 800000 in
theorem rsnumber_any (A : Option Addr) (n cap : Nat) (zs : List Int) (w : World) (h : Bs w A n cap zs) (hn : n ≤ 8) : Calls Tryz.prog 71 #[.slice A n cap] w fun e w' => e = .returned (.int .u64 ((numN zs : Nat) : Int)) ∧ w = w' := by
 have hle := h.le
 have hmax := h.max
 have HL := Lib.hid h.len
 have HB := Lib.hid h
 clear h
 go_enter Tryz.func71, Tryz.ntmps71
 go_wp2
 go_loop [3, 4] (fun nv iv => ∃ k : Nat, k ≤ n ∧ iv = .int .i64 ((k : Int) - 1) ∧ nv = .int .u64 ((numN (zs.drop k) : Nat) : Int)) (fun _ iv => (intOf iv + 1).toNat)
 case atStart => exact ⟨n, Nat.le_refl _, rfl, by rw [List.drop_eq_nil_of_le (by rw [HL.out]; exact Nat.le_refl _)]; rfl⟩
 case round =>
  obtain ⟨k, hk, rfl, rfl⟩ := hrel
  cases k with
  | zero =>
   rw [List.drop_zero]
   have e0 : ((0 : Nat) : Int) - 1 = -1 := rfl
   rw [e0]
   clear e0
   obtain ⟨x, hx⟩ : ∃ x, numN zs = x := ⟨_, rfl⟩
   have HX := Lib.hid hx
   rw [hx]
   clear hx
   go_wp2
   go_ret
   exact ⟨by rw [HX.out]; rfl, rfl⟩
  | succ k =>
   have hlt : k < n := by omega
   obtain ⟨bl, of1, z, rfl, hz1, hza, hzb, hc1⟩ := HB.out.get hlt
   obtain ⟨c, rfl⟩ : ∃ c : Nat, z = c := ⟨z.toNat, by omega⟩
   have e0 : ((k + 1 : Nat) : Int) - 1 = k := by omega
   rw [e0]
   have hd : zs.drop k = (c : Int) :: zs.drop (k + 1) := by
    rw [List.drop_eq_getElem_cons (by rw [HL.out]; exact hlt)]
    congr 1
    rw [← hz1]; simp [List.getD, HL.out, hlt]
   have HD : Hid (numN (zs.drop k) = numN (zs.drop (k + 1)) * 256 + c) := by
    show _ = _
    rw [hd, numN]; omega
   have hx : numN (zs.drop (k + 1)) < 72057594037927936 := by
    have h1 := numN_lt (zs.drop (k + 1)) (fun y hy => HB.out.byte y (List.mem_of_mem_drop hy))
    have h2 : 256 ^ (zs.drop (k + 1)).length ≤ 256 ^ 7 := Nat.pow_le_pow_right (by decide) (by rw [List.length_drop, HL.out]; omega)
    have h3 : (256 : Nat) ^ 7 = 72057594037927936 := by decide
    omega
   generalize numN (zs.drop (k + 1)) = x at *
   clear hz1 hd e0
   go_wp2
   go_round
   case rel => exact ⟨k, by omega, by first | rfl | go_num, by rw [HD.out]; go_num⟩
   case measure => simp [intOf]
set_option maxRecDepth 100000 in
theorem rssize_any (n : Int) (w : World) : Calls Tryz.prog 72 #[.int .i64 n] w fun e w' => e = .returned (.int .i64 (sizeZ n)) ∧ w = w' := by
 by_cases h1 : n < 0
 ·have d1 : decide (n < 0) = true := decide_eq_true h1
  have e : sizeZ n = 0 := if_pos (.inl h1)
  rw [e]
  go_enter Tryz.func72, Tryz.ntmps72
  go_wp2
  go_ret
  exact ⟨rfl, rfl⟩
 have d1 : decide (n < 0) = false := decide_eq_false h1
 by_cases h2 : 512 < n
 ·have d2 : decide (512 < n) = true := decide_eq_true h2
  have e : sizeZ n = 0 := if_pos (.inr h2)
  rw [e]
  go_enter Tryz.func72, Tryz.ntmps72
  go_wp2
  go_ret
  exact ⟨rfl, rfl⟩
 have d2 : decide (512 < n) = false := decide_eq_false h2
 have e : sizeZ n = (n + 7) / 8 * 8 + 16 := by unfold sizeZ; rw [if_neg (by omega)]; omega
 rw [e]
 have h3 : n ≤ 512 := by omega
 have h4 : 0 ≤ n := by omega
 obtain ⟨m, rfl⟩ : ∃ m : Nat, n = m := ⟨n.toNat, by omega⟩
 clear e
 go_enter Tryz.func72, Tryz.ntmps72
 go_wp2
 go_ret
 exact ⟨by first | rfl | (congr 1; simp; omega), rfl⟩
open Go.RowKit
def canN (os ns : List Int) : Bool := decide (os.length = ns.length ∧ ∀ i, i < os.length → bits .andNot .u8 (ns.getD i 0) (os.getD i 0) = 0)
def Told (b : Bool) (w : World) (e : Ending) (w' : World) : Prop := e = .returned (.bool b) ∧ ∃ m, w' = w.drewN m
set_option maxRecDepth 100000 in
set_option maxHeartbeats 800000 in
theorem can_any (A1 A2 : Option Addr) (n1 c1 n2 c2 : Nat) (os ns : List Int) (w : World) (h1 : Bs w A1 n1 c1 os) (h2 : Bs w A2 n2 c2 ns) :
    Calls Tryz.prog 129 #[.slice A1 n1 c1, .slice A2 n2 c2] w (Told (canN os ns) w) := by
 have m1 := h1.le
 have m2 := h1.max
 have m3 := h2.le
 have m4 := h2.max
 by_cases hn : n1 = n2
 ·subst hn
  have e1 : ((n1 : Int) != n1) = false := by simp
  have H1 := Lib.hid h1
  have H2 := Lib.hid h2
  clear h1 h2
  go_enter Tryz.func129, Tryz.ntmps129
  go_wp2
  go_loopw [13] (fun i wr => ∃ k m : Nat, k ≤ n1 ∧ i = .int .i64 k ∧ wr = w.drewN m ∧ ∀ i, i < k → bits .andNot .u8 (ns.getD i 0) (os.getD i 0) = 0) (fun i _ => n1 - (intOf i).toNat)
  case atStart => exact ⟨0, 0, Nat.zero_le _, rfl, rfl, fun i hi => by omega⟩
  case round =>
   obtain ⟨k, m, hkn, rfl, rfl, hall⟩ := hrel
   have HA := Lib.hid hall
   clear hall
   by_cases hlt : k < n1
   ·obtain ⟨b1, o1, z1, rfl, g1, _, _, cc1⟩ := H1.out.get hlt
    obtain ⟨b2, o2, z2, rfl, g2, _, _, cc2⟩ := H2.out.get hlt
    have G1 := Lib.hid g1
    have G2 := Lib.hid g2
    clear g1 g2
    by_cases hb : bits .andNot .u8 z2 z1 = 0
    ·have q : (bits .andNot .u8 z2 z1 != 0) = false := by simp [hb]
     have HB := Lib.hid hb
     clear hb
     go_wp2
     go_quiet (fail)
     go_wp2
     go_roundw
     case rel =>
      refine ⟨k + 1, m + nq, by omega, by go_num, (by first | rfl | rw [World.drewN_drewN]), fun i hi => ?_⟩
      by_cases h : i = k
      ·subst h; rw [G1.out, G2.out]; exact HB.out
      ·exact HA.out i (by omega)
     case measure => simp [intOf]; omega
    ·have q : (bits .andNot .u8 z2 z1 != 0) = true := by simp [hb]
     have fin : canN os ns = false := by
      simp only [canN, decide_eq_false_iff_not]
      intro h
      exact hb (by rw [← G1.out, ← G2.out]; exact h.2 k (by have := H1.out.len; omega))
     have FIN := Lib.hid fin
     clear hb fin
     go_wp2
     go_quiet (fail)
     go_wp2
     go_ret
     exact ⟨ret_bool FIN.out.symm, m + nq, by first | rfl | rw [World.drewN_drewN]⟩
   ·have fin : canN os ns = true := by
     simp only [canN, decide_eq_true_eq]
     have l1 := H1.out.len
     have l2 := H2.out.len
     exact ⟨by omega, fun i hi => HA.out i (by omega)⟩
    have FIN := Lib.hid fin
    clear fin
    go_wp2
    go_ret
    exact ⟨ret_bool FIN.out.symm, m, rfl⟩
 ·have e1 : ((n1 : Int) != n2) = true := by simp; omega
  have fin : canN os ns = false := by
   simp only [canN, decide_eq_false_iff_not]
   have l1 := h1.len
   have l2 := h2.len
   intro h; exact hn (by omega)
  rw [fin]
  clear fin h1 h2 hn
  go_enter Tryz.func129, Tryz.ntmps129
  go_wp2
  go_ret
  exact ⟨rfl, 0, rfl⟩
set_option maxRecDepth 100000 in
set_option maxHeartbeats 800000 in
theorem nat_any (A : Option Addr) (n cap : Nat) (zs : List Int) (i : Nat) (w : World) (h : Bs w A n cap zs) (hi : i < 9223372036854775807) :
    Calls Tryz.prog 130 #[.slice A n cap, .int .i64 i] w fun e w' => e = .returned (.int .u8 (zs.getD i 0)) ∧ w = w' := by
 have m1 := h.le
 have m2 := h.max
 by_cases hlt : i < n
 ·obtain ⟨b, off, z, rfl, g, _, _, cc⟩ := h.get hlt
  rw [g]
  clear g
  go_enter Tryz.func130, Tryz.ntmps130
  go_wp2
  go_ret
  exact ⟨rfl, rfl⟩
 ·have g : zs.getD i 0 = 0 := by
   have := h.len
   simp [List.getD, List.getElem?_eq_none (show zs.length ≤ i by omega)]
  rw [g]
  clear g
  go_enter Tryz.func130, Tryz.ntmps130
  go_wp2
  go_ret
  exact ⟨rfl, rfl⟩
theorem bits_or_bd (a b : Int) (h1 : 0 ≤ a ∧ a ≤ 255) (h2 : 0 ≤ b ∧ b ≤ 255) : 0 ≤ bits .or .u8 a b ∧ bits .or .u8 a b ≤ 255 := by
 rw [u8_or a b h1.1 (by omega) h2.1 (by omega)]
 have : a.toNat ||| b.toNat < 2 ^ 8 := Nat.or_lt_two_pow (by omega) (by omega)
 omega
theorem bits_and_bd (a b : Int) (h1 : 0 ≤ a ∧ a ≤ 255) (h2 : 0 ≤ b ∧ b ≤ 255) : 0 ≤ bits .and .u8 a b ∧ bits .and .u8 a b ≤ 255 := by
 rw [u8_and a b h1.1 (by omega) h2.1 (by omega)]
 have : a.toNat &&& b.toNat ≤ a.toNat := Nat.and_le_left
 omega
def progN (os ns : List Int) : List Int := if canN os ns then ns else []
theorem Cloned.from {w w1 w' : World} {zs : List Int} {e : Ending} (h : Cloned w1 zs e w') (k : Keeps None w w1) : Cloned w zs e w' := by
 obtain ⟨v, h1, h2, h3⟩ := h
 exact ⟨v, h1, h2.lower k.size, k.trans h3 (fun _ h => h) (fun _ _ h => h)⟩
theorem tl53 (P : Prop) (h : P := by
 go_wp2_with fail
 refine HC.out.mono ?_
 rintro e w1 ⟨rfl, m, rfl⟩
 go_wp2
 go_ret
 rw [FIN.out]
 exact ⟨_, rfl, Own.nil _ _, (Keeps.refl _ _).drewN m⟩) : P := h
set_option maxRecDepth 100000 in
set_option maxHeartbeats 800000 in
theorem program_any (A1 A2 : Option Addr) (n1 c1 n2 c2 : Nat) (os ns : List Int) (w : World) (h1 : Bs w A1 n1 c1 os) (h2 : Bs w A2 n2 c2 ns) (hn : n2 ≤ 140737488355328) :
    Calls Tryz.prog 119 #[.slice A1 n1 c1, .slice A2 n2 c2] w (Cloned w (progN os ns)) := by
 have HC := Lib.hid (can_any A1 A2 n1 c1 n2 c2 os ns w h1 h2)
 cases hc : canN os ns with
 | true =>
  rw [hc] at HC
  have fin : progN os ns = ns := by simp [progN, hc]
  have HK := Lib.hid fun m => clone_any A2 n2 c2 ns (w.drewN m) (h2.drewN m) hn
  have FIN := Lib.hid fin
  clear fin hc h1 h2
  go_enter Tryz.func119, Tryz.ntmps119
  go_wp2_with fail
  refine HC.out.mono ?_
  rintro e w1 ⟨rfl, m, rfl⟩
  go_wp2_with fail
  refine (HK.out m).mono ?_
  rintro e w1 ⟨v, rfl, ho, hk⟩
  go_wp2
  go_ret
  rw [FIN.out]
  exact Cloned.from ⟨v, rfl, ho, hk⟩ ((Keeps.refl _ _).drewN m)
 | false =>
  rw [hc] at HC
  have fin : progN os ns = [] := by simp [progN, hc]
  have FIN := Lib.hid fin
  clear fin hc h1 h2
  go_enter Tryz.func119, Tryz.ntmps119
  exact tl53 _
def tornAt (os ns ps : List Int) (i : Nat) : Int := bits .or .u8 (ns.getD i 0) (bits .and .u8 (os.getD i 0) (ps.getD i 0))
def tornTo (os ns ps : List Int) (k : Nat) : List Int := (List.range ns.length).map fun i => if i < k then tornAt os ns ps i else ns.getD i 0
def tornN (os ns ps : List Int) : List Int := if canN os ns then tornTo os ns ps ns.length else []
theorem range_set (n k : Nat) (f : Nat → Int) (v : Int) (hk : k < n) : ((List.range n).map f).set k v = (List.range n).map fun i => if i = k then v else f i := by
 apply List.ext_getElem?
 intro i
 by_cases hi : i < n
 ·by_cases h : k = i
  ·subst h; simp [hi]
  ·rw [List.getElem?_set_ne h]
   have h' : ¬ i = k := fun e => h e.symm
   simp [hi, h']
 ·have : ¬ k = i := by omega
  rw [List.getElem?_set_ne this]
  simp [hi]
theorem tornTo_zero (os ns ps : List Int) : tornTo os ns ps 0 = ns := by
 unfold tornTo
 apply List.ext_getElem?
 intro i
 by_cases hi : i < ns.length
 ·simp [hi]
 ·simp [hi]
theorem tl54 (P : Prop) (h : P := by
 rw [range_set _ _ _ _ hk]
 refine List.map_congr_left fun i _ => ?_
 by_cases h : i = k
 ·subst h; simp
 ·by_cases h2 : i < k
  ·simp [h, h2, show i < k + 1 by omega]
  ·simp [h, h2, show ¬ i < k + 1 by omega]) : P := h
theorem tornTo_succ (os ns ps : List Int) (k : Nat) (hk : k < ns.length) : (tornTo os ns ps k).set k (tornAt os ns ps k) = tornTo os ns ps (k + 1) := by
 unfold tornTo
 exact tl54 _
theorem tornTo_get (os ns ps : List Int) (k : Nat) (hk : k < ns.length) : (tornTo os ns ps k).getD k 0 = ns.getD k 0 := by
 unfold tornTo; simp [List.getD, hk]
theorem tornTo_length (os ns ps : List Int) (k : Nat) : (tornTo os ns ps k).length = ns.length := by simp [tornTo]
theorem tl55 (P : Prop) (h : P := by
 have FIN2 := Lib.hid fin
 have HO2 := Lib.hid hO
 have HK2 := Lib.hid hK
 clear hO hK fin HO
 go_wp2
 go_ret
 exact ⟨_, rfl, by rw [← FIN2.out]; exact HO2.out, HK2.out.mono (fun i hi h => absurd h (Nat.not_le.2 hi))⟩) : P := h
set_option maxRecDepth 100000 in
set_option maxHeartbeats 1600000 in
theorem torn_any (A1 A2 A3 : Option Addr) (n1 c1 n2 c2 n3 c3 : Nat) (os ns ps : List Int) (w : World) (h1 : Bs w A1 n1 c1 os) (h2 : Bs w A2 n2 c2 ns) (h3 : Bs w A3 n3 c3 ps) (hn : n2 ≤ 140737488355328) :
    Calls Tryz.prog 118 #[.slice A1 n1 c1, .slice A2 n2 c2, .slice A3 n3 c3] w (Cloned w (tornN os ns ps)) := by
 have HC := Lib.hid (can_any A1 A2 n1 c1 n2 c2 os ns w h1 h2)
 cases hc : canN os ns with
 | false =>
  rw [hc] at HC
  have fin : tornN os ns ps = [] := by simp [tornN, hc]
  have FIN := Lib.hid fin
  clear fin hc h1 h2 h3
  go_enter Tryz.func118, Tryz.ntmps118
  exact tl53 _
 | true =>
  rw [hc] at HC
  have hlen : os.length = ns.length := by simp only [canN, decide_eq_true_eq] at hc; exact hc.1
  have fin : tornN os ns ps = tornTo os ns ps ns.length := by simp [tornN, hc]
  have HK := Lib.hid fun m => clone_any A2 n2 c2 ns (w.drewN m) (h2.drewN m) hn
  have FIN := Lib.hid fin
  have hl1 := h1.len
  have hl2 := h2.len
  have e12 : n1 = n2 := by omega
  have hb2 := h2.byte
  have H1 := Lib.hid h1
  have H3 := Lib.hid h3
  have hle1 := h1.le
  have hmx1 := h1.max
  clear fin hc h1 h2 h3
  subst e12
  have HL1 := Lib.hid hl1
  have HL2 := Lib.hid hl2
  have HB2 := Lib.hid hb2
  clear hlen hl1 hl2 hb2
  go_enter Tryz.func118, Tryz.ntmps118
  go_wp2_with fail
  refine HC.out.mono ?_
  rintro e w1 ⟨rfl, m, rfl⟩
  go_wp2_with fail
  refine (HK.out m).mono ?_
  rintro e w1 ⟨v, rfl, ho, hk⟩
  obtain ⟨A, cap, hv, hbs, hfr⟩ := ho.shape
  rw [HL2.out] at hv hbs
  subst hv
  have hle := hbs.le
  have hmx := hbs.max
  have k1 : Keeps None w w1 := ⟨hk.os, hk.tape, hk.output, hk.size, hk.block⟩
  have HO := Lib.hid ho
  clear ho hbs hfr hk HC HK
  go_wp2
  go_loopw [17] (fun i wr => ∃ k : Nat, k ≤ n1 ∧ i = .int .i64 k ∧ Own wr w.heap.size (.slice A n1 cap) (tornTo os ns ps k) ∧ Keeps (fun b => w.heap.size ≤ b) w wr) (fun i _ => n1 - (intOf i).toNat)
  case atStart => exact ⟨0, Nat.zero_le _, rfl, by rw [tornTo_zero]; exact HO.out, k1.ofNone⟩
  case round =>
   obtain ⟨k, hkn, rfl, hO, hK⟩ := hrel
   by_cases hlt : k < n1
   ·obtain ⟨g, rfl, hg1, hg2, hgl, hle', hmx', hgc, hgf⟩ := hO.at_ hlt
    obtain ⟨b1, o1, z1, rfl, g1, z1a, z1b, cc0⟩ := H1.out.get hlt
    have hb1 : b1 < w.heap.size := by obtain ⟨b, off, e, hb, _⟩ := H1.out.at_ (by omega); cases e; exact hb
    have cc1 := (hK.cell (p := ⟨b1, o1 + k, none⟩) hb1 (by simp; exact hb1)).trans cc0
    have hP : Bs wr A3 n3 c3 ps := H3.out.later hK
    have hT : tornTo os ns ps k = tornTo os ns ps k := rfl
    have z2b := byte_getD HB2.out k
    rw [tornTo_get os ns ps k (by rw [HL2.out]; exact hlt)] at hgc
    have z3b := byte_getD hP.byte k
    have HT := Lib.hid (show bits .or .u8 (ns.getD k 0) (bits .and .u8 z1 (ps.getD k 0)) = tornAt os ns ps k from by rw [tornAt, g1])
    have NA := Lib.hid (nat_any A3 n3 c3 ps k wr.drew hP.drew (by omega))
    have z13 := bits_and_bd z1 (ps.getD k 0) ⟨z1a, z1b⟩ z3b
    have z4 := bits_or_bd (ns.getD k 0) _ z2b z13
    generalize ns.getD k 0 = z2 at *
    generalize ps.getD k 0 = z3 at *
    have HO2 := Lib.hid (hO.store rfl k _ z4 (by rw [tornTo_length, HL2.out]; exact hlt))
    have HK2 := Lib.hid hK
    clear hO hK hP hT g1 HO hgl
    go_wp2
    obtain ⟨mS, mh⟩ : ∃ S : World → Prop, ∀ w', S w' ↔ (w'.cell? ⟨g, k, none⟩ = some (.int .u8 z2) ∧ w'.cell? ⟨b1, o1 + k, none⟩ = some (.int .u8 z1)) := ⟨_, fun _ => Iff.rfl⟩
    have mk0 : ∀ x : Memb mS, x.at_.cell? ⟨g, k, none⟩ = some (.int .u8 z2) := fun x => ((mh _).1 x.is).1
    have mk1 : ∀ x : Memb mS, x.at_.cell? ⟨b1, o1 + k, none⟩ = some (.int .u8 z1) := fun x => ((mh _).1 x.is).2
    have mn : Nonempty (Memb mS) := ⟨⟨(wr).drew, (mh _).2 ⟨hgc, cc1⟩⟩⟩
    have mH := Lib.hid mh
    clear mh
    refine wp_region_mix [10, 14] (InS mS) (by kernel_rfl) (by kernel_rfl) (InS.mk ((mH.out _).2 ⟨hgc, cc1⟩)) ?_
    refine wpMix_seg 10 (by kernel_rfl) (by decide) ?_
    simp only [tds]
    repeat (go_big_quiet_step (fail))
    refine wpQuiet_nil ?_
    refine wpMix_eff (by kernel_rfl) ?_
    go_wp2_with fail
    refine NA.out.mono ?_
    rintro e w3 ⟨rfl, rfl⟩
    go_wp2
    refine MixK.on (InS.mk ((mH.out _).2 ⟨hgc, cc1⟩)) ?_
    refine wpMix_seg 3 (by kernel_rfl) (by decide) ?_
    simp only [tds]
    repeat (go_big_quiet_step (fail))
    refine wpQuiet_nil ?_
    refine wpMix_eff (by kernel_rfl) ?_
    go_wp2
    refine MixK.last (by kernel_rfl) ?_
    refine wpMix_nil ?_
    clear mk0 mk1 mn mH
    go_wp2
    go_roundw
    case rel =>
     refine ⟨k + 1, by omega, by go_num, ?_, ?_⟩
     ·rw [← tornTo_succ os ns ps k (by rw [HL2.out]; exact hlt), ← HT.out]; exact HO2.out.drew
     ·exact (HK2.out.setCell _ _ (fun _ => hg1)).drew
    case measure => simp [intOf]; omega
   ·have e : k = n1 := by omega
    subst e
    have fin : tornTo os ns ps k = tornN os ns ps := by rw [FIN.out, HL2.out]
    exact tl55 _
open Go.RowKit
def halfAt (os ps : List Int) (i : Nat) : Int := bits .or .u8 (os.getD i 0) (ps.getD i 0)
def halfTo (os ps : List Int) (k : Nat) : List Int := (List.range os.length).map fun i => if i < k then halfAt os ps i else os.getD i 0
def halfN (os ps : List Int) : List Int := halfTo os ps os.length
theorem halfTo_zero (os ps : List Int) : halfTo os ps 0 = os := by
 unfold halfTo
 apply List.ext_getElem?
 intro i
 by_cases hi : i < os.length
 ·simp [hi]
 ·simp [hi]
theorem halfTo_succ (os ps : List Int) (k : Nat) (hk : k < os.length) : (halfTo os ps k).set k (halfAt os ps k) = halfTo os ps (k + 1) := by
 unfold halfTo
 exact tl54 _
theorem halfTo_get (os ps : List Int) (k : Nat) (hk : k < os.length) : (halfTo os ps k).getD k 0 = os.getD k 0 := by
 unfold halfTo; simp [List.getD, hk]
theorem halfTo_length (os ps : List Int) (k : Nat) : (halfTo os ps k).length = os.length := by simp [halfTo]
set_option maxRecDepth 100000 in
set_option maxHeartbeats 1600000 in
theorem half_any (A1 A3 : Option Addr) (n1 c1 n3 c3 : Nat) (os ps : List Int) (w : World) (h1 : Bs w A1 n1 c1 os) (h3 : Bs w A3 n3 c3 ps) (hn : n1 ≤ 140737488355328) :
    Calls Tryz.prog 131 #[.slice A1 n1 c1, .slice A3 n3 c3] w (Cloned w (halfN os ps)) := by
 have HK := Lib.hid (clone_any A1 n1 c1 os w h1 hn)
 have hl2 := h1.len
 have hb2 := h1.byte
 have H3 := Lib.hid h3
 clear h1 h3
 have FIN : Hid (halfN os ps = halfTo os ps os.length) := rfl
 have HL2 := Lib.hid hl2
 have HB2 := Lib.hid hb2
 clear hl2 hb2
 go_enter Tryz.func131, Tryz.ntmps131
 go_wp2_with fail
 refine HK.out.mono ?_
 rintro e w1 ⟨v, rfl, ho, hk⟩
 obtain ⟨A, cap, hv, hbs, hfr⟩ := ho.shape
 rw [HL2.out] at hv hbs
 subst hv
 have hle := hbs.le
 have hmx := hbs.max
 have HO := Lib.hid ho
 have K1 := Lib.hid hk
 clear ho hbs hfr hk HK
 go_wp2
 go_loopw [11] (fun i wr => ∃ k : Nat, k ≤ n1 ∧ i = .int .i64 k ∧ Own wr w.heap.size (.slice A n1 cap) (halfTo os ps k) ∧ Keeps (fun b => w.heap.size ≤ b) w wr) (fun i _ => n1 - (intOf i).toNat)
 case atStart => exact ⟨0, Nat.zero_le _, rfl, by rw [halfTo_zero]; exact HO.out, K1.out.ofNone⟩
 case round =>
  obtain ⟨k, hkn, rfl, hO, hK⟩ := hrel
  by_cases hlt : k < n1
  ·obtain ⟨g, rfl, hg1, hg2, hgl, hle', hmx', hgc, hgf⟩ := hO.at_ hlt
   have hP : Bs wr A3 n3 c3 ps := H3.out.later hK
   have z2b := byte_getD HB2.out k
   rw [halfTo_get os ps k (by rw [HL2.out]; exact hlt)] at hgc
   have z3b := byte_getD hP.byte k
   have HT : Hid (bits .or .u8 (os.getD k 0) (ps.getD k 0) = halfAt os ps k) := rfl
   have NA := Lib.hid (nat_any A3 n3 c3 ps k wr.drew hP.drew (by omega))
   have z4 := bits_or_bd (os.getD k 0) _ z2b z3b
   generalize os.getD k 0 = z2 at *
   generalize ps.getD k 0 = z3 at *
   have HO2 := Lib.hid (hO.store rfl k _ z4 (by rw [halfTo_length, HL2.out]; exact hlt))
   have HK2 := Lib.hid hK
   clear hO hK hP HO hgl
   go_wp2
   obtain ⟨mS, mh⟩ : ∃ S : World → Prop, ∀ w', S w' ↔ (w'.cell? ⟨g, k, none⟩ = some (.int .u8 z2)) := ⟨_, fun _ => Iff.rfl⟩
   have mk0 : ∀ x : Memb mS, x.at_.cell? ⟨g, k, none⟩ = some (.int .u8 z2) := fun x => ((mh _).1 x.is)
   have mn : Nonempty (Memb mS) := ⟨⟨(wr).drew, (mh _).2 (hgc)⟩⟩
   have mH := Lib.hid mh
   clear mh
   refine wp_region_mix [6, 9] (InS mS) (by kernel_rfl) (by kernel_rfl) (InS.mk ((mH.out _).2 (hgc))) ?_
   refine wpMix_seg 6 (by kernel_rfl) (by decide) ?_
   simp only [tds]
   repeat (go_big_quiet_step (fail))
   refine wpQuiet_nil ?_
   refine wpMix_eff (by kernel_rfl) ?_
   go_wp2_with fail
   refine NA.out.mono ?_
   rintro e w3 ⟨rfl, rfl⟩
   go_wp2
   refine MixK.on (InS.mk ((mH.out _).2 (hgc))) ?_
   refine wpMix_seg 2 (by kernel_rfl) (by decide) ?_
   simp only [tds]
   repeat (go_big_quiet_step (fail))
   refine wpQuiet_nil ?_
   refine wpMix_eff (by kernel_rfl) ?_
   go_wp2
   refine MixK.last (by kernel_rfl) ?_
   refine wpMix_nil ?_
   clear mk0 mn mH
   go_wp2
   go_roundw
   case rel =>
    refine ⟨k + 1, by omega, by go_num, ?_, ?_⟩
    ·rw [← halfTo_succ os ps k (by rw [HL2.out]; exact hlt), ← HT.out]; exact HO2.out.drew
    ·exact (HK2.out.setCell _ _ (fun _ => hg1)).drew
   case measure => simp [intOf]; omega
  ·have e : k = n1 := by omega
   subst e
   have fin : halfTo os ps k = halfN os ps := by rw [FIN.out, HL2.out]
   exact tl55 _
def blankN (n : Int) : List Int := List.replicate (max 0 (min n 65536)).toNat 255
def blankTo (n k : Nat) : List Int := List.replicate k 255 ++ List.replicate (n - k) 0
theorem blankTo_set (n k : Nat) (h : k < n) : (blankTo n k).set k 255 = blankTo n (k + 1) := by
 unfold blankTo
 obtain ⟨m, rfl⟩ : ∃ m, n = k + 1 + m := ⟨n - (k + 1), by omega⟩
 rw [show k + 1 + m - k = m + 1 by omega, show k + 1 + m - (k + 1) = m by omega, List.replicate_succ, List.set_append]
 simp [List.replicate_succ', List.append_assoc]
theorem blankTo_length (n k : Nat) (h : k ≤ n) : (blankTo n k).length = n := by simp [blankTo]; omega
theorem blankTo_zero (n : Nat) : blankTo n 0 = List.replicate n 0 := by simp [blankTo]
theorem blankTo_all (n : Nat) : blankTo n n = List.replicate n 255 := by simp [blankTo]
set_option maxHeartbeats 400000 in
theorem cap_any (n lo hi : Int) (h : lo ≤ hi) (w : World) :
    Calls Tryz.prog 27 #[.int .i64 n, .int .i64 lo, .int .i64 hi] w fun e w' => e = .returned (.int .i64 (max lo (min n hi))) ∧ w = w' := by
 go_enter Tryz.func27, Tryz.ntmps27
 go_wp2
 all_goals (go_ret; refine ⟨ret_int ?_, rfl⟩; omega)
theorem tl57 (P : Prop) (h : P := by
 refine ⟨0, Nat.zero_le _, rfl, ?_, (Keeps.refl _ _).alloc _⟩
 have := Blk.new w (List.replicate m (.int .u8 0)) 5
 rw [blankTo_zero]
 simpa using this) : P := h
theorem tl60 (P : Prop) (h : P := by
 refine ⟨k + 1, by omega, by go_num, ?_, hkp.setCell _ _ (by simp)⟩
 have := HB.out.set k (.int .u8 255)
 rw [← blankTo_set m k hlt, List.map_set]; exact this) : P := h
theorem tl59 (P : Prop) (h : P := by
 have c2 := hb.cellD k _ (map_getD 0 (show k < (blankTo m k).length by rw [blankTo_length m k hk]; exact hlt))
 have c3 := hb.frozen k
 clear hb
 go_wp2
 go_roundw
 case rel =>
  exact tl60 _
 case measure => simp [intOf]; omega) : P := h
theorem tl62 (P : Prop) (h : P := by
 have hb := HB.out
 rw [blankTo_all] at hb
 refine ⟨⟨by simp, .inr ⟨w.heap.size, k, _, by simp, Nat.le_refl _, hb, by simp, by unfold maxLen; omega, by simp, by simp⟩⟩, fun z hz => ?_⟩
 rw [(List.mem_replicate.1 hz).2]; decide) : P := h
theorem tl61 (P : Prop) (h : P := by
 clear hb
 obtain rfl : k = m := by omega
 have fin : Own wr w.heap.size (.slice (some ⟨w.heap.size, 0, none⟩) k k) (List.replicate k 255) := by
  exact tl62 _
 have FIN := Lib.hid fin
 clear fin
 go_wp2
 go_ret
 exact ⟨_, rfl, FIN.out, hkp⟩) : P := h
theorem tl58 (P : Prop) (h : P := by
 obtain ⟨k, hk, rfl, hb, hkp⟩ := hrel
 have HB := Lib.hid hb
 by_cases hlt : k < m
 ·exact tl59 _
 ·exact tl61 _) : P := h
theorem tl56 (P : Prop) (h : P := by
 have hmk := fun w => run_make_blk (P := Tryz.prog) 37 5 (.int .u8 0) 1 Tryz.underlying37 Tryz.info5 rfl .i64 .i64 _ _ m hL hL (by omega) (by omega) w
 clear hL
 go_enter Tryz.func26, Tryz.ntmps26
 go_wp2_with fail
 go_loopw [11] (fun i wr => ∃ k : Nat, k ≤ m ∧ i = .int .i64 k ∧ Blk wr w.heap.size ((blankTo m k).map (.int .u8)) 5 ∧ Keeps None w wr) (fun i _ => m - (intOf i).toNat)
 case atStart =>
  exact tl57 _
 case round =>
  exact tl58 _) : P := h
set_option maxRecDepth 100000 in
set_option maxHeartbeats 800000 in
theorem blank_mid (n : Int)  (m : Nat) (w : World) (hm : m ≤ 65536) (hn : 0 < n ∧ n ≤ 65536) (hL : n = (m : Int))  :
    Calls Tryz.prog 26 #[.int .i64 n] w (Cloned w (List.replicate m 255)) := by
 exact tl56 _
set_option maxRecDepth 100000 in
set_option maxHeartbeats 800000 in
theorem blank_low (n : Int)  (m : Nat) (w : World) (hm : m ≤ 65536) (hn : n ≤ 0) (hL : 0 = (m : Int))  :
    Calls Tryz.prog 26 #[.int .i64 n] w (Cloned w (List.replicate m 255)) := by
 exact tl56 _
set_option maxRecDepth 100000 in
set_option maxHeartbeats 800000 in
theorem blank_high (n : Int)  (m : Nat) (w : World) (hm : m ≤ 65536) (hn : 65536 < n) (hL : 65536 = (m : Int))  :
    Calls Tryz.prog 26 #[.int .i64 n] w (Cloned w (List.replicate m 255)) := by
 exact tl56 _
set_option maxRecDepth 100000 in
set_option maxHeartbeats 800000 in
theorem rblank_core (n : Int) (c : Int) (m : Nat) (w : World) (hm : m ≤ 65536) (hn : True) (hL : c = (m : Int)) (hcap : ∀ w, Calls Tryz.prog 27 #[.int .i64 n, .int .i64 0, .int .i64 65536] w fun e w' => e = .returned (.int .i64 c) ∧ w = w') :
    Calls Tryz.prog 28 #[.int .i64 n] w (Cloned w (List.replicate m 255)) := by
 have hmk := fun w => run_make_blk (P := Tryz.prog) 37 5 (.int .u8 0) 1 Tryz.underlying37 Tryz.info5 rfl .i64 .i64 _ _ m hL hL (by omega) (by omega) w
 clear hL
 go_enter Tryz.func28, Tryz.ntmps28
 go_wp2_with (go_at_call 27; refine (hcap _).mono ?_; rintro e w' ⟨rfl, rfl⟩)
 go_loopw [4] (fun i wr => ∃ k : Nat, k ≤ m ∧ i = .int .i64 k ∧ Blk wr w.heap.size ((blankTo m k).map (.int .u8)) 5 ∧ Keeps None w wr) (fun i _ => m - (intOf i).toNat)
 case atStart =>
  exact tl57 _
 case round =>
  exact tl58 _
theorem blank_any (n : Int) (w : World) : Calls Tryz.prog 26 #[.int .i64 n] w (Cloned w (blankN n)) := by
 unfold blankN
 by_cases h1 : n ≤ 0
 ·have e : (max 0 (min n 65536)).toNat = 0 := by omega
  rw [e]
  exact blank_low n 0 w (by omega) h1 rfl
 ·by_cases h2 : n ≤ 65536
  ·have e : (max 0 (min n 65536)).toNat = n.toNat := by omega
   rw [e]
   exact blank_mid n n.toNat w (by omega) ⟨by omega, h2⟩ (by omega)
  ·have e : (max 0 (min n 65536)).toNat = 65536 := by omega
   rw [e]
   exact blank_high n 65536 w (by omega) (by omega) rfl
theorem rblank_any (n : Int) (w : World) : Calls Tryz.prog 28 #[.int .i64 n] w (Cloned w (blankN n)) :=
  rblank_core n (max 0 (min n 65536)) _ w (by omega) trivial (by omega) (fun w => cap_any n 0 65536 (by decide) w)
def blankB (zs : List Int) : Bool := decide (∀ i, i < zs.length → zs.getD i 0 = 255)
set_option maxHeartbeats 400000 in
theorem isBlank1_any (z : Int) (w : World) : Calls Tryz.prog 114 #[.int .u8 z] w fun e w' => e = .returned (.bool (z != 255)) ∧ w = w' := by
 go_enter Tryz.func114, Tryz.ntmps114
 go_wp2
 all_goals (go_ret; exact ⟨rfl, rfl⟩)
def Indexed (zs : List Int) (w : World) (e : Ending) (w' : World) : Prop := ∃ i : Int, e = .returned (.int .i64 i) ∧ w = w' ∧ -1 ≤ i ∧ i < 9223372036854775807 ∧ (0 ≤ i ↔ blankB zs = false)
theorem tl63 (P : Prop) (h : P := by
 simp only [blankB, decide_eq_false_iff_not]
 intro h
 exact hz (by rw [← G.out]; exact h k (by have := H.out.len; omega))) : P := h
set_option maxRecDepth 100000 in
set_option maxHeartbeats 800000 in
theorem indexFunc_any (A : Option Addr) (n cap : Nat) (zs : List Int) (w : World) (h : Bs w A n cap zs) :
    Calls Tryz.prog 127 #[.slice A n cap, .func (.func 114) #[] #[]] w (Indexed zs w) := by
 have m1 := h.le
 have m2 := h.max
 have H := Lib.hid h
 clear h
 go_enter Tryz.func127, Tryz.ntmps127
 go_wp2
 go_loop [8] (fun i => ∃ k : Nat, k ≤ n ∧ i = .int .i64 k ∧ ∀ i, i < k → zs.getD i 0 = 255) (fun i => n - (intOf i).toNat)
 case atStart => exact ⟨0, Nat.zero_le _, rfl, fun i hi => by omega⟩
 case round =>
  obtain ⟨k, hkn, rfl, hall⟩ := hrel
  have HA := Lib.hid hall
  clear hall
  by_cases hlt : k < n
  ·obtain ⟨b, off, z, rfl, g, z1, z2, cc⟩ := H.out.get hlt
   have G := Lib.hid g
   clear g
   by_cases hz : z = 255
   ·have q : (z != 255) = false := by simp [hz]
    have HZ := Lib.hid hz
    clear hz
    go_wp2_with (go_at_call 114; refine (isBlank1_any _ _).mono ?_; rintro e w' ⟨rfl, rfl⟩)
    go_round
    case rel =>
     refine ⟨k + 1, by omega, by go_num, fun i hi => ?_⟩
     by_cases h : i = k
     ·subst h; rw [G.out]; exact HZ.out
     ·exact HA.out i (by omega)
    case measure => simp [intOf]; omega
   ·have q : (z != 255) = true := by simp [hz]
    have fin : blankB zs = false := by
     exact tl63 _
    have FIN := Lib.hid fin
    clear hz fin
    go_wp2_with (go_at_call 114; refine (isBlank1_any _ _).mono ?_; rintro e w' ⟨rfl, rfl⟩)
    go_ret
    exact ⟨k, rfl, rfl, by omega, by omega, fun _ => FIN.out, fun _ => by omega⟩
  ·have fin : blankB zs = true := by
    simp only [blankB, decide_eq_true_eq]
    have l1 := H.out.len
    exact fun i hi => HA.out i (by omega)
   have FIN := Lib.hid fin
   clear fin
   go_wp2
   go_ret
   exact ⟨-1, rfl, rfl, by omega, by omega, fun h => by omega, fun h => by rw [FIN.out] at h; cases h⟩
set_option maxRecDepth 100000 in
set_option maxHeartbeats 800000 in
theorem containsFunc_any (A : Option Addr) (n cap : Nat) (zs : List Int) (w : World) (h : Bs w A n cap zs) :
    Calls Tryz.prog 113 #[.slice A n cap, .func (.func 114) #[] #[]] w fun e w' => e = .returned (.bool (!blankB zs)) ∧ w = w' := by
 have HI := Lib.hid (indexFunc_any A n cap zs w h)
 clear h
 go_enter Tryz.func113, Tryz.ntmps113
 go_wp2_with fail
 refine HI.out.mono ?_
 rintro e w1 ⟨i, rfl, rfl, i1, i2, i3⟩
 have fin : decide (0 ≤ i) = !blankB zs := by
  cases hb : blankB zs
  ·simp [hb] at i3 ⊢; exact i3
  ·simp [hb] at i3 ⊢; exact i3
 have FIN := Lib.hid fin
 clear i3 fin
 go_wp2
 go_ret
 exact ⟨ret_bool FIN.out, rfl⟩
set_option maxHeartbeats 400000 in
theorem isBlank_any (A : Option Addr) (n cap : Nat) (zs : List Int) (w : World) (h : Bs w A n cap zs) :
    Calls Tryz.prog 100 #[.slice A n cap] w fun e w' => e = .returned (.bool (blankB zs)) ∧ w = w' := by
 have HI := Lib.hid (containsFunc_any A n cap zs w h)
 clear h
 generalize blankB zs = b at *
 go_enter Tryz.func100, Tryz.ntmps100
 go_wp2_with fail
 refine HI.out.mono ?_
 rintro e w1 ⟨rfl, rfl⟩
 go_wp2
 go_ret
 exact ⟨ret_bool (by simp), rfl⟩
open Go.RowKit
theorem andNot_zero (a b : Nat) (ha : a < 256) (hb : b < 256) : a &&& (255 - b) = 0 ↔ a &&& b = a := by
 have e : ∀ i, (255 - b).testBit i = (decide (i < 8) && !b.testBit i) := fun i => by
  have := Nat.testBit_two_pow_sub_succ (x := b) (n := 8) hb i
  rwa [show 2 ^ 8 - (b + 1) = 255 - b by omega] at this
 have ha8 : ∀ i, a.testBit i = true → i < 8 := fun i hi => by
  rcases Nat.lt_or_ge i 8 with h | h
  ·exact h
  ·rw [Nat.testBit_lt_two_pow (Nat.lt_of_lt_of_le ha (by have := Nat.pow_le_pow_right (show 0 < 2 by decide) h; simpa using this))] at hi; cases hi
 constructor
 ·intro h
  apply Nat.eq_of_testBit_eq
  intro i
  have h2 : (a &&& (255 - b)).testBit i = false := by rw [h]; simp
  rw [Nat.testBit_and, e] at h2
  rw [Nat.testBit_and]
  cases hai : a.testBit i
  ·simp
  ·have := ha8 i hai
   simpa [hai, this] using h2
 ·intro h
  apply Nat.eq_of_testBit_eq
  intro i
  have h2 : (a &&& b).testBit i = a.testBit i := by rw [h]
  rw [Nat.testBit_and] at h2
  rw [Nat.testBit_and, e]
  cases hai : a.testBit i
  ·simp
  ·rw [hai] at h2
   have : b.testBit i = true := by simpa using h2
   simp [this]
theorem bits_andNot_zero (a b : Int) (ha : 0 ≤ a ∧ a ≤ 255) (hb : 0 ≤ b ∧ b ≤ 255) : bits .andNot .u8 a b = 0 ↔ a.toNat &&& b.toNat = a.toNat := by
 rw [u8_andNot a b ha.1 (by omega) hb.1 (by omega)]
 have := andNot_zero a.toNat b.toNat (by omega) (by omega)
 constructor
 ·intro h; exact this.1 (by omega)
 ·intro h; have := this.2 h; omega
theorem canN_iff {os ns : List Int} (ho : ∀ z ∈ os, 0 ≤ z ∧ z ≤ 255) (hn : ∀ z ∈ ns, 0 ≤ z ∧ z ≤ 255) :
    canN os ns = true ↔ os.length = ns.length ∧ ∀ i, (ns.getD i 0).toNat &&& (os.getD i 0).toNat = (ns.getD i 0).toNat := by
 simp only [canN, decide_eq_true_eq]
 constructor
 ·rintro ⟨h1, h2⟩
  refine ⟨h1, fun i => ?_⟩
  by_cases hi : i < os.length
  ·exact (bits_andNot_zero _ _ (byte_getD hn i) (byte_getD ho i)).1 (h2 i hi)
  ·have e1 : ns.getD i 0 = 0 := by simp [List.getD, List.getElem?_eq_none (show ns.length ≤ i by omega)]
   rw [e1]; simp
 ·rintro ⟨h1, h2⟩
  exact ⟨h1, fun i _ => (bits_andNot_zero _ _ (byte_getD hn i) (byte_getD ho i)).2 (h2 i)⟩
theorem canN_refl {os : List Int} (ho : ∀ z ∈ os, 0 ≤ z ∧ z ≤ 255) : canN os os = true := (canN_iff ho ho).2 ⟨rfl, fun i => Nat.and_self _⟩
theorem canN_anti {os ns : List Int} (ho : ∀ z ∈ os, 0 ≤ z ∧ z ≤ 255) (hn : ∀ z ∈ ns, 0 ≤ z ∧ z ≤ 255) (h1 : canN os ns = true) (h2 : canN ns os = true) : os = ns := by
 obtain ⟨l1, h1⟩ := (canN_iff ho hn).1 h1
 obtain ⟨_, h2⟩ := (canN_iff hn ho).1 h2
 apply List.ext_getElem?
 intro i
 by_cases hi : i < os.length
 ·have e : (os.getD i 0).toNat = (ns.getD i 0).toNat := by
   have a1 := h1 i
   have a2 := h2 i
   rw [Nat.and_comm] at a2
   omega
  have b1 := byte_getD ho i
  have b2 := byte_getD hn i
  have : os.getD i 0 = ns.getD i 0 := by omega
  rw [getD_get 0 hi, getD_get 0 (show i < ns.length by omega)] at this
  rw [List.getElem?_eq_getElem hi, List.getElem?_eq_getElem (show i < ns.length by omega), this]
 ·rw [List.getElem?_eq_none (by omega), List.getElem?_eq_none (by omega)]
theorem canN_trans {zs bs cs : List Int} (ha : ∀ z ∈ zs, 0 ≤ z ∧ z ≤ 255) (hb : ∀ z ∈ bs, 0 ≤ z ∧ z ≤ 255) (hc : ∀ z ∈ cs, 0 ≤ z ∧ z ≤ 255) (h1 : canN zs bs = true) (h2 : canN bs cs = true) : canN zs cs = true := by
 obtain ⟨l1, h1⟩ := (canN_iff ha hb).1 h1
 obtain ⟨l2, h2⟩ := (canN_iff hb hc).1 h2
 refine (canN_iff ha hc).2 ⟨by omega, fun i => ?_⟩
 rw [← h2 i, Nat.and_assoc, h1 i]
open Go.RowKit
def edTo (f : Nat → Int) (os : List Int) (k : Nat) : List Int := (List.range os.length).map fun i => if i < k then f i else os.getD i 0
theorem edTo_zero (f : Nat → Int) (os : List Int) : edTo f os 0 = os := by
 unfold edTo
 apply List.ext_getElem?
 intro i
 by_cases hi : i < os.length <;> simp [List.getD, hi]
theorem edTo_succ (f : Nat → Int) (os : List Int) (k : Nat) (hk : k < os.length) : (edTo f os k).set k (f k) = edTo f os (k + 1) := by
 unfold edTo
 rw [range_set _ _ _ _ hk]
 refine List.map_congr_left fun i _ => ?_
 by_cases h1 : i = k
 ·subst h1; simp
 ·by_cases h2 : i < k
  ·rw [if_neg h1, if_pos h2, if_pos (by omega)]
  ·rw [if_neg h1, if_neg h2, if_neg (by omega)]
theorem edTo_length (f : Nat → Int) (os : List Int) (k : Nat) : (edTo f os k).length = os.length := by simp [edTo]
theorem edTo_getD (f : Nat → Int) (os : List Int) (k i : Nat) : (edTo f os k).getD i 0 = if i < os.length then (if i < k then f i else os.getD i 0) else 0 := by
 by_cases hi : i < os.length <;> simp [edTo, List.getD, hi]
theorem land_lor (a b : Nat) : a &&& (a ||| b) = a := by
 apply Nat.eq_of_testBit_eq; intro i; simp only [Nat.testBit_and, Nat.testBit_or]; cases a.testBit i <;> simp
theorem tornTo_getD (os ns ps : List Int) (k i : Nat) : (tornTo os ns ps k).getD i 0 = if i < ns.length then (if i < k then tornAt os ns ps i else ns.getD i 0) else 0 := by
 by_cases hi : i < ns.length <;> simp [tornTo, List.getD, hi]
theorem tornAt_byte {os ns ps : List Int} (ho : ∀ z ∈ os, 0 ≤ z ∧ z ≤ 255) (hn : ∀ z ∈ ns, 0 ≤ z ∧ z ≤ 255) (hp : ∀ z ∈ ps, 0 ≤ z ∧ z ≤ 255) (i : Nat) : 0 ≤ tornAt os ns ps i ∧ tornAt os ns ps i ≤ 255 :=
  bits_or_bd _ _ (byte_getD hn i) (bits_and_bd _ _ (byte_getD ho i) (byte_getD hp i))
theorem tornN_byte {os ns ps : List Int} (ho : ∀ z ∈ os, 0 ≤ z ∧ z ≤ 255) (hn : ∀ z ∈ ns, 0 ≤ z ∧ z ≤ 255) (hp : ∀ z ∈ ps, 0 ≤ z ∧ z ≤ 255) : ∀ z ∈ tornN os ns ps, 0 ≤ z ∧ z ≤ 255 := by
 unfold tornN
 split
 ·intro z hz
  obtain ⟨i, _, rfl⟩ := List.mem_map.1 hz
  split
  ·exact tornAt_byte ho hn hp i
  ·exact byte_getD hn i
 ·simp
theorem canN_torn {os ns ps : List Int} (ho : ∀ z ∈ os, 0 ≤ z ∧ z ≤ 255) (hn : ∀ z ∈ ns, 0 ≤ z ∧ z ≤ 255) (hp : ∀ z ∈ ps, 0 ≤ z ∧ z ≤ 255) (hc : canN os ns = true) : canN (tornN os ns ps) ns = true := by
 refine (canN_iff (tornN_byte ho hn hp) hn).2 ⟨by rw [tornN, if_pos hc, tornTo_length], fun i => ?_⟩
 rw [tornN, if_pos hc, tornTo_getD]
 split
 ·have a := byte_getD ho i
  have b := byte_getD hn i
  have c := byte_getD hp i
  have d := bits_and_bd _ _ a c
  rw [tornAt, u8_or _ _ b.1 (by omega) d.1 (by omega), Int.toNat_natCast, land_lor]
 ·have e1 : ns.getD i 0 = 0 := by simp [List.getD, List.getElem?_eq_none (show ns.length ≤ i by omega)]
  rw [e1]; rfl
open Go.RowKit
theorem Blk.laidRow {w : World} {g : Nat} {cs ds : List Value} {T : TypeId} (h : Blk w g cs T) : Blk (w.setRow g ds.toArray) g ds T := by
 unfold Blk at *
 simp only [World.setRow, Array.getElem?_modify, if_true, h]
 rfl
theorem keeps_laidRow {S : Nat → Prop} {a w : World} {g : Nat} {ds : Array Value} (h : Keeps S a w) (hg : g < a.heap.size → S g) : Keeps S a (w.setRow g ds) := by
 exact tl32 _
theorem splice_nil {α : Type} (L : List α) (off : Nat) : splice L off [] = L := by simp [splice]
theorem splice_map {α β : Type} (f : α → β) (L : List α) (off : Nat) (X : List α) : (splice L off X).map f = splice (L.map f) off (X.map f) := by simp [splice, List.map_take, List.map_drop]
theorem splice_take {α : Type} (L : List α) (off n : Nat) (X : List α) (h : off + X.length ≤ n) (hn : n ≤ L.length) : (splice L off X).take n = splice (L.take n) off X := by
 simp only [splice]
 rw [List.take_append, List.take_append, List.take_take, List.length_take, List.drop_take, Nat.min_eq_right (by omega), Nat.min_eq_left (by omega), List.take_take, Nat.min_eq_left (by omega), List.take_of_length_le (l := X) (by omega), Nat.sub_sub]
theorem splice_getD (L : List Int) (off : Nat) (X : List Int) (h : off + X.length ≤ L.length) (i : Nat) : (splice L off X).getD i 0 = if off ≤ i ∧ i < off + X.length then X.getD (i - off) 0 else L.getD i 0 := by
 simp only [splice, List.getD]
 by_cases h1 : i < off
 ·rw [if_neg (by omega), List.getElem?_append_left (by rw [List.length_take]; omega), List.getElem?_take, if_pos h1]
 ·rw [List.getElem?_append_right (by rw [List.length_take]; omega), List.length_take, Nat.min_eq_left (by omega)]
  by_cases h2 : i < off + X.length
  ·rw [if_pos ⟨by omega, h2⟩, List.getElem?_append_left (by omega)]
  ·rw [if_neg (by omega), List.getElem?_append_right (by omega), List.getElem?_drop]
   congr 2; omega
theorem splice_byte {L X : List Int} {off : Nat} (h1 : ∀ z ∈ L, 0 ≤ z ∧ z ≤ 255) (h2 : ∀ z ∈ X, 0 ≤ z ∧ z ≤ 255) : ∀ z ∈ splice L off X, 0 ≤ z ∧ z ≤ 255 := by
 intro z hz
 simp only [splice, List.mem_append] at hz
 rcases hz with hz | hz | hz
 ·exact h1 z (List.mem_of_mem_take hz)
 ·exact h2 z hz
 ·exact h1 z (List.mem_of_mem_drop hz)
theorem splice_len (L : List Int) (off : Nat) (X : List Int) (h : off + X.length ≤ L.length) : (splice L off X).length = L.length := length_splice L off X h
section
variable {ops : Array Oper} {rest : List Oper} {o : Oper} {a : Act} {Q : Exit → Act → World → Prop} {d s : Operand} {w : World}
theorem wpList_copy_blk {g off dLen dCap m c : Nat} {D A : Option Addr} {ns : List Int} {cs : List Value} {T : TypeId}
    (hgd : o.guard = none) (ho : o.op = .call { callee := .builtin .copy, args := #[d, s], argTypes := #[37, 37] }) (hd : a.eval d = .slice D dLen dCap) (hs : a.eval s = .slice A m c)
    (hD : 0 < min m dLen → D = some ⟨g, off, none⟩) (hb : Blk w g cs T) (hbs : Bs w A m c ns) (hfit : off + min m dLen ≤ cs.length)
    (h : ∀ w', Blk w' g (splice cs off ((ns.take dLen).map (.int .u8))) T → Keeps (fun k => k = g) w w' → wpList Tryz.prog ops Q rest (a.put o.dst (goInt ((min m dLen : Nat) : Int))) w') : wpList Tryz.prog ops Q (o :: rest) a w := by
 have hln : ((ns.take dLen).map (Value.int .u8)).length = min m dLen := by rw [List.length_map, List.length_take, hbs.len]; exact Nat.min_comm _ _
 have hi : (Tryz.prog.info? 5).map (·.size) = some 1 := by
  obtain ⟨i, hi, _, h1, _⟩ := info_parts Tryz.info5
  rw [hi]; simp [h1]
 by_cases h0 : min m dLen = 0
 ·have e : (ns.take dLen).map (Value.int .u8) = [] := List.eq_nil_of_length_eq_zero (by rw [hln]; exact h0)
  have := h w (by rw [e, splice_nil]; exact hb) (Keeps.refl _ _)
  rw [h0] at this
  exact wpList_copy_nothing hgd d s _ _ ho 5 Tryz.underlying37 hi D A dLen dCap m c hd hs (by show min m dLen = 0; exact h0) this
 ·obtain ⟨b, off2, e2, _, hc⟩ := hbs.at_ (by omega)
  have hD' := hD (by omega)
  subst hD'
  subst e2
  have := h (w.setRow g (cs.take off ++ ((ns.take dLen).map (Value.int .u8) ++ cs.drop (off + ((ns.take dLen).map (Value.int .u8)).length))).toArray) hb.laidRow (keeps_laidRow (Keeps.refl _ _) (fun _ => rfl))
  rw [← hln] at this
  refine wpList_copy_own hgd d s _ _ ho 5 Tryz.underlying37 hi g off dLen dCap ⟨b, off2, none⟩ m c hd hs cs.toArray T hb ((ns.take dLen).map (Value.int .u8)) hln ?_ (by rw [hln]; simpa using hfit) ?_ (by simpa using this)
  ·intro j v hv
   have hj : j < (ns.take dLen).length := by
    rcases Nat.lt_or_ge j (ns.take dLen).length with h | h
    ·exact h
    ·rw [List.getElem?_eq_none (by simpa using h)] at hv; cases hv
   have hj2 : j < min m dLen := by rw [List.length_map] at hln; omega
   have e3 : (⟨b, off2, none⟩ : Addr).add j = ⟨b, off2 + j, none⟩ := by unfold Addr.add; split <;> simp_all
   rw [e3, hc j (by omega), ← hv, map_getD 0 hj]
   simp [List.getD, List.getElem?_take, show j < dLen by omega]
  ·intro v hv
   obtain ⟨z, _, rfl⟩ := List.mem_map.1 hv
   rfl
theorem Own.row {B g n cap : Nat} {zs : List Int} (h : Own w B (.slice (some ⟨g, 0, none⟩) n cap) zs) : ∃ cur : List Value, Blk w g cur 5 ∧ cur.length = cap ∧ cur.take n = zs.map (.int .u8) ∧ n = zs.length ∧ n ≤ cap ∧ cap ≤ 9223372036854775807 ∧ B ≤ g := by
 rcases h.1.2 with ⟨e, h0⟩ | ⟨g', cap', cur, e, hb, hg, hn, hm, hs, ht⟩
 ·cases e
 ·cases e
  refine ⟨cur.toList, ?_, by simpa using hs, by simpa using ht, rfl, hn, by unfold maxLen at hm; omega, hb⟩
  unfold Blk; simpa using hg
theorem Own.ofRow {B g n cap : Nat} {zs : List Int} {cur : List Value} (hb : Blk w g cur 5) (hl : cur.length = cap) (ht : cur.take n = zs.map (.int .u8)) (hn : n = zs.length) (hc : n ≤ cap) (hm : cap ≤ 9223372036854775807) (hB : B ≤ g) (hz : ∀ z ∈ zs, 0 ≤ z ∧ z ≤ 255) :
    Own w B (.slice (some ⟨g, 0, none⟩) n cap) zs := by
 subst hn
 refine ⟨⟨by simp, .inr ⟨g, cap, cur.toArray, rfl, hB, hb, hc, by unfold maxLen; omega, by simpa using hl, by simpa using ht⟩⟩, hz⟩
theorem wpList_copy_bs {B g off n cap dLen dCap m c : Nat} {D A : Option Addr} {zs ns : List Int}
    (hgd : o.guard = none) (ho : o.op = .call { callee := .builtin .copy, args := #[d, s], argTypes := #[37, 37] }) (hd : a.eval d = .slice D dLen dCap) (hs : a.eval s = .slice A m c)
    (hD : 0 < min m dLen → D = some ⟨g, off, none⟩) (hown : Own w B (.slice (some ⟨g, 0, none⟩) n cap) zs) (hbs : Bs w A m c ns) (hfit : off + min m dLen ≤ n)
    (h : ∀ w', Own w' B (.slice (some ⟨g, 0, none⟩) n cap) (splice zs off (ns.take dLen)) → Keeps (fun k => k = g) w w' → wpList Tryz.prog ops Q rest (a.put o.dst (goInt ((min m dLen : Nat) : Int))) w') : wpList Tryz.prog ops Q (o :: rest) a w := by
 obtain ⟨cur, h1, h2, h3, h4, h5, h6, h7⟩ := hown.row
 have hl : (ns.take dLen).length = min m dLen := by rw [List.length_take, hbs.len]; exact Nat.min_comm _ _
 refine wpList_copy_blk hgd ho hd hs hD h1 hbs (by omega) fun w' hb hk => h w' ?_ hk
 have hlm : ((ns.take dLen).map (Value.int .u8)).length = min m dLen := by rw [List.length_map]; exact hl
 refine Own.ofRow hb (by rw [length_splice _ _ _ (by rw [hlm]; omega)]; exact h2) ?_ (by rw [splice_len _ _ _ (by rw [hl]; omega)]; exact h4) h5 h6 h7 (splice_byte hown.2 (fun z hz => hbs.byte z (List.mem_of_mem_take hz)))
 rw [splice_take _ _ _ _ (by rw [hlm]; omega) (by omega), h3, splice_map]
end
theorem ownBs {w : World} {X : Nat} {A : Option Addr} {n cap : Nat} {l : List Int} (h : Own w X (.slice A n cap) l) : Bs w A n cap l := by
 obtain ⟨A', cap', e, hb, -⟩ := h.shape
 cases e
 exact hb
open Go.RowKit
structure FS where
  b : List Int
  er : List Int
  steps : Int
  left : Int
  pick : List Int
  dark : Bool
def FS.stepped (s : FS) : FS :=
  if s.left < 0 then { s with steps := s.steps + 1 } else if s.left = 0 then { s with steps := s.steps + 1, left := -1, pick := [], dark := true } else { s with steps := s.steps + 1, left := s.left - 1 }
def withinB (at_ n size : Int) : Bool := decide (0 ≤ at_ ∧ 0 ≤ n ∧ at_ ≤ size ∧ n ≤ size - at_)
def FS.readF (s : FS) (at_ n : Int) : List Int × Int :=
  if s.dark = true then ([], 5) else if withinB at_ n s.b.length = true then ((s.b.drop at_.toNat).take n.toNat, 0) else ([], 2)
def FS.peekF (s : FS) (at_ n : Int) : List Int := if withinB at_ n s.b.length = true then (s.b.drop at_.toNat).take n.toNat else []
def progW : Nat → FS → Nat → List Int → FS × Int
  | 0, s, _, _ => (s, 0)
  | k + 1, s, at_, ws =>
    if s.left = 0 then ({ s.stepped with b := splice s.b at_ (tornN ((s.b.drop at_).take 8) (ws.take 8) s.pick) }, 5)
    else progW k { s.stepped with b := splice s.b at_ (ws.take 8) } (at_ + 8) (ws.drop 8)
def FS.progF (s : FS) (at_ : Int) (zs : List Int) : FS × Int :=
  if s.dark = true then (s, 5) else if withinB at_ zs.length s.b.length = false then (s, 2) else if at_ % 8 ≠ 0 ∨ zs.length % 8 ≠ 0 then (s, 3)
  else if canN ((s.b.drop at_.toNat).take zs.length) zs = false then (s, 4) else progW (zs.length / 8) s at_.toNat zs
def FS.erased (s : FS) (k : Nat) : FS := { s with er := s.er.set k (s.er.getD k 0 + 1) }
def FS.eraseF (s : FS) (k : Int) : FS × Int :=
  if s.dark = true then (s, 5) else if k < 0 ∨ s.er.length ≤ k then (s, 2)
  else if s.left = 0 then ({ (s.erased k.toNat).stepped with b := splice s.b (1024 * k.toNat) (halfN ((s.b.drop (1024 * k.toNat)).take 1024) s.pick) }, 5)
  else ({ (s.erased k.toNat).stepped with b := splice s.b (1024 * k.toNat) (List.replicate 1024 255) }, 0)
def FS.armF (s : FS) (after : Int) (pick : List Int) : FS := if after < 0 then { s with left := -1, pick := [] } else { s with left := after, pick := pick }
def FS.bootF (s : FS) : FS := { s with left := -1, pick := [], dark := false }
def newF (n : Int) : FS := { b := List.replicate (1024 * (max 1 (min n 256)).toNat) 255, er := List.replicate (max 1 (min n 256)).toNat 0, steps := 0, left := -1, pick := [], dark := false }
theorem FS.stepped_b (s : FS) : s.stepped.b = s.b := by unfold FS.stepped; split <;> (try split) <;> rfl
theorem FS.stepped_er (s : FS) : s.stepped.er = s.er := by unfold FS.stepped; split <;> (try split) <;> rfl
theorem FS.stepped_steps (s : FS) : s.stepped.steps = s.steps + 1 := by unfold FS.stepped; split <;> (try split) <;> rfl
theorem canN_take {os ns : List Int} (h : canN os ns = true) (k : Nat) : canN (os.take k) (ns.take k) = true := by
 simp only [canN, decide_eq_true_eq] at h ⊢
 obtain ⟨h1, h2⟩ := h
 refine ⟨by rw [List.length_take, List.length_take, h1], fun i hi => ?_⟩
 rw [List.length_take] at hi
 have := h2 i (by omega)
 simpa [List.getD, List.getElem?_take, show i < k by omega] using this
theorem canN_drop {os ns : List Int} (h : canN os ns = true) (k : Nat) : canN (os.drop k) (ns.drop k) = true := by
 simp only [canN, decide_eq_true_eq] at h ⊢
 obtain ⟨h1, h2⟩ := h
 refine ⟨by rw [List.length_drop, List.length_drop, h1], fun i hi => ?_⟩
 rw [List.length_drop] at hi
 have := h2 (k + i) (by omega)
 simpa [List.getD, List.getElem?_drop] using this
theorem splice_drop (L : List Int) (off k : Nat) (X : List Int) (h : off + X.length ≤ k) (hl : off + X.length ≤ L.length) : (splice L off X).drop k = L.drop k := by
 apply List.ext_getElem?
 intro i
 rw [List.getElem?_drop, List.getElem?_drop]
 simp only [splice]
 rw [List.getElem?_append_right (by rw [List.length_take]; omega), List.length_take, Nat.min_eq_left (by omega), List.getElem?_append_right (by omega), List.getElem?_drop]
 congr 1; omega
open Go.RowKit
theorem test_eq (x k : Nat) : x.testBit k = decide (x / 2 ^ k % 2 = 1) := Nat.testBit_eq_decide_div_mod_eq
theorem byte_high {a k : Nat} (ha : a < 256) (hk : 8 ≤ k) : a.testBit k = false :=
  Nat.testBit_lt_two_pow (Nat.lt_of_lt_of_le ha (by have := Nat.pow_le_pow_right (show 0 < 2 by decide) hk; simpa using this))
theorem byte_bits {a b : Nat} (ha : a < 256) : a &&& b = a ↔ ∀ k, k < 8 → a / 2 ^ k % 2 ≤ b / 2 ^ k % 2 := by
 constructor
 ·intro h k _
  have h2 : (a &&& b).testBit k = a.testBit k := by rw [h]
  rw [Nat.testBit_and, test_eq, test_eq] at h2
  by_cases h3 : a / 2 ^ k % 2 = 1
  ·rw [h3] at h2; simp at h2; omega
  ·omega
 ·intro h
  apply Nat.eq_of_testBit_eq
  intro k
  rw [Nat.testBit_and]
  by_cases hk : k < 8
  ·have := h k hk
   rw [test_eq, test_eq]
   by_cases h3 : a / 2 ^ k % 2 = 1
   ·have h4 : b / 2 ^ k % 2 = 1 := by omega
    rw [h3, h4]; rfl
   ·simp [h3]
  ·rw [byte_high ha (by omega)]; rfl
def onto (o p k : Nat) : Nat := o ||| (p &&& (2 ^ k - 1))
theorem onto_zero (o p : Nat) : onto o p 0 = o := by simp [onto]
theorem onto_all (o p : Nat) (hp : p < 256) : onto o p 8 = o ||| p := by
 unfold onto
 rw [Nat.and_two_pow_sub_one_eq_mod, Nat.mod_eq_of_lt hp]
theorem onto_lt (o p k : Nat) (ho : o < 256) (hp : p < 256) : onto o p k < 256 := by
 unfold onto
 have : p &&& (2 ^ k - 1) ≤ p := Nat.and_le_left
 exact Nat.or_lt_two_pow (n := 8) ho (by omega)
theorem onto_test (o p k i : Nat) : (onto o p k).testBit i = (o.testBit i || (p.testBit i && decide (i < k))) := by
 simp [onto, Nat.testBit_or, Nat.testBit_and, Nat.testBit_two_pow_sub_one, Bool.and_comm]
theorem onto_stay (o p k : Nat) (h : ¬ (o / 2 ^ k % 2 = 0 ∧ p / 2 ^ k % 2 = 1)) : onto o p (k + 1) = onto o p k := by
 apply Nat.eq_of_testBit_eq
 intro i
 rw [onto_test, onto_test]
 by_cases e : i = k
 ·subst e
  rw [test_eq, test_eq]
  by_cases h1 : o / 2 ^ i % 2 = 1
  ·simp [h1]
  ·have : ¬ p / 2 ^ i % 2 = 1 := fun h2 => h ⟨by omega, h2⟩
   simp [this]
 ·have : decide (i < k + 1) = decide (i < k) := by simp; omega
  rw [this]
theorem add_bit : ∀ (x : Fin 256) (k : Fin 8), x.val / 2 ^ k.val % 2 = 0 → x.val + 2 ^ k.val = x.val ||| 2 ^ k.val ∧ x.val + 2 ^ k.val < 256 := by decide +kernel
theorem onto_add (o p k : Nat) (ho : o < 256) (hp : p < 256) (hk : k < 8) (h1 : o / 2 ^ k % 2 = 0) (h2 : p / 2 ^ k % 2 = 1) : onto o p (k + 1) = onto o p k + 2 ^ k ∧ onto o p k + 2 ^ k < 256 := by
 have hl := onto_lt o p k ho hp
 have hb : (onto o p k).testBit k = false := by rw [onto_test, test_eq, h1]; simp
 have hz : onto o p k / 2 ^ k % 2 = 0 := by
  rw [test_eq] at hb
  have := of_decide_eq_false hb
  omega
 obtain ⟨e1, e2⟩ := add_bit ⟨_, hl⟩ ⟨k, hk⟩ hz
 refine ⟨?_, e2⟩
 simp only at e1
 rw [e1]
 apply Nat.eq_of_testBit_eq
 intro i
 rw [onto_test, Nat.testBit_or, onto_test, Nat.testBit_two_pow]
 by_cases e : i = k
 ·subst e
  rw [test_eq p, h2]; simp
 ·have : decide (i < k + 1) = decide (i < k) := by simp; omega
  have h3 : decide (k = i) = false := by simp; omega
  rw [this, h3, Bool.or_false]
def Same (v : Value) (w : World) (e : Ending) (w' : World) : Prop := e = .returned v ∧ w = w'
theorem and_bit (a b k : Nat) : (a &&& b) / 2 ^ k % 2 = 1 ↔ a / 2 ^ k % 2 = 1 ∧ b / 2 ^ k % 2 = 1 := by
 have := Nat.testBit_and a b k
 rw [test_eq, test_eq, test_eq] at this
 constructor
 ·intro h; rw [h] at this; simpa using this.symm
 ·rintro ⟨h1, h2⟩; rw [h1, h2] at this; simpa using this
theorem set_getD_self (l : List Int) (k : Nat) : l.set k (l.getD k 0) = l := by
 apply List.ext_getElem?
 intro i
 by_cases hi : i < l.length
 ·by_cases e : i = k
  ·subst e; simp [List.getD, hi]
  ·have : k ≠ i := fun h => e h.symm
   simp [List.getElem?_set, this]
 ·rw [List.getElem?_eq_none (by simpa using Nat.le_of_not_lt hi), List.getElem?_eq_none (Nat.le_of_not_lt hi)]
set_option maxRecDepth 100000 in
theorem rbit_any (x k : Nat) (hx : x < 256) (hk : k < 8) (w : World) : Calls Tryz.prog 132 #[.int .u8 x, .int .i64 k] w (Same (.int .i64 ((x / 2 ^ k % 2 : Nat) : Int)) w) := by
 have hd : x / 2 ^ k < 256 := Nat.lt_of_le_of_lt (Nat.div_le_self _ _) hx
 have e1 := i64_and_one (x / 2 ^ k) (by omega)
 have FIN := Lib.hid e1
 have e2 : ((x : Int) / 2 ^ k) = ((x / 2 ^ k : Nat) : Int) := by simp
 have HW : Hid (wrap64 ((x : Int) / 2 ^ k) = ((x / 2 ^ k : Nat) : Int)) := by
  show wrap64 _ = _
  rw [e2]; clear e1 e2 FIN; generalize x / 2 ^ k = y at *; unfold wrap64; omega
 clear e1 e2
 go_enter Tryz.func132, Tryz.ntmps132
 go_wp2
 go_ret
 exact ⟨ret_int (by rw [HW.out, FIN.out]), rfl⟩
set_option maxRecDepth 100000 in
theorem rpicked_any (A : Option Addr) (n cap : Nat) (zs : List Int) (i : Nat) (w : World) (h : Bs w A n cap zs) (hi : i < 9223372036854775807) :
    Calls Tryz.prog 133 #[.slice A n cap, .int .i64 i] w (Same (.int .u8 (zs.getD i 0)) w) := by
 have m1 := h.le
 have m2 := h.max
 by_cases hlt : i < n
 ·obtain ⟨b, off, z, rfl, g, _, _, cc⟩ := h.get hlt
  rw [g]
  clear g
  go_enter Tryz.func133, Tryz.ntmps133
  go_wp2
  go_ret
  exact ⟨rfl, rfl⟩
 ·have g : zs.getD i 0 = 0 := by
   have := h.len
   simp [List.getD, List.getElem?_eq_none (show zs.length ≤ i by omega)]
  rw [g]
  clear g
  go_enter Tryz.func133, Tryz.ntmps133
  go_wp2
  go_ret
  exact ⟨rfl, rfl⟩
set_option maxRecDepth 100000 in
theorem risBlank_any (A : Option Addr) (n cap : Nat) (zs : List Int) (w : World) (h : Bs w A n cap zs) :
    Calls Tryz.prog 48 #[.slice A n cap] w (Same (.bool (blankB zs)) w) := by
 have m1 := h.le
 have m2 := h.max
 have H := Lib.hid h
 clear h
 go_enter Tryz.func48, Tryz.ntmps48
 go_wp2
 go_loop [3] (fun i => ∃ k : Nat, k ≤ n ∧ i = .int .i64 k ∧ ∀ j, j < k → zs.getD j 0 = 255) (fun i => n - (intOf i).toNat)
 case atStart => exact ⟨0, Nat.zero_le _, rfl, fun i hi => by omega⟩
 case round =>
  obtain ⟨k, hkn, rfl, hall⟩ := hrel
  have HA := Lib.hid hall
  clear hall
  by_cases hlt : k < n
  ·obtain ⟨b, off, z, rfl, g, _, _, cc⟩ := H.out.get hlt
   have G := Lib.hid g
   clear g
   by_cases hz : z = 255
   ·have q : (z != 255) = false := by simp [hz]
    have HZ := Lib.hid hz
    clear hz
    go_wp2
    go_round
    case rel =>
     refine ⟨k + 1, by omega, by go_num, fun i hi => ?_⟩
     by_cases e : i = k
     ·subst e; rw [G.out]; exact HZ.out
     ·exact HA.out i (by omega)
    case measure => simp [intOf]; omega
   ·have q : (z != 255) = true := by simp [hz]
    have fin : blankB zs = false := by
     exact tl63 _
    have FIN := Lib.hid fin
    clear hz fin
    go_wp2
    go_ret
    exact ⟨ret_bool FIN.out.symm, rfl⟩
  ·have fin : blankB zs = true := by
    simp only [blankB, decide_eq_true_eq]
    have l1 := H.out.len
    exact fun i hi => HA.out i (by omega)
   have FIN := Lib.hid fin
   clear fin
   go_wp2
   go_ret
   exact ⟨ret_bool FIN.out.symm, rfl⟩
set_option maxRecDepth 100000 in
set_option maxHeartbeats 1600000 in
theorem rcan_any (A1 A2 : Option Addr) (n1 c1 n2 c2 : Nat) (os ns : List Int) (w : World) (h1 : Bs w A1 n1 c1 os) (h2 : Bs w A2 n2 c2 ns) :
    Calls Tryz.prog 122 #[.slice A1 n1 c1, .slice A2 n2 c2] w (Told (canN os ns) w) := by
 have m1 := h1.le
 have m2 := h1.max
 have m3 := h2.le
 have m4 := h2.max
 by_cases hn : n1 = n2
 ·subst hn
  have e1 : ((n1 : Int) != n1) = false := by simp
  have CI := Lib.hid (canN_iff h1.byte h2.byte)
  have H1 := Lib.hid h1
  have H2 := Lib.hid h2
  clear h1 h2
  go_enter Tryz.func122, Tryz.ntmps122
  go_wp2
  go_loopw [5] (fun i wr => ∃ k m : Nat, k ≤ n1 ∧ i = .int .i64 k ∧ wr = w.drewN m ∧ ∀ i, i < k → (ns.getD i 0).toNat &&& (os.getD i 0).toNat = (ns.getD i 0).toNat) (fun i _ => n1 - (intOf i).toNat)
  case atStart => exact ⟨0, 0, Nat.zero_le _, rfl, rfl, fun i hi => by omega⟩
  case round =>
   obtain ⟨k, m, hkn, rfl, rfl, hall⟩ := hrel
   have HA := Lib.hid hall
   clear hall
   by_cases hlt : k < n1
   ·obtain ⟨b1, o1, z1, rfl, g1, z1a, z1b, cc1⟩ := H1.out.get hlt
    obtain ⟨b2, o2, z2, rfl, g2, z2a, z2b, cc2⟩ := H2.out.get hlt
    obtain ⟨x1, rfl⟩ := Int.eq_ofNat_of_zero_le z1a
    obtain ⟨x2, rfl⟩ := Int.eq_ofNat_of_zero_le z2a
    have hx1 : x1 < 256 := by omega
    have hx2 : x2 < 256 := by omega
    have G1 := Lib.hid g1
    have G2 := Lib.hid g2
    clear g1 g2
    go_wp2
    go_loopw [6] (fun j wr => ∃ q m' : Nat, q ≤ 8 ∧ j = .int .i64 q ∧ wr = w.drewN m' ∧ ∀ t, t < q → x2 / 2 ^ t % 2 ≤ x1 / 2 ^ t % 2) (fun j _ => 8 - (intOf j).toNat)
    case atStart => exact ⟨0, m, by omega, rfl, rfl, fun t ht => by omega⟩
    case round =>
     obtain ⟨q, m', hq, rfl, rfl, hin⟩ := hrel
     have HI := Lib.hid hin
     clear hin
     by_cases h8 : q < 8
     ·have R1 := Lib.hid fun w => rbit_any x1 q hx1 h8 w
      have R2 := Lib.hid fun w => rbit_any x2 q hx2 h8 w
      obtain ⟨y1, hy1⟩ : ∃ y, Hid (x1 / 2 ^ q % 2 = y) := ⟨_, rfl⟩
      obtain ⟨y2, hy2⟩ : ∃ y, Hid (x2 / 2 ^ q % 2 = y) := ⟨_, rfl⟩
      rw [hy1.out] at R1
      rw [hy2.out] at R2
      by_cases hb : y1 < y2
      ·have q1 : decide (y1 < y2) = true := decide_eq_true hb
       have q2 : decide ((y1 : Int) < y2) = true := decide_eq_true (by omega)
       have fin : canN os ns = false := by
        cases hc : canN os ns with
        | false => rfl
        | true =>
         have := (CI.out.1 hc).2 k
         rw [G1.out, G2.out, Int.toNat_natCast, Int.toNat_natCast] at this
         have := (byte_bits hx2).1 this q h8
         rw [hy1.out, hy2.out] at this
         omega
       have FIN := Lib.hid fin
       clear fin hb
       go_wp2
       obtain ⟨mS, mh⟩ : ∃ S : World → Prop, ∀ w', S w' ↔ (w'.cell? ⟨b2, o2 + k, none⟩ = some (.int .u8 x2) ∧ w'.cell? ⟨b1, o1 + k, none⟩ = some (.int .u8 x1)) := ⟨_, fun _ => Iff.rfl⟩
       have mk0 : ∀ x : Memb mS, x.at_.cell? ⟨b2, o2 + k, none⟩ = some (.int .u8 x2) := fun x => ((mh _).1 x.is).1
       have mk1 : ∀ x : Memb mS, x.at_.cell? ⟨b1, o1 + k, none⟩ = some (.int .u8 x1) := fun x => ((mh _).1 x.is).2
       have mn : Nonempty (Memb mS) := ⟨⟨((w.drewN m')).drew, (mh _).2 ⟨cc2, cc1⟩⟩⟩
       have mH := Lib.hid mh
       clear mh
       refine wp_region_mix [5, 11] (InS mS) (by kernel_rfl) (by kernel_rfl) (InS.mk ((mH.out _).2 ⟨cc2, cc1⟩)) ?_
       refine wpMix_seg 5 (by kernel_rfl) (by decide) ?_
       simp only [tds]
       repeat (go_big_quiet_step (fail))
       refine wpQuiet_nil ?_
       refine wpMix_eff (by kernel_rfl) ?_
       go_wp2_with fail
       refine (R2.out _).mono ?_
       rintro e w3 ⟨rfl, rfl⟩
       go_wp2
       refine MixK.on (InS.mk ((mH.out _).2 ⟨cc2, cc1⟩)) ?_
       refine wpMix_seg 5 (by kernel_rfl) (by decide) ?_
       simp only [tds]
       repeat (go_big_quiet_step (fail))
       refine wpQuiet_nil ?_
       refine wpMix_eff (by kernel_rfl) ?_
       go_wp2_with fail
       refine (R1.out _).mono ?_
       rintro e w3 ⟨rfl, rfl⟩
       go_wp2
       refine MixK.on (InS.mk ((mH.out _).2 ⟨cc2, cc1⟩)) ?_
       refine wpMix_seg 1 (by kernel_rfl) (by decide) ?_
       simp only [tds]
       repeat (go_big_quiet_step (fail))
       refine wpQuiet_nil ?_
       refine wpMix_nil ?_
       clear mk0 mk1 mn mH
       go_wp2
       go_ret
       exact ⟨ret_bool FIN.out.symm, m' + 1, rfl⟩
      ·have q1 : decide (y1 < y2) = false := decide_eq_false hb
       have q2 : decide ((y1 : Int) < y2) = false := decide_eq_false (by omega)
       have HB := Lib.hid hb
       clear hb
       go_wp2
       obtain ⟨mS, mh⟩ : ∃ S : World → Prop, ∀ w', S w' ↔ (w'.cell? ⟨b2, o2 + k, none⟩ = some (.int .u8 x2) ∧ w'.cell? ⟨b1, o1 + k, none⟩ = some (.int .u8 x1)) := ⟨_, fun _ => Iff.rfl⟩
       have mk0 : ∀ x : Memb mS, x.at_.cell? ⟨b2, o2 + k, none⟩ = some (.int .u8 x2) := fun x => ((mh _).1 x.is).1
       have mk1 : ∀ x : Memb mS, x.at_.cell? ⟨b1, o1 + k, none⟩ = some (.int .u8 x1) := fun x => ((mh _).1 x.is).2
       have mn : Nonempty (Memb mS) := ⟨⟨((w.drewN m')).drew, (mh _).2 ⟨cc2, cc1⟩⟩⟩
       have mH := Lib.hid mh
       clear mh
       refine wp_region_mix [5, 11] (InS mS) (by kernel_rfl) (by kernel_rfl) (InS.mk ((mH.out _).2 ⟨cc2, cc1⟩)) ?_
       refine wpMix_seg 5 (by kernel_rfl) (by decide) ?_
       simp only [tds]
       repeat (go_big_quiet_step (fail))
       refine wpQuiet_nil ?_
       refine wpMix_eff (by kernel_rfl) ?_
       go_wp2_with fail
       refine (R2.out _).mono ?_
       rintro e w3 ⟨rfl, rfl⟩
       go_wp2
       refine MixK.on (InS.mk ((mH.out _).2 ⟨cc2, cc1⟩)) ?_
       refine wpMix_seg 5 (by kernel_rfl) (by decide) ?_
       simp only [tds]
       repeat (go_big_quiet_step (fail))
       refine wpQuiet_nil ?_
       refine wpMix_eff (by kernel_rfl) ?_
       go_wp2_with fail
       refine (R1.out _).mono ?_
       rintro e w3 ⟨rfl, rfl⟩
       go_wp2
       refine MixK.on (InS.mk ((mH.out _).2 ⟨cc2, cc1⟩)) ?_
       refine wpMix_seg 1 (by kernel_rfl) (by decide) ?_
       simp only [tds]
       repeat (go_big_quiet_step (fail))
       refine wpQuiet_nil ?_
       refine wpMix_nil ?_
       clear mk0 mk1 mn mH
       go_wp2
       go_roundw
       case rel =>
        refine ⟨q + 1, m' + 1, by omega, by go_num, rfl, fun t ht => ?_⟩
        by_cases e : t = q
        ·subst e; rw [hy1.out, hy2.out]; have := HB.out; omega
        ·exact HI.out t (by omega)
       case measure => simp [intOf]; omega
     ·obtain rfl : q = 8 := by omega
      clear h8 hq
      go_wp2
      go_roundw
      case rel =>
       refine ⟨k + 1, m', by omega, by go_num, rfl, fun i hi => ?_⟩
       by_cases e : i = k
       ·subst e
        rw [G1.out, G2.out, Int.toNat_natCast, Int.toNat_natCast]
        exact (byte_bits hx2).2 HI.out
       ·exact HA.out i (by omega)
      case measure => simp [intOf]; omega
   ·have fin : canN os ns = true := CI.out.2 ⟨by have l1 := H1.out.len; have l2 := H2.out.len; omega, fun i => by
     by_cases hi : i < k
     ·exact HA.out i hi
     ·have l2 := H2.out.len
      have e1 : ns.getD i 0 = 0 := by simp [List.getD, List.getElem?_eq_none (show ns.length ≤ i by omega)]
      rw [e1]; simp⟩
    have FIN := Lib.hid fin
    clear fin
    go_wp2
    go_ret
    exact ⟨ret_bool FIN.out.symm, m, rfl⟩
 ·have e1 : ((n1 : Int) != n2) = true := by simp; omega
  have fin : canN os ns = false := by
   simp only [canN, decide_eq_false_iff_not]
   have l1 := h1.len
   have l2 := h2.len
   intro h; exact hn (by omega)
  rw [fin]
  clear fin h1 h2 hn
  go_enter Tryz.func122, Tryz.ntmps122
  go_wp2
  go_ret
  exact ⟨rfl, 0, rfl⟩
end Go.Proofs.YtobgbilanibodaaGreat
