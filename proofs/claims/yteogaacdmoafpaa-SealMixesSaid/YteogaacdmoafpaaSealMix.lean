/-
  For every three rows of bytes, the law SealMixes returns true: the sums of three rows of one length come, bit by bit, to that of the three rows bit by bit. No condition.
-/
import Derived.Test.YteogaacdmoafpaaSealAl
import Derived.Test.YteogaacdmoafpaaInit
namespace Go.Proofs.Yteogaacdmoafpaa
open Go.RowKit Go.ChangeShapes Go.WideShapes Go.ChangeAt

def xor3 (a b c : Int) : Int := ((a.toNat ^^^ b.toNat ^^^ c.toNat : Nat) : Int)
def mixL (as' bs' cs' : List Int) (k : Nat) : List Int := (List.range k).map (fun i => xor3 (as'.getD i 0) (bs'.getD i 0) (cs'.getD i 0))
theorem mixL_succ (x y z : List Int) (k : Nat) : mixL x y z (k + 1) = mixL x y z k ++ [xor3 (x.getD k 0) (y.getD k 0) (z.getD k 0)] := by
  simp [mixL, List.range_succ]
theorem mixL_len (x y z : List Int) (k : Nat) : (mixL x y z k).length = k := by simp [mixL]
theorem natL_mix (x y z : List Int) (hy : x.length ≤ y.length) (hz : x.length ≤ z.length) :
    crcOf (natL (mixL x y z x.length)) = crcOf (natL x) ^^^ crcOf (natL (y.take x.length)) ^^^ crcOf (natL (z.take x.length)) := by
  rw [← crcOf_mix (natL x) (natL (y.take x.length)) (natL (z.take x.length)) (by simp [natL]; omega) (by simp [natL]; omega)]
  congr 1
  apply List.ext_getElem
  · simp [natL, mixL]; omega
  · intro i h1 h2
    simp only [natL, mixL, List.length_map, List.length_range] at h1
    simp only [natL, mixL, List.getElem_map, List.getElem_range, List.getElem_zip, List.getElem_take, xor3, Int.toNat_natCast]
    rw [getD_get 0 h1, getD_get 0 (show i < y.length by omega), getD_get 0 (show i < z.length by omega)]

set_option maxRecDepth 100000 in
set_option maxHeartbeats 3200000 in
theorem mixes5_any (A B C : Option Addr) (n cap m cap2 r cap3 : Nat) (xs ys zs : List Int) (W : World) (h : Bs W A n cap xs) (h2 : Bs W B m cap2 ys) (h3 : Bs W C r cap3 zs) :
    Calls Try.prog 10 #[.slice A n cap, .slice B m cap2, .slice C r cap3] W fun e w' => e = .returned (.bool true) ∧ Below W.heap.size W w' := by
  have ALV : Hid (∀ w, Calls Try.prog 37 #[] w fun e w' => e = .returned (.bool true) ∧ Keeps None w w') := alive5_any
  by_cases g1 : 300 < n
  · have d1 : decide (300 < (n : Int)) = true := decide_eq_true (by omega)
    clear h h2 h3
    go_enter Try.func10, Try.ntmps10
    go_wp2_with fail
    refine (ALV.out _).mono ?_
    rintro e w1 ⟨rfl, hk⟩
    go_wp2
    go_ret
    exact ⟨rfl, hk.below (fun _ _ h => h)⟩
  have d1 : decide (300 < (n : Int)) = false := decide_eq_false (by omega)
  by_cases g2 : m < n
  · have d2 : decide ((m : Int) < n) = true := decide_eq_true (by omega)
    have d3 : decide (m < n) = true := decide_eq_true g2
    clear h h2 h3
    go_enter Try.func10, Try.ntmps10
    go_wp2_with fail
    refine (ALV.out _).mono ?_
    rintro e w1 ⟨rfl, hk⟩
    go_wp2
    go_ret
    exact ⟨rfl, hk.below (fun _ _ h => h)⟩
  have d2 : decide ((m : Int) < n) = false := decide_eq_false (by omega)
  have d3 : decide (m < n) = false := decide_eq_false g2
  by_cases g3 : r < n
  · have d4 : decide ((r : Int) < n) = true := decide_eq_true (by omega)
    have d5 : decide (r < n) = true := decide_eq_true g3
    clear h h2 h3
    go_enter Try.func10, Try.ntmps10
    go_wp2_with fail
    refine (ALV.out _).mono ?_
    rintro e w1 ⟨rfl, hk⟩
    go_wp2
    go_ret
    exact ⟨rfl, hk.below (fun _ _ h => h)⟩
  have d4 : decide ((r : Int) < n) = false := decide_eq_false (by omega)
  have d5 : decide (r < n) = false := decide_eq_false g3
  have l1 := h.le
  have l2 := h2.le
  have l3 := h3.le
  have m1 := h.max
  have m2 := h2.max
  have m3 := h3.max
  have nm : n ≤ m := by omega
  have nr : n ≤ r := by omega
  have ncm : n ≤ cap2 := by omega
  have ncr : n ≤ cap3 := by omega
  have H1 := Lib.hid h
  have H2 := Lib.hid h2
  have H3 := Lib.hid h3
  have FIN := Lib.hid (natL_mix xs ys zs (by rw [h.len, h2.len]; exact nm) (by rw [h.len, h3.len]; exact nr))
  have NIL := Lib.hid (fun (hn : n = 0) => show natL (mixL xs ys zs n) = [] from by rw [hn]; rfl)
  rw [h.len] at FIN
  have S1 := Lib.hid (crcOf_lt (natL_lt h.byte))
  have S2 := Lib.hid (crcOf_lt (natL_lt (h2.take nm).byte))
  have S3 := Lib.hid (crcOf_lt (natL_lt (h3.take nr).byte))
  clear h h2 h3 g2 g3
  go_enter Try.func10, Try.ntmps10
  go_wp2_with fail
  refine (ALV.out _).mono ?_
  rintro e w1 ⟨rfl, hk⟩
  have K1 := Lib.hid hk
  clear hk ALV
  go_wp2
  go_loopw [8, 9] (fun ov iv wr => ∃ k : Nat, k ≤ n ∧ iv = .int .i64 k ∧ Own wr W.heap.size ov (mixL xs ys zs k) ∧ Keeps None W wr) (fun _ iv _ => n - (intOf iv).toNat)
  case atStart => exact ⟨0, Nat.zero_le _, rfl, Own.nil _ _, K1.out⟩
  case round =>
    obtain ⟨k, hkn, rfl, hO, hK⟩ := hrel
    by_cases hlt : k < n
    · obtain ⟨b1, o1, x, rfl, hx, hxa, hxb, c1⟩ := H1.out.get hlt
      obtain ⟨b2, o2, y, rfl, hy, hya, hyb, c2⟩ := H2.out.get (i := k) (by omega)
      obtain ⟨b3, o3, z, rfl, hz, hza, hzb, c3⟩ := H3.out.get (i := k) (by omega)
      have km : k < m := by omega
      have kr : k < r := by omega
      obtain ⟨a, rfl⟩ : ∃ a : Nat, x = a := ⟨x.toNat, by omega⟩
      obtain ⟨b, rfl⟩ : ∃ b : Nat, y = b := ⟨y.toNat, by omega⟩
      obtain ⟨c, rfl⟩ : ∃ c : Nat, z = c := ⟨z.toNat, by omega⟩
      have CC := Lib.hid (fun (w' : World) (hk : Keeps None W w') => (⟨(hk.cell (World.block_lt_of_cell? _ _ c1) (fun h => h)).trans c1, (hk.cell (World.block_lt_of_cell? _ _ c2) (fun h => h)).trans c2, (hk.cell (World.block_lt_of_cell? _ _ c3) (fun h => h)).trans c3⟩ : w'.cell? ⟨b1, o1 + k, none⟩ = some (.int .u8 a) ∧ w'.cell? ⟨b2, o2 + k, none⟩ = some (.int .u8 b) ∧ w'.cell? ⟨b3, o3 + k, none⟩ = some (.int .u8 c)))
      clear c1 c2 c3
      have e1 := u8_xor_nat a b (by omega) (by omega)
      have hab : a ^^^ b < 256 := Nat.xor_lt_two_pow (n := 8) (by omega) (by omega)
      have e2 := u8_xor_nat (a ^^^ b) c hab (by omega)
      have habc : a ^^^ b ^^^ c < 256 := Nat.xor_lt_two_pow (n := 8) hab (by omega)
      have MS := Lib.hid (mixL_succ xs ys zs k)
      rw [hx, hy, hz] at MS
      have ex : xor3 (a : Int) b c = ((a ^^^ b ^^^ c : Nat) : Int) := rfl
      rw [ex] at MS
      have HO := Lib.hid hO
      have HK := Lib.hid hK
      have ML := Lib.hid (mixL_len xs ys zs k)
      clear hx hy hz ex hO hK hab
      generalize a ^^^ b ^^^ c = v at *
      generalize a ^^^ b = u at *
      go_wp2
      obtain ⟨mS, mh⟩ : ∃ S : World → Prop, ∀ w', S w' ↔ (w'.cell? ⟨b1, o1 + k, none⟩ = some (.int .u8 a) ∧ w'.cell? ⟨b2, o2 + k, none⟩ = some (.int .u8 b) ∧ w'.cell? ⟨b3, o3 + k, none⟩ = some (.int .u8 c)) := ⟨_, fun _ => Iff.rfl⟩
      have mk0 : ∀ x : Memb mS, x.at_.cell? ⟨b1, o1 + k, none⟩ = some (.int .u8 a) := fun x => ((mh _).1 x.is).1
      have mk1 : ∀ x : Memb mS, x.at_.cell? ⟨b2, o2 + k, none⟩ = some (.int .u8 b) := fun x => ((mh _).1 x.is).2.1
      have mk2 : ∀ x : Memb mS, x.at_.cell? ⟨b3, o3 + k, none⟩ = some (.int .u8 c) := fun x => ((mh _).1 x.is).2.2
      have mn : Nonempty (Memb mS) := ⟨⟨(wr).drew, (mh _).2 ⟨(CC.out wr HK.out).1, (CC.out wr HK.out).2.1, (CC.out wr HK.out).2.2⟩⟩⟩
      have mH := Lib.hid mh
      clear mh
      refine wp_region_mix [15, 16] (InS mS) (by kernel_rfl) (by kernel_rfl) (InS.mk ((mH.out _).2 ⟨(CC.out wr HK.out).1, (CC.out wr HK.out).2.1, (CC.out wr HK.out).2.2⟩)) ?_
      refine wpMix_seg 15 (by kernel_rfl) (by decide) ?_
      simp only [List.take_succ_cons, List.take_zero, List.drop_succ_cons, List.drop_zero]
      repeat (go_big_quiet_step (fail))
      refine wpQuiet_nil ?_
      refine wpMix_eff (by kernel_rfl) ?_
      go_wp2
      refine MixK.on (InS.mk ((mH.out _).2 (CC.out _ (HK.out.alloc _).drew))) ?_
      refine wpMix_eff (by kernel_rfl) ?_
      go_wp2_with (at_builtin; refine wpList_append_bs (HO.out.alloc _).drew (Bs.oneAt _ _ rfl v (by omega)).drew (by rw [ML.out]; omega) (Nat.le_trans HK.out.size (by simp)) rfl rfl rfl rfl rfl ?_; intro v' w4 ho4 hk4)
      have H4 := Lib.hid (show Own w4 W.heap.size v' (mixL xs ys zs (k + 1)) from by rw [MS.out]; exact ho4)
      have K4 := Lib.hid ((HK.out.alloc (.cells #[.int .u8 v] 5)).drew.trans hk4 (T := None) (fun _ h => h) (fun i hi e => absurd e (HO.out.notBelow hi)))
      clear ho4 hk4
      refine MixK.on (InS.mk ((mH.out _).2 (CC.out _ K4.out))) ?_
      refine wpMix_seg 1 (by kernel_rfl) (by decide) ?_
      simp only [List.take_succ_cons, List.take_zero, List.drop_succ_cons, List.drop_zero]
      repeat (go_big_quiet_step (fail))
      refine wpQuiet_nil ?_
      refine wpMix_nil ?_
      clear mk0 mk1 mk2 mn mH
      go_wp2
      go_roundw
      case rel => exact ⟨k + 1, by omega, by go_num, H4.out, K4.out⟩
      case measure => simp [intOf]; omega
    · obtain rfl : k = n := by omega
      obtain ⟨A9, cap9, rfl, bs9, -⟩ := hO.shape
      rw [mixL_len] at bs9 ⊢
      have B9 := Lib.hid bs9
      have HK := Lib.hid hK
      clear hO hK bs9
      have SA := Lib.hid (fun w h => ssum_any A9 k cap9 (mixL xs ys zs k) w h)
      have SB' := Lib.hid (fun w h => ssum_any A k cap xs w h)
      have SC := Lib.hid (fun w h => ssum_any B k cap2 (ys.take k) w h)
      have SD := Lib.hid (fun w h => ssum_any C k cap3 (zs.take k) w h)
      have T2 := Lib.hid (H2.out.take nm)
      have T3 := Lib.hid (H3.out.take nr)
      rw [FIN.out] at SA
      have e1 := u32_xor_nat (crcOf (natL xs)) (crcOf (natL (ys.take k))) S1.out S2.out
      have hab : crcOf (natL xs) ^^^ crcOf (natL (ys.take k)) < 4294967296 := Nat.xor_lt_two_pow (n := 32) S1.out S2.out
      have e2 := u32_xor_nat (crcOf (natL xs) ^^^ crcOf (natL (ys.take k))) (crcOf (natL (zs.take k))) hab S3.out
      clear hab FIN NIL S1 S2 S3 H2 H3
      generalize crcOf (natL xs) ^^^ crcOf (natL (ys.take k)) ^^^ crcOf (natL (zs.take k)) = s4 at *
      generalize crcOf (natL xs) ^^^ crcOf (natL (ys.take k)) = s12 at *
      generalize crcOf (natL xs) = s1 at *
      generalize crcOf (natL (ys.take k)) = s2 at *
      generalize crcOf (natL (zs.take k)) = s3 at *
      go_wp2
      obtain ⟨mS, mh⟩ : ∃ S : World → Prop, ∀ w', S w' ↔ (True) := ⟨_, fun _ => Iff.rfl⟩
      have mn : Nonempty (Memb mS) := ⟨⟨(wr).drew, (mh _).2 trivial⟩⟩
      have mH := Lib.hid mh
      clear mh
      refine wp_region_mix [1, 3, 8, 14] (InS mS) (by kernel_rfl) (by kernel_rfl) (InS.mk ((mH.out _).2 trivial)) ?_
      refine wpMix_seg 1 (by kernel_rfl) (by decide) ?_
      simp only [List.take_succ_cons, List.take_zero, List.drop_succ_cons, List.drop_zero]
      repeat (go_big_quiet_step (fail))
      refine wpQuiet_nil ?_
      refine wpMix_eff (by kernel_rfl) ?_
      go_wp2_with fail
      refine (SA.out _ B9.out.drew).mono ?_
      rintro e w2 ⟨rfl, k2⟩
      have K2 := Lib.hid (HK.out.drew.trans k2 (T := None) (fun _ h => h) (fun _ _ h => h))
      clear k2
      go_wp2
      refine MixK.on (InS.mk ((mH.out _).2 trivial)) ?_
      refine wpMix_seg 1 (by kernel_rfl) (by decide) ?_
      simp only [List.take_succ_cons, List.take_zero, List.drop_succ_cons, List.drop_zero]
      repeat (go_big_quiet_step (fail))
      refine wpQuiet_nil ?_
      refine wpMix_eff (by kernel_rfl) ?_
      go_wp2_with fail
      refine (SB'.out _ (H1.out.keeps K2.out (fun _ _ _ _ _ h => h))).mono ?_
      rintro e w3 ⟨rfl, k3⟩
      have K3 := Lib.hid (K2.out.trans k3 (T := None) (fun _ h => h) (fun _ _ h => h))
      clear k3
      go_wp2
      refine MixK.on (InS.mk ((mH.out _).2 trivial)) ?_
      refine wpMix_seg 4 (by kernel_rfl) (by decide) ?_
      simp only [List.take_succ_cons, List.take_zero, List.drop_succ_cons, List.drop_zero]
      repeat (go_big_quiet_step (fail))
      refine wpQuiet_nil ?_
      refine wpMix_eff (by kernel_rfl) ?_
      go_wp2_with fail
      refine (SC.out _ (T2.out.keeps K3.out (fun _ _ _ _ _ h => h))).mono ?_
      rintro e w4 ⟨rfl, k4⟩
      have K4 := Lib.hid (K3.out.trans k4 (T := None) (fun _ h => h) (fun _ _ h => h))
      clear k4
      go_wp2
      refine MixK.on (InS.mk ((mH.out _).2 trivial)) ?_
      refine wpMix_seg 5 (by kernel_rfl) (by decide) ?_
      simp only [List.take_succ_cons, List.take_zero, List.drop_succ_cons, List.drop_zero]
      repeat (go_big_quiet_step (fail))
      refine wpQuiet_nil ?_
      refine wpMix_eff (by kernel_rfl) ?_
      go_wp2_with fail
      refine (SD.out _ (T3.out.keeps K4.out (fun _ _ _ _ _ h => h))).mono ?_
      rintro e w5 ⟨rfl, k5⟩
      have K5 := Lib.hid (K4.out.trans k5 (T := None) (fun _ h => h) (fun _ _ h => h))
      clear k5
      go_wp2
      refine MixK.on (InS.mk ((mH.out _).2 trivial)) ?_
      refine wpMix_seg 3 (by kernel_rfl) (by decide) ?_
      simp only [List.take_succ_cons, List.take_zero, List.drop_succ_cons, List.drop_zero]
      repeat (go_big_quiet_step (fail))
      refine wpQuiet_nil ?_
      refine wpMix_nil ?_
      clear  mn mH
      go_wp2
      go_ret
      exact ⟨by first | rfl | simp, K5.out.below (fun _ _ h => h)⟩
set_option maxRecDepth 100000 in
theorem SealMixes_lifted (os : Os) (started : os.Started) (H : Type) (enc : TypeId × Value → H) :
    ReturnsInHanded {} Try.checked os 10 .any (Rows.sealMixesSpec.pre6 enc Try.prog Try.f10 Rows.sealMixesRow.domain false) (Rows.sealMixesSpec.post enc Try.prog Try.f10 false true false false) := by
  refine returnsInHanded_of_change (C := Try.checked) Try.own started (by kernel_rfl) Try.func10
    (ChangeSpec.witness6 (enc := enc) (C := Try.checked) false ⟨#[], #[.slice none 0 0, .slice none 0 0, .slice none 0 0], []⟩ 8 (by kernel_rfl) (by kernel_rfl) (by kernel_rfl) (by kernel_rfl)) ?_
  intro W base args ds gs before hval0 hW hcnd _
  have hval : ∀ (j : Nat) t v, Try.f10.params[j]? = some t → args[j]? = some v → Value.okWide Try.prog W .any base t v := hval0
  have hW' := hW
  obtain ⟨p, q, hA0, hV, rfl, hfz, hnd⟩ := hW
  have hA : DataW.TrodAll enc Try.prog W 0 (fun _ => true) true Try.f10.params.toList args.toList ds p := hA0
  rw [Try.params10] at hA hval
  obtain ⟨v0, vs0, d0, ds0, p0, q0, hargs, rfl, rfl, h0, r0⟩ := trodAll_cons hA
  obtain ⟨v1, vs1, d1, ds1, p1, q1, rfl, rfl, rfl, h1, r1⟩ := trodAll_cons r0
  obtain ⟨v2, vs2, d2, ds2, p2, q2, rfl, rfl, rfl, h2, r2⟩ := trodAll_cons r1
  obtain ⟨rfl, rfl, rfl⟩ := trodAll_nil r2
  obtain rfl : args = #[v0, v1, v2] := by cases args; simp_all
  obtain ⟨rfl, rfl⟩ := trodVars_none hV
  have k0 := h0
  have lt0 : ∀ x ∈ p0, x.block < W.heap.size := by obtain ⟨m, hm⟩ := k0; exact DataW.trod_lt m _ _ _ hm
  obtain ⟨a0, len0, cap0, rfl⟩ := okWide_slice Try.underlying22 (hval 0 22 v0 rfl rfl)
  obtain ⟨z0, s0⟩ := open_bs h0
  have k1 := h1
  have lt1 : ∀ x ∈ p1, x.block < W.heap.size := by obtain ⟨m, hm⟩ := k1; exact DataW.trod_lt m _ _ _ hm
  obtain ⟨a1, len1, cap1, rfl⟩ := okWide_slice Try.underlying22 (hval 1 22 v1 rfl rfl)
  obtain ⟨z1, s1⟩ := open_bs h1
  have k2 := h2
  have lt2 : ∀ x ∈ p2, x.block < W.heap.size := by obtain ⟨m, hm⟩ := k2; exact DataW.trod_lt m _ _ _ hm
  obtain ⟨a2, len2, cap2, rfl⟩ := okWide_slice Try.underlying22 (hval 2 22 v2 rfl rfl)
  obtain ⟨z2, s2⟩ := open_bs h2
  clear hA0 hval0
  refine (mixes5_any a0 a1 a2 len0 cap0 len1 cap1 len2 cap2 z0 z1 z2 W s0 s1 s2).mono fun e W' ⟨he, bel⟩ => ?_
  subst he
  exact ⟨_, rfl, _, _, _, [], _, [], hW', trodAll_mk1 (shut_bool Try.underlying4 _), (trodAll_cons_mk (Below.trod Try.laidOut (by kernel_rfl) (of_decide_eq_true (by kernel_rfl)) k0 bel lt0) (trodAll_cons_mk (Below.trod Try.laidOut (by kernel_rfl) (of_decide_eq_true (by kernel_rfl)) k1 bel lt1) (trodAll_cons_mk (Below.trod Try.laidOut (by kernel_rfl) (of_decide_eq_true (by kernel_rfl)) k2 bel lt2) trodAll_mk0))), rfl, bel.frame _, fun h => by cases h⟩

set_option maxRecDepth 100000 in
theorem SealMixes_closed : joinedFacts Try.checked.prog 10 Try.f10 Rows.sealMixesSpec Rows.sealMixesRow = true := by
  unfold joinedFacts
  rw [closed_laid, closed_maps, closed_heard, closed_plain, closed_mayEnter, closed_lifts, closed_make]
  kernel_rfl

theorem SealMixes_holds : Rows.SealMixesSaid :=
  OpenClaim.holds_of_wide 10 Try.f10 rfl rfl rfl rfl rfl rfl rfl ⟨rfl, rfl, rfl, rfl, rfl⟩ rfl rfl rfl rfl rfl (by kernel_rfl) Try.func10 SealMixes_closed
    (of_decide_eq_true (by kernel_rfl)) (by unfold Func.isWrapper; first | (rw [if_pos (by decide +kernel)]; kernel_rfl) | (rw [if_neg (by decide +kernel)]; exact ⟨rfl, rfl⟩))
    (fun os started H enc _ => SealMixes_lifted os started H enc)
#print axioms SealMixes_holds
end Go.Proofs.Yteogaacdmoafpaa
