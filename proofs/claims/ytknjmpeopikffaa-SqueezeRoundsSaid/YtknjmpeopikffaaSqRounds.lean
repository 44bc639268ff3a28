/-
  For every head, round and number, the law SqueezeRounds returns true: bytes that go round come to the first round, and to a copy for each 257. No condition.
-/
import Derived.Test.YtknjmpeopikffaaSqPlain
import Derived.Test.YtknjmpeopikffaaInit
namespace Go.Proofs.Ytknjmpeopikffaa
open Go.RowKit Go.ChangeShapes Go.WideShapes Go.ChangeAt

theorem wf_u8_b {x : Int} (h : 0 ≤ x ∧ x ≤ 255) (y : Nat) (hy : y < 100) : IntKind.u8.wrap (x + y) = (x + y) % 256 := by
  show (x + y) % 256 = _
  rfl
set_option maxRecDepth 100000 in
set_option maxHeartbeats 1600000 in
theorem rounds21_any (hd r0 n0 : Int) (W : World) (hh : 0 ≤ hd ∧ hd ≤ 255) :
    Calls Try.prog 14 #[.int .u8 hd, .int .i64 r0, .int .i64 n0] W fun e w' => e = .returned (.bool true) ∧ Below W.heap.size W w' := by
  have h0 := hh.1
  have h1 := hh.2
  by_cases g1 : r0 < 1
  · have d1 : decide (r0 < 1) = true := decide_eq_true g1
    go_enter Try.func14, Try.ntmps14
    go_wp2_with fail
    refine (alive21_any W).mono ?_
    rintro e w1 ⟨rfl, k1⟩
    have K1 := Lib.hid k1
    clear k1
    go_wp2
    go_ret
    exact ⟨rfl, K1.out.below (fun _ _ h => h)⟩
  have d1 : decide (r0 < 1) = false := decide_eq_false g1
  by_cases g2 : 100 < r0
  · have d2 : decide (100 < r0) = true := decide_eq_true g2
    go_enter Try.func14, Try.ntmps14
    go_wp2_with fail
    refine (alive21_any W).mono ?_
    rintro e w1 ⟨rfl, k1⟩
    have K1 := Lib.hid k1
    clear k1
    go_wp2
    go_ret
    exact ⟨rfl, K1.out.below (fun _ _ h => h)⟩
  have d2 : decide (100 < r0) = false := decide_eq_false g2
  by_cases g3 : n0 < 0
  · have d3 : decide (n0 < 0) = true := decide_eq_true g3
    go_enter Try.func14, Try.ntmps14
    go_wp2_with fail
    refine (alive21_any W).mono ?_
    rintro e w1 ⟨rfl, k1⟩
    have K1 := Lib.hid k1
    clear k1
    go_wp2
    go_ret
    exact ⟨rfl, K1.out.below (fun _ _ h => h)⟩
  have d3 : decide (n0 < 0) = false := decide_eq_false g3
  by_cases g4 : 900 < n0
  · have d4 : decide (900 < n0) = true := decide_eq_true g4
    go_enter Try.func14, Try.ntmps14
    go_wp2_with fail
    refine (alive21_any W).mono ?_
    rintro e w1 ⟨rfl, k1⟩
    have K1 := Lib.hid k1
    clear k1
    go_wp2
    go_ret
    exact ⟨rfl, K1.out.below (fun _ _ h => h)⟩
  have d4 : decide (900 < n0) = false := decide_eq_false g4
  obtain ⟨r, rfl⟩ : ∃ r : Nat, r0 = r := ⟨r0.toNat, by omega⟩
  obtain ⟨n, rfl⟩ : ∃ n : Nat, n0 = n := ⟨n0.toNat, by omega⟩
  have r1 : 1 ≤ r := by omega
  have r2 : r ≤ 100 := by omega
  have n9 : n ≤ 900 := by omega
  clear g1 g2 g3 g4
  have HH := Lib.hid hh
  clear hh
  go_enter Try.func14, Try.ntmps14
  go_wp2_with fail
  refine (alive21_any W).mono ?_
  rintro e w1 ⟨rfl, k1⟩
  have K1 := Lib.hid k1
  clear k1
  go_wp2
  go_loopw [8, 9] (fun bv iv wr => ∃ i : Nat, i ≤ r + n ∧ iv = .int .i64 i ∧ Own wr W.heap.size bv (rz hd r i) ∧ Keeps None W wr) (fun _ iv _ => r + n - (intOf iv).toNat)
  case atStart => exact ⟨0, Nat.zero_le _, rfl, Own.nil _ _, K1.out⟩
  case round =>
    obtain ⟨i, hi, rfl, ho, hk⟩ := hrel
    have HK := Lib.hid hk
    have HO := Lib.hid ho
    obtain ⟨A4, c4, rfl, b4, -⟩ := ho.shape
    rw [rz_len] at HO ⊢
    have l4 : i ≤ c4 := by have := b4.le; rw [rz_len] at this; exact this
    have m4 := b4.max
    have B4 := Lib.hid b4
    obtain ⟨wv, rfl⟩ : ∃ x, x = wr := ⟨_, rfl⟩
    clear hk ho b4 K1
    by_cases hlt : i < r + n
    · have e1 : decide ((i : Int) < (r : Int) + n) = true := decide_eq_true (by omega)
      have rp : 0 < r := r1
      have q2 := Nat.mod_lt i rp
      obtain ⟨q, hq⟩ : ∃ q, i % r = q := ⟨_, rfl⟩
      have tm : (i : Int).tmod r = (q : Int) := by rw [← hq]; rfl
      have ZS := Lib.hid (rz_one hd r i)
      rw [hq] at q2 ZS
      have q100 : q ≤ 99 := by omega
      have rz0 : ((r : Int) == 0) = false := by simp; omega
      obtain ⟨z, hz⟩ : ∃ z, (hd + (q : Int)) % 256 = z := ⟨_, rfl⟩
      have zb : 0 ≤ z ∧ z ≤ 255 := by omega
      rw [hz] at ZS
      have wz : IntKind.u8.wrap (hd + q) = z := hz
      have ZB := Lib.hid zb
      clear hq hz zb
      go_wp2_with (at_builtin; refine Hid.out ?_)
      refine Lib.hid ?_
      refine wpList_append_bs (HO.out.alloc (.cells #[.int .u8 z] 5)) (Bs.oneAt _ _ rfl z ZB.out) (by rw [rz_len]; omega) ((HK.out.alloc (.cells #[.int .u8 z] 5)).size) rfl rfl rfl rfl rfl ?_
      intro v5 w5 o5 k5
      have O5 := Lib.hid o5
      have HOA := HO.out.alloc (.cells #[.int .u8 z] 5)
      have K5 := Lib.hid ((HK.out.alloc (.cells #[.int .u8 z] 5)).trans k5 (T := None) (fun _ h => h) (fun k hk e => (HOA.notBelow hk e).elim))
      rw [← ZS.out] at O5
      clear o5 k5 HOA HO HK B4
      go_wp2
      go_roundw
      case rel => exact ⟨i + 1, by omega, by go_num, O5.out, K5.out⟩
      case measure => simp [intOf]; omega
    · obtain rfl : i = r + n := by omega
      have BL : Hid (Bs wv A4 (r + n) c4 (rz hd r (r + n))) := by have := B4.out; rw [rz_len] at this; exact this
      have QT := Lib.hid (qtok_any A4 (r + n) c4 _ wv BL.out)
      have PK : Hid (∀ ts, TokTo (rz hd r (r + n)) ts (r + n) → ts.length = r + n / 257 + (if 3 ≤ n % 257 then 1 else n % 257) ∧ plainL ts = rz hd r (r + n)) := fun ts ht => ⟨rz_all hd r n r1 r2 ht, TokTo.plainL (by rw [rz_len]; exact ht) (by rw [rz_len]; omega)⟩
      obtain ⟨zz, hzz⟩ : ∃ x, rz hd r (r + n) = x := ⟨_, rfl⟩
      have ZL : Hid (zz.length = r + n) := by show _ = _; rw [← hzz]; exact rz_len _ _ _
      rw [hzz] at BL QT PK
      clear hzz HO B4
      obtain ⟨k, hk⟩ : ∃ x, n / 257 = x := ⟨_, rfl⟩
      obtain ⟨m, hm⟩ : ∃ x, n % 257 = x := ⟨_, rfl⟩
      rw [hk, hm] at PK
      have td : (n : Int).tdiv 257 = (k : Int) := by rw [← hk]; rfl
      have tm : (n : Int).tmod 257 = (m : Int) := by rw [← hm]; rfl
      have dv : (n : Int) / 257 = (k : Int) := by omega
      have md : (n : Int) % 257 = (m : Int) := by omega
      have k9 : k ≤ 3 := by omega
      have m9 : m ≤ 256 := by omega
      clear hk hm
      go_wp2_with fail
      refine QT.out.mono ?_
      rintro e w6 ⟨v6, rfl, o6, wf6, to6, k6⟩
      have TT := Lib.hid (PK.out _ (ZL.out ▸ to6 (by have := ZL.out; omega)))
      obtain ⟨A6, c6, rfl, t6, -⟩ := o6.shape wf6
      have T6 := Lib.hid t6
      have l6 := t6.le
      have m6 := t6.max
      have B6 := Lib.hid (BL.out.keeps k6 (fun _ _ _ _ _ h => h))
      have K6 := Lib.hid (HK.out.trans k6 (T := None) (fun _ h => h) (fun _ _ h => h))
      clear o6 wf6 to6 k6 t6 QT BL HK PK
      generalize sqT zz = ts at *
      obtain ⟨sz, hsz⟩ : ∃ sz, strOf zz = sz := ⟨_, rfl⟩
      have HSZ := Lib.hid hsz
      have qz : (sz.toList == sz.toList) = true := by simp
      clear hsz
      have TL := TT.out.1
      have PLT := Lib.hid TT.out.2
      obtain ⟨lt, hlt2⟩ : ∃ x, ts.length = x := ⟨_, rfl⟩
      rw [hlt2] at TL T6 l6 ⊢
      clear TT hlt2
      by_cases h3 : 3 ≤ m
      · rw [if_pos h3] at TL
        have d5 : decide ((3 : Int) ≤ m) = true := decide_eq_true (by omega)
        subst TL
        have y1 : ((r : Int) + k + 1 == (r : Int) + ((k : Int) + 1)) = true := by simp; omega
        have y2 : ((r : Int) + k + 1 == (r : Int) + ((k : Int) + 1) + 0) = true := by simp; omega
        have y3 : (((r + k + 1 : Nat) : Int) == (r : Int) + ((k : Int) + 1)) = true := by simp; omega
        go_wp2
        obtain ⟨mxS, mxh⟩ : ∃ S : World → Prop, ∀ w', S w' ↔ (((convert 32 9 (.slice A4 (r + n) c4)).run Try.prog w' = .ok (.string sz) w')) := ⟨_, fun _ => Iff.rfl⟩
        have mxk0 : ∀ x : Memb mxS, (convert 32 9 (.slice A4 (r + n) c4)).run Try.prog x.at_ = .ok (.string sz) x.at_ := fun x => ((mxh _).1 x.is)
        have mxn : Nonempty (Memb mxS) := ⟨⟨(w6).drew, (mxh _).2 ((HSZ.out ▸ run_str B6.out.drew))⟩⟩
        have mxH := Lib.hid mxh
        clear mxh
        refine wp_region_mix [10, 11] (InS mxS) (by kernel_rfl) (by kernel_rfl) (InS.mk ((mxH.out _).2 ((HSZ.out ▸ run_str B6.out.drew)))) ?_
        refine wpMix_seg 10 (by kernel_rfl) (by decide) ?_
        simp only [List.take_succ_cons, List.take_zero, List.drop_succ_cons, List.drop_zero]
        repeat (first | go_big_quiet_step (fail) | (go_big_quiet_want; first | refine quiet_conv mxk0 rfl rfl rfl (by simp only [Act.put, List.setIfInBounds_toArray, List.set_cons_succ, List.set_cons_zero]; rfl) ?_; go_big_quiet_on))
        refine wpQuiet_nil ?_
        refine wpMix_eff (by kernel_rfl) ?_
        go_wp2_with fail
        refine (tkplain_any A6 _ c6 _ _ T6.out.drew).mono ?_
        rw [PLT.out]
        rintro e w7 ⟨v7, rfl, o7, k7⟩
        obtain ⟨A7, c7, rfl, b7, -⟩ := o7.shape
        rw [ZL.out] at b7 ⊢
        have B7 := Lib.hid (B6.out.drew.keeps k7 (fun _ _ _ _ _ h => h))
        have K7 := Lib.hid (K6.out.drew.trans k7 (T := None) (fun _ h => h) (fun _ _ h => h))
        have sd := run_str b7
        rw [HSZ.out] at sd
        clear o7 k7 b7
        go_wp2
        refine MixK.on (InS.mk ((mxH.out _).2 ((HSZ.out ▸ run_str B7.out)))) ?_
        refine wpMix_eff (by kernel_rfl) ?_
        go_wp2
        refine MixK.on (InS.mk ((mxH.out _).2 ((HSZ.out ▸ run_str B7.out)))) ?_
        refine wpMix_seg 5 (by kernel_rfl) (by decide) ?_
        simp only [List.take_succ_cons, List.take_zero, List.drop_succ_cons, List.drop_zero]
        repeat (first | go_big_quiet_step (fail) | (go_big_quiet_want; first | refine quiet_conv mxk0 rfl rfl rfl (by simp only [Act.put, List.setIfInBounds_toArray, List.set_cons_succ, List.set_cons_zero]; rfl) ?_; go_big_quiet_on))
        refine wpQuiet_nil ?_
        refine wpMix_nil ?_
        clear mxk0 mxn mxH
        go_wp2
        go_ret
        exact ⟨by simp, K7.out.below (fun _ _ h => h)⟩
      · rw [if_neg h3] at TL
        have d5 : decide ((3 : Int) ≤ m) = false := decide_eq_false (by omega)
        subst TL
        go_wp2
        obtain ⟨mxS, mxh⟩ : ∃ S : World → Prop, ∀ w', S w' ↔ (((convert 32 9 (.slice A4 (r + n) c4)).run Try.prog w' = .ok (.string sz) w')) := ⟨_, fun _ => Iff.rfl⟩
        have mxk0 : ∀ x : Memb mxS, (convert 32 9 (.slice A4 (r + n) c4)).run Try.prog x.at_ = .ok (.string sz) x.at_ := fun x => ((mxh _).1 x.is)
        have mxn : Nonempty (Memb mxS) := ⟨⟨(w6).drew, (mxh _).2 ((HSZ.out ▸ run_str B6.out.drew))⟩⟩
        have mxH := Lib.hid mxh
        clear mxh
        refine wp_region_mix [10, 11] (InS mxS) (by kernel_rfl) (by kernel_rfl) (InS.mk ((mxH.out _).2 ((HSZ.out ▸ run_str B6.out.drew)))) ?_
        refine wpMix_seg 10 (by kernel_rfl) (by decide) ?_
        simp only [List.take_succ_cons, List.take_zero, List.drop_succ_cons, List.drop_zero]
        repeat (first | go_big_quiet_step (fail) | (go_big_quiet_want; first | refine quiet_conv mxk0 rfl rfl rfl (by simp only [Act.put, List.setIfInBounds_toArray, List.set_cons_succ, List.set_cons_zero]; rfl) ?_; go_big_quiet_on))
        refine wpQuiet_nil ?_
        refine wpMix_eff (by kernel_rfl) ?_
        go_wp2_with fail
        refine (tkplain_any A6 _ c6 _ _ T6.out.drew).mono ?_
        rw [PLT.out]
        rintro e w7 ⟨v7, rfl, o7, k7⟩
        obtain ⟨A7, c7, rfl, b7, -⟩ := o7.shape
        rw [ZL.out] at b7 ⊢
        have B7 := Lib.hid (B6.out.drew.keeps k7 (fun _ _ _ _ _ h => h))
        have K7 := Lib.hid (K6.out.drew.trans k7 (T := None) (fun _ h => h) (fun _ _ h => h))
        have sd := run_str b7
        rw [HSZ.out] at sd
        clear o7 k7 b7
        go_wp2
        refine MixK.on (InS.mk ((mxH.out _).2 ((HSZ.out ▸ run_str B7.out)))) ?_
        refine wpMix_eff (by kernel_rfl) ?_
        go_wp2
        refine MixK.on (InS.mk ((mxH.out _).2 ((HSZ.out ▸ run_str B7.out)))) ?_
        refine wpMix_seg 5 (by kernel_rfl) (by decide) ?_
        simp only [List.take_succ_cons, List.take_zero, List.drop_succ_cons, List.drop_zero]
        repeat (first | go_big_quiet_step (fail) | (go_big_quiet_want; first | refine quiet_conv mxk0 rfl rfl rfl (by simp only [Act.put, List.setIfInBounds_toArray, List.set_cons_succ, List.set_cons_zero]; rfl) ?_; go_big_quiet_on))
        refine wpQuiet_nil ?_
        refine wpMix_nil ?_
        clear mxk0 mxn mxH
        go_wp2
        go_ret
        exact ⟨by simp, K7.out.below (fun _ _ h => h)⟩
set_option maxRecDepth 100000 in
theorem SqueezeRounds_lifted (os : Os) (started : os.Started) (H : Type) (enc : TypeId × Value → H) :
    ReturnsInHanded {} Try.checked os 14 .any (Rows.squeezeRoundsSpec.pre6 enc Try.prog Try.f14 Rows.squeezeRoundsRow.domain false) (Rows.squeezeRoundsSpec.post enc Try.prog Try.f14 false true false false) := by
  refine returnsInHanded_of_change (C := Try.checked) Try.own started (by kernel_rfl) Try.func14
    (ChangeSpec.witness6 (enc := enc) (C := Try.checked) false ⟨#[], #[.int .u8 0, .int .i64 0, .int .i64 0], []⟩ 8 (by kernel_rfl) (by kernel_rfl) (by kernel_rfl) (by kernel_rfl)) ?_
  intro W base args ds gs before hval0 hW hcnd _
  have hval : ∀ (j : Nat) t v, Try.f14.params[j]? = some t → args[j]? = some v → Value.okWide Try.prog W .any base t v := hval0
  have hW' := hW
  obtain ⟨p, q, hA0, hV, rfl, hfz, hnd⟩ := hW
  have hA : DataW.TrodAll enc Try.prog W 0 (fun _ => true) true Try.f14.params.toList args.toList ds p := hA0
  rw [Try.params14] at hA hval
  obtain ⟨v0, vs0, d0, ds0, p0, q0, hargs, rfl, rfl, h0, r0⟩ := trodAll_cons hA
  obtain ⟨v1, vs1, d1, ds1, p1, q1, rfl, rfl, rfl, h1, r1⟩ := trodAll_cons r0
  obtain ⟨v2, vs2, d2, ds2, p2, q2, rfl, rfl, rfl, h2, r2⟩ := trodAll_cons r1
  obtain ⟨rfl, rfl, rfl⟩ := trodAll_nil r2
  obtain rfl : args = #[v0, v1, v2] := by cases args; simp_all
  obtain ⟨rfl, rfl⟩ := trodVars_none hV
  have k0 := h0
  have lt0 : ∀ x ∈ p0, x.block < W.heap.size := by obtain ⟨m, hm⟩ := k0; exact DataW.trod_lt m _ _ _ hm
  obtain ⟨a0, rfl, rfl, rfl, w0⟩ := open_int Try.underlying5 (hval 0 5 v0 rfl rfl) h0
  have k1 := h1
  have lt1 : ∀ x ∈ p1, x.block < W.heap.size := by obtain ⟨m, hm⟩ := k1; exact DataW.trod_lt m _ _ _ hm
  obtain ⟨a1, rfl, rfl, rfl, w1⟩ := open_int Try.underlying3 (hval 1 3 v1 rfl rfl) h1
  have k2 := h2
  have lt2 : ∀ x ∈ p2, x.block < W.heap.size := by obtain ⟨m, hm⟩ := k2; exact DataW.trod_lt m _ _ _ hm
  obtain ⟨a2, rfl, rfl, rfl, w2⟩ := open_int Try.underlying3 (hval 2 3 v2 rfl rfl) h2
  clear hA0 hval0
  refine (rounds21_any a0 a1 a2 W (wf_u8_bd w0)).mono fun e W' ⟨he, bel⟩ => ?_
  subst he
  exact ⟨_, rfl, _, _, _, [], _, [], hW', trodAll_mk1 (shut_bool Try.underlying4 _), (trodAll_cons_mk (Below.trod Try.laidOut (by kernel_rfl) (of_decide_eq_true (by kernel_rfl)) k0 bel lt0) (trodAll_cons_mk (Below.trod Try.laidOut (by kernel_rfl) (of_decide_eq_true (by kernel_rfl)) k1 bel lt1) (trodAll_cons_mk (Below.trod Try.laidOut (by kernel_rfl) (of_decide_eq_true (by kernel_rfl)) k2 bel lt2) trodAll_mk0))), rfl, bel.frame _, fun h => by cases h⟩

set_option maxRecDepth 100000 in
theorem SqueezeRounds_closed : joinedFacts Try.checked.prog 14 Try.f14 Rows.squeezeRoundsSpec Rows.squeezeRoundsRow = true := by
  unfold joinedFacts
  rw [closed_laid, closed_maps, closed_heard, closed_plain, closed_mayEnter, closed_lifts, closed_make]
  kernel_rfl

theorem SqueezeRounds_holds : Rows.SqueezeRoundsSaid :=
  OpenClaim.holds_of_wide 14 Try.f14 rfl rfl rfl rfl rfl rfl rfl ⟨rfl, rfl, rfl, rfl, rfl⟩ rfl rfl rfl rfl rfl (by kernel_rfl) Try.func14 SqueezeRounds_closed
    (of_decide_eq_true (by kernel_rfl)) (by unfold Func.isWrapper; first | (rw [if_pos (by decide +kernel)]; kernel_rfl) | (rw [if_neg (by decide +kernel)]; exact ⟨rfl, rfl⟩))
    (fun os started H enc _ => SqueezeRounds_lifted os started H enc)
#print axioms SqueezeRounds_holds
end Go.Proofs.Ytknjmpeopikffaa
