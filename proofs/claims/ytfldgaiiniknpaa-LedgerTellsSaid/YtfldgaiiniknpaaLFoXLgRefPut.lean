
/- The walk of the reference's PutCommit. -/
import Derived.Test.YtfldgaiiniknpaaLFoXLgRef
namespace Go.Proofs.Ytfldgaiiniknpaa
open Go.RowKit

theorem own_app_len {w : World} {B a b n : Nat} {v : Value} {zs ys : List Int} (_ : Own w B v (zs ++ ys)) (h1 : zs.length = a) (h2 : ys.length = b) (e : a + b = n) : Hid ((zs ++ ys).length = n) := Lib.hid (by rw [List.length_append, h1, h2, e])
set_option maxRecDepth 100000 in
set_option maxHeartbeats 1600000 in
theorem rgputc_any (c : Com) (o : c.ok) (w : World) : Calls Try.prog 13 #[c.v] w (Cloned w (comL c)) := by
  unfold Com.v
  have a0 : c.cs.toArray[0]? = some (.int .i64 c.slot) := rfl
  have a1 : c.cs.toArray[1]? = some (.int .u64 (c.ver : Int)) := rfl
  have a2 : c.cs.toArray[2]? = some (.int .u64 (c.fl : Int)) := rfl
  have a3 : c.cs.toArray[3]? = some (.int .i64 c.len) := rfl
  have BL := Lib.hid (Blk.new w c.cs 25)
  have ML := Lib.hid o.ml
  have MB := Lib.hid o.mb
  have ME := Lib.hid (show ∀ i, i < 64 → c.cs[4 + i]? = some (.int .u8 (c.me.getD i 0)) from fun i hi => by
    rw [Nat.add_comm, show c.cs[i + 4]? = (c.me.map (.int .u8))[i]? from rfl]
    exact map_getD 0 (by rw [o.ml]; exact hi))
  have VV := Lib.hid o.v
  have FF := Lib.hid o.f
  obtain ⟨A, hA⟩ : ∃ A, c.cs.toArray = A := ⟨_, rfl⟩
  rw [hA] at a0 a1 a2 a3 BL ⊢
  clear hA o
  by_cases g3 : c.len < 0
  · have d3 : decide (c.len < 0) = true := decide_eq_true g3
    by_cases g1 : c.slot = 0
    · have e1 : (c.slot != 0) = false := by simp [g1]
      have HP : Hid (comL c = []) := if_neg (fun h => by obtain ⟨f1, f2, f3, f4⟩ := h; omega)
      go_enter Try.func13, Try.ntmps13
      go_wp2
      go_ret
      exact ⟨_, rfl, by rw [HP.out]; exact Own.nil _ _, (Keeps.refl _ _).alloc _⟩
    have e1 : (c.slot != 0) = true := by simpa using g1
    by_cases g2 : c.slot = 1
    · have e2 : (c.slot != 1) = false := by simp [g2]
      have HP : Hid (comL c = []) := if_neg (fun h => by obtain ⟨f1, f2, f3, f4⟩ := h; omega)
      go_enter Try.func13, Try.ntmps13
      go_wp2
      go_ret
      exact ⟨_, rfl, by rw [HP.out]; exact Own.nil _ _, (Keeps.refl _ _).alloc _⟩
    have e2 : (c.slot != 1) = true := by simpa using g2
    have HP : Hid (comL c = []) := if_neg (fun h => by obtain ⟨f1, f2, f3, f4⟩ := h; omega)
    go_enter Try.func13, Try.ntmps13
    go_wp2
    go_ret
    exact ⟨_, rfl, by rw [HP.out]; exact Own.nil _ _, (Keeps.refl _ _).alloc _⟩
  have d3 : decide (c.len < 0) = false := decide_eq_false g3
  by_cases g4 : 2147483647 < c.len
  · have d4 : decide (2147483647 < c.len) = true := decide_eq_true g4
    by_cases g1 : c.slot = 0
    · have e1 : (c.slot != 0) = false := by simp [g1]
      have HP : Hid (comL c = []) := if_neg (fun h => by obtain ⟨f1, f2, f3, f4⟩ := h; omega)
      go_enter Try.func13, Try.ntmps13
      go_wp2
      go_ret
      exact ⟨_, rfl, by rw [HP.out]; exact Own.nil _ _, (Keeps.refl _ _).alloc _⟩
    have e1 : (c.slot != 0) = true := by simpa using g1
    by_cases g2 : c.slot = 1
    · have e2 : (c.slot != 1) = false := by simp [g2]
      have HP : Hid (comL c = []) := if_neg (fun h => by obtain ⟨f1, f2, f3, f4⟩ := h; omega)
      go_enter Try.func13, Try.ntmps13
      go_wp2
      go_ret
      exact ⟨_, rfl, by rw [HP.out]; exact Own.nil _ _, (Keeps.refl _ _).alloc _⟩
    have e2 : (c.slot != 1) = true := by simpa using g2
    have HP : Hid (comL c = []) := if_neg (fun h => by obtain ⟨f1, f2, f3, f4⟩ := h; omega)
    go_enter Try.func13, Try.ntmps13
    go_wp2
    go_ret
    exact ⟨_, rfl, by rw [HP.out]; exact Own.nil _ _, (Keeps.refl _ _).alloc _⟩
  have d4 : decide (2147483647 < c.len) = false := decide_eq_false g4
  by_cases g1 : c.slot = 0
  · skip
    have HP : Hid (comL c = lowL 8 0 ++ (lowL 8 c.ver ++ (lowL 8 c.fl ++ (lowL 8 c.len.toNat ++ c.me)))) := by rw [show comL c = _ from if_pos ⟨by omega, by omega, by omega, by omega⟩, g1]; rfl
    obtain ⟨ln, hln⟩ : ∃ n : Nat, c.len = n := ⟨c.len.toNat, by omega⟩
    have N2 := Lib.hid (fun w => low8_any c.ver VV.out w)
    have N3 := Lib.hid (fun w => low8_any c.fl FF.out w)
    have N4 := Lib.hid (fun w => low8_any ln (by omega) w)
    rw [g1] at a0
    rw [hln] at a3 d3 d4
    have HQ : Hid (comL c = ((([0] ++ List.replicate 7 0) ++ lowL 8 c.ver) ++ lowL 8 c.fl) ++ lowL 8 ln ++ c.me) := by
      show _ = _
      rw [HP.out, hln]
      simp only [List.append_assoc]
      rfl
    have HC : Hid (c.cs[3]? = some (.int .i64 (ln : Int))) := by show _ = _; rw [← hln]; rfl
    have l1 : ln ≤ 2147483647 := by omega
    clear HP hln g3 g4 g1
    go_enter Try.func13, Try.ntmps13
    obtain ⟨wb, hwb⟩ : ∃ x, w.alloc (.cells A 25) = x := ⟨_, rfl⟩
    have KB : Hid (Keeps None w wb) := by rw [← hwb]; exact (Keeps.refl None w).alloc _
    have HS : Hid (wb.heap.size = w.heap.size + 1) := by show _ = _; rw [← hwb]; simp
    rw [hwb] at BL
    have HWB := Lib.hid hwb
    clear hwb
    go_wp2_with (at_builtin; refine Hid.out ?_)
    rw [HWB.out, ← HS.out]
    refine Lib.hid ?_
    refine wpList_zeros wb.heap.size [0] 1 7 8 5 (Blk.new wb [.int .u8 0] 5) (by intro z hz; rw [List.mem_singleton.1 hz]; decide) rfl rfl (by decide) (by decide) (by decide) (by rfl) (by rfl) (by rfl) (by rfl) (by rfl) ?_
    intro A3 cap3 w3 o3 k3
    have O3 : Hid (Own w3 wb.heap.size (.slice A3 8 cap3) ([0] ++ List.replicate 7 0)) := o3.lower (by simp)
    have X3 : Hid (Keeps None wb w3) := ((Keeps.refl None wb).alloc _).trans k3 (fun _ h => h) (fun _ _ h => h)
    have L3 : Hid (([0] ++ List.replicate 7 0 : List Int).length = 8) := rfl
    clear o3 k3 a0 a1 a2 a3 HWB HS
    have CB : Hid (∀ w2, Keeps None wb w2 → w2.cell? ⟨w.heap.size, 1, none⟩ = some (.int .u64 (c.ver : Int)) ∧ w2.cell? ⟨w.heap.size, 2, none⟩ = some (.int .u64 (c.fl : Int))) := fun w2 k => ⟨(k.blk BL.out (fun h => h)).cellD 1 _ rfl, (k.blk BL.out (fun h => h)).cellD 2 _ rfl⟩
    have CC : Hid (∀ w2, Keeps None wb w2 → w2.cell? ⟨w.heap.size, 3, none⟩ = some (.int .i64 (ln : Int))) := fun w2 k => (k.blk BL.out (fun h => h)).cellD 3 _ HC.out
    have ARR : Hid (∀ w2, Keeps None wb w2 → Bs w2 (some ⟨w.heap.size, 4, none⟩) 64 64 c.me) := fun w2 k => ⟨ML.out, Nat.le_refl _, by decide, (fun e => by cases e), MB.out, fun _ => ⟨w.heap.size, 4, rfl, (k.blk BL.out (fun h => h)).lt, fun i hi => (k.blk BL.out (fun h => h)).cellD (4 + i) _ (ME.out i hi)⟩⟩
    go_wp2
    obtain ⟨mS, mh⟩ : ∃ S : World → Prop, ∀ w', S w' ↔ (w'.cell? ⟨w.heap.size, 1, none⟩ = some (.int .u64 (c.ver : Int)) ∧ w'.cell? ⟨w.heap.size, 2, none⟩ = some (.int .u64 (c.fl : Int))) := ⟨_, fun _ => Iff.rfl⟩
    have mk0 : ∀ x : Memb mS, x.at_.cell? ⟨w.heap.size, 1, none⟩ = some (.int .u64 (c.ver : Int)) := fun x => ((mh _).1 x.is).1
    have mk1 : ∀ x : Memb mS, x.at_.cell? ⟨w.heap.size, 2, none⟩ = some (.int .u64 (c.fl : Int)) := fun x => ((mh _).1 x.is).2
    have mn : Nonempty (Memb mS) := ⟨⟨(w3).drew, (mh _).2 ⟨(CB.out _ X3.out.drew).1, (CB.out _ X3.out.drew).2⟩⟩⟩
    have mH := Lib.hid mh
    clear mh
    refine wp_region_mix [3, 4, 7, 8] (InS mS) (by kernel_rfl) (by kernel_rfl) (InS.mk ((mH.out _).2 ⟨(CB.out _ X3.out.drew).1, (CB.out _ X3.out.drew).2⟩)) ?_
    refine wpMix_seg 3 (by kernel_rfl) (by decide) ?_
    simp only [List.take_succ_cons, List.take_zero, List.drop_succ_cons, List.drop_zero]
    repeat (go_big_quiet_step (fail))
    refine wpQuiet_nil ?_
    refine wpMix_eff (by kernel_rfl) ?_
    -- N2 the contract, 4 the new mark, O3.out.drew own fact, X3.out.drew keeping fact, #5 own mark
    go_wp2_with fail
    refine (N2.out _).mono ?_
    rintro e w4 ⟨v4, rfl, o4, k4⟩
    obtain ⟨A4, cap4, rfl, bs4, -⟩ := o4.shape
    rw [lowL_len] at bs4 ⊢
    have X4 := Lib.hid (X3.out.drew.trans k4 (T := None) (fun _ h => h) (fun _ _ h => h))
    have O4 := Lib.hid (O3.out.drew.keeps k4 (fun _ _ h => h))
    have C4 := Lib.hid bs4
    clear o4 k4 bs4
    go_wp2
    refine MixK.on (InS.mk ((mH.out _).2 (⟨(CB.out _ X4.out).1, (CB.out _ X4.out).2⟩))) ?_
    refine wpMix_eff (by kernel_rfl) ?_
    -- 4 mark of the call, 5 new mark, 3 mark of the bytes so far, 16 the new length
    go_wp2_with (at_builtin; refine Hid.out ?_)
    refine Lib.hid ?_
    refine wpList_append_bs O4.out C4.out (by rw [L3.out]; decide) X4.out.size rfl rfl rfl rfl rfl ?_
    intro v5 w5 ho5 hk5
    have L5 := own_app_len ho5 L3.out (lowL_len 8 _) (n := 16) rfl
    obtain ⟨A5, cap5, rfl, -, -⟩ := ho5.shape
    rw [L5.out] at ho5 ⊢
    have O5 := Lib.hid ho5
    have X5 := Lib.hid (X4.out.trans hk5 (T := None) (fun _ h => h) (fun i hi e => absurd e (O4.out.notBelow hi)))
    clear ho5 hk5 O4 C4
    go_wp2
    refine MixK.on (InS.mk ((mH.out _).2 (⟨(CB.out _ X5.out).1, (CB.out _ X5.out).2⟩))) ?_
    refine wpMix_seg 2 (by kernel_rfl) (by decide) ?_
    simp only [List.take_succ_cons, List.take_zero, List.drop_succ_cons, List.drop_zero]
    repeat (go_big_quiet_step (fail))
    refine wpQuiet_nil ?_
    refine wpMix_eff (by kernel_rfl) ?_
    -- N3 the contract, 6 the new mark, O5.out own fact, X5.out keeping fact, #5 own mark
    go_wp2_with fail
    refine (N3.out _).mono ?_
    rintro e w6 ⟨v6, rfl, o6, k6⟩
    obtain ⟨A6, cap6, rfl, bs6, -⟩ := o6.shape
    rw [lowL_len] at bs6 ⊢
    have X6 := Lib.hid (X5.out.trans k6 (T := None) (fun _ h => h) (fun _ _ h => h))
    have O6 := Lib.hid (O5.out.keeps k6 (fun _ _ h => h))
    have C6 := Lib.hid bs6
    clear o6 k6 bs6
    go_wp2
    refine MixK.on (InS.mk ((mH.out _).2 (⟨(CB.out _ X6.out).1, (CB.out _ X6.out).2⟩))) ?_
    refine wpMix_eff (by kernel_rfl) ?_
    -- 6 mark of the call, 7 new mark, 5 mark of the bytes so far, 24 the new length
    go_wp2_with (at_builtin; refine Hid.out ?_)
    refine Lib.hid ?_
    refine wpList_append_bs O6.out C6.out (by rw [L5.out]; decide) X6.out.size rfl rfl rfl rfl rfl ?_
    intro v7 w7 ho7 hk7
    have L7 := own_app_len ho7 L5.out (lowL_len 8 _) (n := 24) rfl
    obtain ⟨A7, cap7, rfl, -, -⟩ := ho7.shape
    rw [L7.out] at ho7 ⊢
    have O7 := Lib.hid ho7
    have X7 := Lib.hid (X6.out.trans hk7 (T := None) (fun _ h => h) (fun i hi e => absurd e (O6.out.notBelow hi)))
    clear ho7 hk7 O6 C6
    go_wp2
    refine MixK.on (InS.mk ((mH.out _).2 (⟨(CB.out _ X7.out).1, (CB.out _ X7.out).2⟩))) ?_
    refine wpMix_seg 1 (by kernel_rfl) (by decide) ?_
    simp only [List.take_succ_cons, List.take_zero, List.drop_succ_cons, List.drop_zero]
    repeat (go_big_quiet_step (fail))
    refine wpQuiet_nil ?_
    refine wpMix_nil ?_
    clear mk0 mk1 mn mH
    clear CB
    go_wp2
    obtain ⟨nS, nh⟩ : ∃ S : World → Prop, ∀ w', S w' ↔ (w'.cell? ⟨w.heap.size, 3, none⟩ = some (.int .i64 (ln : Int))) := ⟨_, fun _ => Iff.rfl⟩
    have nk0 : ∀ x : Memb nS, x.at_.cell? ⟨w.heap.size, 3, none⟩ = some (.int .i64 (ln : Int)) := fun x => ((nh _).1 x.is)
    have nn : Nonempty (Memb nS) := ⟨⟨(w7).drew, (nh _).2 (CC.out _ X7.out.drew)⟩⟩
    have nH := Lib.hid nh
    clear nh
    refine wp_region_mix [4, 5, 8] (InS nS) (by kernel_rfl) (by kernel_rfl) (InS.mk ((nH.out _).2 (CC.out _ X7.out.drew))) ?_
    refine wpMix_seg 4 (by kernel_rfl) (by decide) ?_
    simp only [List.take_succ_cons, List.take_zero, List.drop_succ_cons, List.drop_zero]
    repeat (go_big_quiet_step (fail))
    refine wpQuiet_nil ?_
    refine wpMix_eff (by kernel_rfl) ?_
    -- N4 the contract, 8 the new mark, O7.out.drew own fact, X7.out.drew keeping fact, #5 own mark
    go_wp2_with fail
    refine (N4.out _).mono ?_
    rintro e w8 ⟨v8, rfl, o8, k8⟩
    obtain ⟨A8, cap8, rfl, bs8, -⟩ := o8.shape
    rw [lowL_len] at bs8 ⊢
    have X8 := Lib.hid (X7.out.drew.trans k8 (T := None) (fun _ h => h) (fun _ _ h => h))
    have O8 := Lib.hid (O7.out.drew.keeps k8 (fun _ _ h => h))
    have C8 := Lib.hid bs8
    clear o8 k8 bs8
    go_wp2
    refine MixK.on (InS.mk ((nH.out _).2 ((CC.out _ X8.out)))) ?_
    refine wpMix_eff (by kernel_rfl) ?_
    -- 8 mark of the call, 9 new mark, 7 mark of the bytes so far, 32 the new length
    go_wp2_with (at_builtin; refine Hid.out ?_)
    refine Lib.hid ?_
    refine wpList_append_bs O8.out C8.out (by rw [L7.out]; decide) X8.out.size rfl rfl rfl rfl rfl ?_
    intro v9 w9 ho9 hk9
    have L9 := own_app_len ho9 L7.out (lowL_len 8 _) (n := 32) rfl
    obtain ⟨A9, cap9, rfl, -, -⟩ := ho9.shape
    rw [L9.out] at ho9 ⊢
    have O9 := Lib.hid ho9
    have X9 := Lib.hid (X8.out.trans hk9 (T := None) (fun _ h => h) (fun i hi e => absurd e (O8.out.notBelow hi)))
    clear ho9 hk9 O8 C8
    go_wp2
    refine MixK.on (InS.mk ((nH.out _).2 ((CC.out _ X9.out)))) ?_
    refine wpMix_seg 2 (by kernel_rfl) (by decide) ?_
    simp only [List.take_succ_cons, List.take_zero, List.drop_succ_cons, List.drop_zero]
    repeat (go_big_quiet_step (fail))
    refine wpQuiet_nil ?_
    refine wpMix_eff (by kernel_rfl) ?_
    go_wp2_with (at_builtin; refine Hid.out ?_)
    refine Lib.hid ?_
    refine wpList_append_bs O9.out (ARR.out _ X9.out) (by rw [L9.out]; decide) X9.out.size rfl rfl rfl rfl rfl ?_
    intro v10 w10 ho10 hk10
    have O10 : Hid (Own w10 w.heap.size v10 (comL c)) := by (rw [HQ.out]; exact ho10.lower KB.out.size)
    have X10 := Lib.hid (X9.out.trans hk10 (T := None) (fun _ h => h) (fun i hi e => absurd e (O9.out.notBelow hi)))
    clear ho10 hk10
    go_wp2
    refine MixK.on (InS.mk ((nH.out _).2 ((CC.out _ X10.out)))) ?_
    refine wpMix_seg 1 (by kernel_rfl) (by decide) ?_
    simp only [List.take_succ_cons, List.take_zero, List.drop_succ_cons, List.drop_zero]
    repeat (go_big_quiet_step (fail))
    refine wpQuiet_nil ?_
    refine wpMix_nil ?_
    clear nk0 nn nH
    have K10 := Lib.hid (KB.out.trans X10.out (T := None) (fun _ h => h) (fun _ _ h => h))
    go_wp2
    go_ret
    exact ⟨_, rfl, O10.out, K10.out⟩
  by_cases g2 : c.slot = 1
  · have g1 := g2
    have HP : Hid (comL c = lowL 8 1 ++ (lowL 8 c.ver ++ (lowL 8 c.fl ++ (lowL 8 c.len.toNat ++ c.me)))) := by rw [show comL c = _ from if_pos ⟨by omega, by omega, by omega, by omega⟩, g1]; rfl
    obtain ⟨ln, hln⟩ : ∃ n : Nat, c.len = n := ⟨c.len.toNat, by omega⟩
    have N2 := Lib.hid (fun w => low8_any c.ver VV.out w)
    have N3 := Lib.hid (fun w => low8_any c.fl FF.out w)
    have N4 := Lib.hid (fun w => low8_any ln (by omega) w)
    rw [g1] at a0
    rw [hln] at a3 d3 d4
    have HQ : Hid (comL c = ((([1] ++ List.replicate 7 0) ++ lowL 8 c.ver) ++ lowL 8 c.fl) ++ lowL 8 ln ++ c.me) := by
      show _ = _
      rw [HP.out, hln]
      simp only [List.append_assoc]
      rfl
    have HC : Hid (c.cs[3]? = some (.int .i64 (ln : Int))) := by show _ = _; rw [← hln]; rfl
    have l1 : ln ≤ 2147483647 := by omega
    clear HP hln g3 g4 g1
    go_enter Try.func13, Try.ntmps13
    obtain ⟨wb, hwb⟩ : ∃ x, w.alloc (.cells A 25) = x := ⟨_, rfl⟩
    have KB : Hid (Keeps None w wb) := by rw [← hwb]; exact (Keeps.refl None w).alloc _
    have HS : Hid (wb.heap.size = w.heap.size + 1) := by show _ = _; rw [← hwb]; simp
    rw [hwb] at BL
    have HWB := Lib.hid hwb
    clear hwb
    go_wp2_with (at_builtin; refine Hid.out ?_)
    rw [HWB.out, ← HS.out]
    refine Lib.hid ?_
    refine wpList_zeros wb.heap.size [1] 1 7 8 5 (Blk.new wb [.int .u8 1] 5) (by intro z hz; rw [List.mem_singleton.1 hz]; decide) rfl rfl (by decide) (by decide) (by decide) (by rfl) (by rfl) (by rfl) (by rfl) (by rfl) ?_
    intro A3 cap3 w3 o3 k3
    have O3 : Hid (Own w3 wb.heap.size (.slice A3 8 cap3) ([1] ++ List.replicate 7 0)) := o3.lower (by simp)
    have X3 : Hid (Keeps None wb w3) := ((Keeps.refl None wb).alloc _).trans k3 (fun _ h => h) (fun _ _ h => h)
    have L3 : Hid (([1] ++ List.replicate 7 0 : List Int).length = 8) := rfl
    clear o3 k3 a0 a1 a2 a3 HWB HS
    have CB : Hid (∀ w2, Keeps None wb w2 → w2.cell? ⟨w.heap.size, 1, none⟩ = some (.int .u64 (c.ver : Int)) ∧ w2.cell? ⟨w.heap.size, 2, none⟩ = some (.int .u64 (c.fl : Int))) := fun w2 k => ⟨(k.blk BL.out (fun h => h)).cellD 1 _ rfl, (k.blk BL.out (fun h => h)).cellD 2 _ rfl⟩
    have CC : Hid (∀ w2, Keeps None wb w2 → w2.cell? ⟨w.heap.size, 3, none⟩ = some (.int .i64 (ln : Int))) := fun w2 k => (k.blk BL.out (fun h => h)).cellD 3 _ HC.out
    have ARR : Hid (∀ w2, Keeps None wb w2 → Bs w2 (some ⟨w.heap.size, 4, none⟩) 64 64 c.me) := fun w2 k => ⟨ML.out, Nat.le_refl _, by decide, (fun e => by cases e), MB.out, fun _ => ⟨w.heap.size, 4, rfl, (k.blk BL.out (fun h => h)).lt, fun i hi => (k.blk BL.out (fun h => h)).cellD (4 + i) _ (ME.out i hi)⟩⟩
    go_wp2
    obtain ⟨mS, mh⟩ : ∃ S : World → Prop, ∀ w', S w' ↔ (w'.cell? ⟨w.heap.size, 1, none⟩ = some (.int .u64 (c.ver : Int)) ∧ w'.cell? ⟨w.heap.size, 2, none⟩ = some (.int .u64 (c.fl : Int))) := ⟨_, fun _ => Iff.rfl⟩
    have mk0 : ∀ x : Memb mS, x.at_.cell? ⟨w.heap.size, 1, none⟩ = some (.int .u64 (c.ver : Int)) := fun x => ((mh _).1 x.is).1
    have mk1 : ∀ x : Memb mS, x.at_.cell? ⟨w.heap.size, 2, none⟩ = some (.int .u64 (c.fl : Int)) := fun x => ((mh _).1 x.is).2
    have mn : Nonempty (Memb mS) := ⟨⟨(w3).drew, (mh _).2 ⟨(CB.out _ X3.out.drew).1, (CB.out _ X3.out.drew).2⟩⟩⟩
    have mH := Lib.hid mh
    clear mh
    refine wp_region_mix [3, 4, 7, 8] (InS mS) (by kernel_rfl) (by kernel_rfl) (InS.mk ((mH.out _).2 ⟨(CB.out _ X3.out.drew).1, (CB.out _ X3.out.drew).2⟩)) ?_
    refine wpMix_seg 3 (by kernel_rfl) (by decide) ?_
    simp only [List.take_succ_cons, List.take_zero, List.drop_succ_cons, List.drop_zero]
    repeat (go_big_quiet_step (fail))
    refine wpQuiet_nil ?_
    refine wpMix_eff (by kernel_rfl) ?_
    -- N2 the contract, 4 the new mark, O3.out.drew own fact, X3.out.drew keeping fact, #5 own mark
    go_wp2_with fail
    refine (N2.out _).mono ?_
    rintro e w4 ⟨v4, rfl, o4, k4⟩
    obtain ⟨A4, cap4, rfl, bs4, -⟩ := o4.shape
    rw [lowL_len] at bs4 ⊢
    have X4 := Lib.hid (X3.out.drew.trans k4 (T := None) (fun _ h => h) (fun _ _ h => h))
    have O4 := Lib.hid (O3.out.drew.keeps k4 (fun _ _ h => h))
    have C4 := Lib.hid bs4
    clear o4 k4 bs4
    go_wp2
    refine MixK.on (InS.mk ((mH.out _).2 (⟨(CB.out _ X4.out).1, (CB.out _ X4.out).2⟩))) ?_
    refine wpMix_eff (by kernel_rfl) ?_
    -- 4 mark of the call, 5 new mark, 3 mark of the bytes so far, 16 the new length
    go_wp2_with (at_builtin; refine Hid.out ?_)
    refine Lib.hid ?_
    refine wpList_append_bs O4.out C4.out (by rw [L3.out]; decide) X4.out.size rfl rfl rfl rfl rfl ?_
    intro v5 w5 ho5 hk5
    have L5 := own_app_len ho5 L3.out (lowL_len 8 _) (n := 16) rfl
    obtain ⟨A5, cap5, rfl, -, -⟩ := ho5.shape
    rw [L5.out] at ho5 ⊢
    have O5 := Lib.hid ho5
    have X5 := Lib.hid (X4.out.trans hk5 (T := None) (fun _ h => h) (fun i hi e => absurd e (O4.out.notBelow hi)))
    clear ho5 hk5 O4 C4
    go_wp2
    refine MixK.on (InS.mk ((mH.out _).2 (⟨(CB.out _ X5.out).1, (CB.out _ X5.out).2⟩))) ?_
    refine wpMix_seg 2 (by kernel_rfl) (by decide) ?_
    simp only [List.take_succ_cons, List.take_zero, List.drop_succ_cons, List.drop_zero]
    repeat (go_big_quiet_step (fail))
    refine wpQuiet_nil ?_
    refine wpMix_eff (by kernel_rfl) ?_
    -- N3 the contract, 6 the new mark, O5.out own fact, X5.out keeping fact, #5 own mark
    go_wp2_with fail
    refine (N3.out _).mono ?_
    rintro e w6 ⟨v6, rfl, o6, k6⟩
    obtain ⟨A6, cap6, rfl, bs6, -⟩ := o6.shape
    rw [lowL_len] at bs6 ⊢
    have X6 := Lib.hid (X5.out.trans k6 (T := None) (fun _ h => h) (fun _ _ h => h))
    have O6 := Lib.hid (O5.out.keeps k6 (fun _ _ h => h))
    have C6 := Lib.hid bs6
    clear o6 k6 bs6
    go_wp2
    refine MixK.on (InS.mk ((mH.out _).2 (⟨(CB.out _ X6.out).1, (CB.out _ X6.out).2⟩))) ?_
    refine wpMix_eff (by kernel_rfl) ?_
    -- 6 mark of the call, 7 new mark, 5 mark of the bytes so far, 24 the new length
    go_wp2_with (at_builtin; refine Hid.out ?_)
    refine Lib.hid ?_
    refine wpList_append_bs O6.out C6.out (by rw [L5.out]; decide) X6.out.size rfl rfl rfl rfl rfl ?_
    intro v7 w7 ho7 hk7
    have L7 := own_app_len ho7 L5.out (lowL_len 8 _) (n := 24) rfl
    obtain ⟨A7, cap7, rfl, -, -⟩ := ho7.shape
    rw [L7.out] at ho7 ⊢
    have O7 := Lib.hid ho7
    have X7 := Lib.hid (X6.out.trans hk7 (T := None) (fun _ h => h) (fun i hi e => absurd e (O6.out.notBelow hi)))
    clear ho7 hk7 O6 C6
    go_wp2
    refine MixK.on (InS.mk ((mH.out _).2 (⟨(CB.out _ X7.out).1, (CB.out _ X7.out).2⟩))) ?_
    refine wpMix_seg 1 (by kernel_rfl) (by decide) ?_
    simp only [List.take_succ_cons, List.take_zero, List.drop_succ_cons, List.drop_zero]
    repeat (go_big_quiet_step (fail))
    refine wpQuiet_nil ?_
    refine wpMix_nil ?_
    clear mk0 mk1 mn mH
    clear CB
    go_wp2
    obtain ⟨nS, nh⟩ : ∃ S : World → Prop, ∀ w', S w' ↔ (w'.cell? ⟨w.heap.size, 3, none⟩ = some (.int .i64 (ln : Int))) := ⟨_, fun _ => Iff.rfl⟩
    have nk0 : ∀ x : Memb nS, x.at_.cell? ⟨w.heap.size, 3, none⟩ = some (.int .i64 (ln : Int)) := fun x => ((nh _).1 x.is)
    have nn : Nonempty (Memb nS) := ⟨⟨(w7).drew, (nh _).2 (CC.out _ X7.out.drew)⟩⟩
    have nH := Lib.hid nh
    clear nh
    refine wp_region_mix [4, 5, 8] (InS nS) (by kernel_rfl) (by kernel_rfl) (InS.mk ((nH.out _).2 (CC.out _ X7.out.drew))) ?_
    refine wpMix_seg 4 (by kernel_rfl) (by decide) ?_
    simp only [List.take_succ_cons, List.take_zero, List.drop_succ_cons, List.drop_zero]
    repeat (go_big_quiet_step (fail))
    refine wpQuiet_nil ?_
    refine wpMix_eff (by kernel_rfl) ?_
    -- N4 the contract, 8 the new mark, O7.out.drew own fact, X7.out.drew keeping fact, #5 own mark
    go_wp2_with fail
    refine (N4.out _).mono ?_
    rintro e w8 ⟨v8, rfl, o8, k8⟩
    obtain ⟨A8, cap8, rfl, bs8, -⟩ := o8.shape
    rw [lowL_len] at bs8 ⊢
    have X8 := Lib.hid (X7.out.drew.trans k8 (T := None) (fun _ h => h) (fun _ _ h => h))
    have O8 := Lib.hid (O7.out.drew.keeps k8 (fun _ _ h => h))
    have C8 := Lib.hid bs8
    clear o8 k8 bs8
    go_wp2
    refine MixK.on (InS.mk ((nH.out _).2 ((CC.out _ X8.out)))) ?_
    refine wpMix_eff (by kernel_rfl) ?_
    -- 8 mark of the call, 9 new mark, 7 mark of the bytes so far, 32 the new length
    go_wp2_with (at_builtin; refine Hid.out ?_)
    refine Lib.hid ?_
    refine wpList_append_bs O8.out C8.out (by rw [L7.out]; decide) X8.out.size rfl rfl rfl rfl rfl ?_
    intro v9 w9 ho9 hk9
    have L9 := own_app_len ho9 L7.out (lowL_len 8 _) (n := 32) rfl
    obtain ⟨A9, cap9, rfl, -, -⟩ := ho9.shape
    rw [L9.out] at ho9 ⊢
    have O9 := Lib.hid ho9
    have X9 := Lib.hid (X8.out.trans hk9 (T := None) (fun _ h => h) (fun i hi e => absurd e (O8.out.notBelow hi)))
    clear ho9 hk9 O8 C8
    go_wp2
    refine MixK.on (InS.mk ((nH.out _).2 ((CC.out _ X9.out)))) ?_
    refine wpMix_seg 2 (by kernel_rfl) (by decide) ?_
    simp only [List.take_succ_cons, List.take_zero, List.drop_succ_cons, List.drop_zero]
    repeat (go_big_quiet_step (fail))
    refine wpQuiet_nil ?_
    refine wpMix_eff (by kernel_rfl) ?_
    go_wp2_with (at_builtin; refine Hid.out ?_)
    refine Lib.hid ?_
    refine wpList_append_bs O9.out (ARR.out _ X9.out) (by rw [L9.out]; decide) X9.out.size rfl rfl rfl rfl rfl ?_
    intro v10 w10 ho10 hk10
    have O10 : Hid (Own w10 w.heap.size v10 (comL c)) := by (rw [HQ.out]; exact ho10.lower KB.out.size)
    have X10 := Lib.hid (X9.out.trans hk10 (T := None) (fun _ h => h) (fun i hi e => absurd e (O9.out.notBelow hi)))
    clear ho10 hk10
    go_wp2
    refine MixK.on (InS.mk ((nH.out _).2 ((CC.out _ X10.out)))) ?_
    refine wpMix_seg 1 (by kernel_rfl) (by decide) ?_
    simp only [List.take_succ_cons, List.take_zero, List.drop_succ_cons, List.drop_zero]
    repeat (go_big_quiet_step (fail))
    refine wpQuiet_nil ?_
    refine wpMix_nil ?_
    clear nk0 nn nH
    have K10 := Lib.hid (KB.out.trans X10.out (T := None) (fun _ h => h) (fun _ _ h => h))
    go_wp2
    go_ret
    exact ⟨_, rfl, O10.out, K10.out⟩
  have e1 : (c.slot != 0) = true := by simpa using g1
  have e2 : (c.slot != 1) = true := by simpa using g2
  have HP : Hid (comL c = []) := if_neg (fun h => by obtain ⟨f1, f2, f3, f4⟩ := h; omega)
  go_enter Try.func13, Try.ntmps13
  go_wp2
  go_ret
  exact ⟨_, rfl, by rw [HP.out]; exact Own.nil _ _, (Keeps.refl _ _).alloc _⟩
end Go.Proofs.Ytfldgaiiniknpaa
