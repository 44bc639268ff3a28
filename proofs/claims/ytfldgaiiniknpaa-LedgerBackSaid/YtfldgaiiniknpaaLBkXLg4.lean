
/- The walks of ledger's PutCommit and PutCheck. -/
import Derived.Test.YtfldgaiiniknpaaLBkXLg3
import Derived.Test.YtfldgaiiniknpaaLBka
namespace Go.Proofs.Ytfldgaiiniknpaa
open Go.RowKit

/-- A commit's cells, and its value. -/
def Com.cs (c : Com) : List Value := .int .i64 c.slot :: .int .u64 (c.ver : Int) :: .int .u64 (c.fl : Int) :: .int .i64 c.len :: c.me.map (.int .u8)
def Com.v (c : Com) : Value := .agg c.cs.toArray
theorem Com.cs_len {c : Com} (o : c.ok) : c.cs.length = 68 := by simp [Com.cs, o.ml]
/-- Five parts put together. -/
theorem concat5 (p1 p2 p3 p4 p5 : Part) (bp : Nat) (T : TypeId) (w : World) (hb : Blk w bp [p1.val, p2.val, p3.val, p4.val, p5.val] T) (h1 : Bs w p1.A p1.n p1.cap p1.zs) (h2 : Bs w p2.A p2.n p2.cap p2.zs) (h3 : Bs w p3.A p3.n p3.cap p3.zs) (h4 : Bs w p4.A p4.n p4.cap p4.zs) (h5 : Bs w p5.A p5.n p5.cap p5.zs)
    (n0 : 0 < p1.n) (n1 : p1.n + p2.n + p3.n + p4.n + p5.n ≤ 1000000) :
    Calls Try.prog 37 #[.slice (some ⟨bp, 0, none⟩) 5 5] w fun e w' => ∃ v, e = .returned v ∧ Own w' w.heap.size v (p1.zs ++ (p2.zs ++ (p3.zs ++ (p4.zs ++ p5.zs)))) ∧ Keeps None w w' := by
  have e : cat [p1, p2, p3, p4, p5] = p1.zs ++ (p2.zs ++ (p3.zs ++ (p4.zs ++ p5.zs))) := by simp [cat]
  rw [← e]
  refine concat_any [p1, p2, p3, p4, p5] 5 bp T w hb rfl (fun p hp => ?_) (by simp [tot]; omega) (by simp [tot]; omega) (by decide)
  simp only [List.mem_cons, List.not_mem_nil, or_false] at hp
  rcases hp with rfl | rfl | rfl | rfl | rfl <;> assumption
set_option maxRecDepth 100000 in
set_option maxHeartbeats 1600000 in
theorem lgputc_any (c : Com) (o : c.ok) (w : World) : Calls Try.prog 12 #[c.v] w (Cloned w (comL c)) := by
  unfold Com.v
  have a0 : c.cs.toArray[0]? = some (.int .i64 c.slot) := rfl
  have a1 : c.cs.toArray[1]? = some (.int .u64 (c.ver : Int)) := rfl
  have a2 : c.cs.toArray[2]? = some (.int .u64 (c.fl : Int)) := rfl
  have a3 : c.cs.toArray[3]? = some (.int .i64 c.len) := rfl
  have BL := Lib.hid (Blk.new w c.cs 25)
  have ML := Lib.hid o.ml
  have MB := Lib.hid o.mb
  have ME := Lib.hid (show ∀ i, i < 64 → c.cs[4 + i]? = some (.int .u8 (c.me.getD i 0)) from fun i hi => by
    rw [Nat.add_comm, show c.cs[i + 4]? = (c.me.map (.int .u8))[i]? from rfl]
    exact map_getD 0 (by rw [o.ml]; exact hi))
  have VV := Lib.hid o.v
  have FF := Lib.hid o.f
  obtain ⟨A, hA⟩ : ∃ A, c.cs.toArray = A := ⟨_, rfl⟩
  rw [hA] at a0 a1 a2 a3 BL ⊢
  clear hA o
  by_cases g1 : c.slot < 0
  · have d1 : decide (c.slot < 0) = true := decide_eq_true g1
    have HP : Hid (comL c = []) := if_neg (fun h => by obtain ⟨f1, f2, f3, f4⟩ := h; omega)
    go_enter Try.func12, Try.ntmps12
    go_wp2
    go_ret
    exact ⟨_, rfl, by rw [HP.out]; exact Own.nil _ _, (Keeps.refl _ _).alloc _⟩
  have d1 : decide (c.slot < 0) = false := decide_eq_false g1
  by_cases g2 : 1 < c.slot
  · have d2 : decide (1 < c.slot) = true := decide_eq_true g2
    have HP : Hid (comL c = []) := if_neg (fun h => by obtain ⟨f1, f2, f3, f4⟩ := h; omega)
    go_enter Try.func12, Try.ntmps12
    go_wp2
    go_ret
    exact ⟨_, rfl, by rw [HP.out]; exact Own.nil _ _, (Keeps.refl _ _).alloc _⟩
  have d2 : decide (1 < c.slot) = false := decide_eq_false g2
  by_cases g3 : 0 ≤ c.len
  case neg =>
    have d3 : decide (0 ≤ c.len) = false := decide_eq_false g3
    have HP : Hid (comL c = []) := if_neg (fun h => by obtain ⟨f1, f2, f3, f4⟩ := h; omega)
    go_enter Try.func12, Try.ntmps12
    go_wp2
    go_ret
    exact ⟨_, rfl, by rw [HP.out]; exact Own.nil _ _, (Keeps.refl _ _).alloc _⟩
  have d3 : decide (0 ≤ c.len) = true := decide_eq_true g3
  by_cases g4 : c.len ≤ 2147483647
  case neg =>
    have d4 : decide (c.len ≤ 2147483647) = false := decide_eq_false g4
    have HP : Hid (comL c = []) := if_neg (fun h => by obtain ⟨f1, f2, f3, f4⟩ := h; omega)
    go_enter Try.func12, Try.ntmps12
    go_wp2
    go_ret
    exact ⟨_, rfl, by rw [HP.out]; exact Own.nil _ _, (Keeps.refl _ _).alloc _⟩
  have d4 : decide (c.len ≤ 2147483647) = true := decide_eq_true g4
  have HP : Hid (comL c = lowL 8 c.slot.toNat ++ (lowL 8 c.ver ++ (lowL 8 c.fl ++ (lowL 8 c.len.toNat ++ c.me)))) := if_pos ⟨by omega, by omega, g3, g4⟩
  obtain ⟨sl, hsl⟩ : ∃ n : Nat, c.slot = n := ⟨c.slot.toNat, by omega⟩
  obtain ⟨ln, hln⟩ : ∃ n : Nat, c.len = n := ⟨c.len.toNat, by omega⟩
  have N1 := Lib.hid (fun w => lgnumber_any sl (by omega) w)
  have N2 := Lib.hid (fun w => lgnumber_any c.ver VV.out w)
  have N3 := Lib.hid (fun w => lgnumber_any c.fl FF.out w)
  have N4 := Lib.hid (fun w => lgnumber_any ln (by omega) w)
  rw [hsl] at a0 d1 d2
  rw [hln] at a3 d3 d4
  have HQ : Hid (comL c = lowL 8 sl ++ (lowL 8 c.ver ++ (lowL 8 c.fl ++ (lowL 8 ln ++ c.me)))) := by show _ = _; rw [HP.out, hsl, hln]; rfl
  have HSL := Lib.hid hsl
  have HLN := Lib.hid hln
  have s1 : sl ≤ 1 := by omega
  have l1 : ln ≤ 2147483647 := by omega
  clear HP hsl hln g1 g2 g3 g4
  go_enter Try.func12, Try.ntmps12
  go_wp2
  obtain ⟨wb, hwb⟩ : ∃ x, w.alloc (.cells A 25) = x := ⟨_, rfl⟩
  have KB : Hid (Keeps None w wb) := by rw [← hwb]; exact (Keeps.refl None w).alloc _
  have HS : Hid (w.heap.size + 1 = wb.heap.size) := by show _ = _; rw [← hwb]; simp
  rw [hwb] at BL ⊢
  clear hwb a0 a1 a2 a3
  have cb0 : ∀ w2, Keeps None wb w2 → w2.cell? ⟨w.heap.size, 0, none⟩ = some (.int .i64 (sl : Int)) := fun w2 k => (k.blk BL.out (fun h => h)).cellD 0 _ (by rw [← HSL.out]; rfl)
  have cb1 : ∀ w2, Keeps None wb w2 → w2.cell? ⟨w.heap.size, 1, none⟩ = some (.int .u64 (c.ver : Int)) := fun w2 k => (k.blk BL.out (fun h => h)).cellD 1 _ rfl
  have cb2 : ∀ w2, Keeps None wb w2 → w2.cell? ⟨w.heap.size, 2, none⟩ = some (.int .u64 (c.fl : Int)) := fun w2 k => (k.blk BL.out (fun h => h)).cellD 2 _ rfl
  have cb3 : ∀ w2, Keeps None wb w2 → w2.cell? ⟨w.heap.size, 3, none⟩ = some (.int .i64 (ln : Int)) := fun w2 k => (k.blk BL.out (fun h => h)).cellD 3 _ (by rw [← HLN.out]; rfl)
  have CB := Lib.hid (fun w2 k => (⟨cb0 w2 k, cb1 w2 k, cb2 w2 k, cb3 w2 k⟩ : _ ∧ _ ∧ _ ∧ _))
  have KR := Lib.hid (Keeps.refl None wb)
  have ARR : Hid (∀ w2, Keeps None wb w2 → Bs w2 (some ⟨w.heap.size, 4, none⟩) 64 64 c.me) := fun w2 k => ⟨ML.out, Nat.le_refl _, by decide, (fun e => by cases e), MB.out, fun _ => ⟨w.heap.size, 4, rfl, by have := k.size; have := HS.out; omega, fun i hi => (k.blk BL.out (fun h => h)).cellD (4 + i) _ (ME.out i hi)⟩⟩
  clear cb0 cb1 cb2 cb3
  obtain ⟨mS, mh⟩ : ∃ S : World → Prop, ∀ w', S w' ↔ (w'.cell? ⟨w.heap.size, 0, none⟩ = some (.int .i64 (sl : Int)) ∧ w'.cell? ⟨w.heap.size, 1, none⟩ = some (.int .u64 (c.ver : Int)) ∧ w'.cell? ⟨w.heap.size, 2, none⟩ = some (.int .u64 (c.fl : Int)) ∧ w'.cell? ⟨w.heap.size, 3, none⟩ = some (.int .i64 (ln : Int))) := ⟨_, fun _ => Iff.rfl⟩
  have mk0 : ∀ x : Memb mS, x.at_.cell? ⟨w.heap.size, 0, none⟩ = some (.int .i64 (sl : Int)) := fun x => ((mh _).1 x.is).1
  have mk1 : ∀ x : Memb mS, x.at_.cell? ⟨w.heap.size, 1, none⟩ = some (.int .u64 (c.ver : Int)) := fun x => ((mh _).1 x.is).2.1
  have mk2 : ∀ x : Memb mS, x.at_.cell? ⟨w.heap.size, 2, none⟩ = some (.int .u64 (c.fl : Int)) := fun x => ((mh _).1 x.is).2.2.1
  have mk3 : ∀ x : Memb mS, x.at_.cell? ⟨w.heap.size, 3, none⟩ = some (.int .i64 (ln : Int)) := fun x => ((mh _).1 x.is).2.2.2
  have mn : Nonempty (Memb mS) := ⟨⟨(wb).drew, (mh _).2 ⟨(CB.out _ KR.out).1, (CB.out _ KR.out).2.1, (CB.out _ KR.out).2.2.1, (CB.out _ KR.out).2.2.2⟩⟩⟩
  have mH := Lib.hid mh
  clear mh
  refine wp_region_mix [3, 6, 9, 13, 16, 17] (InS mS) (by kernel_rfl) (by kernel_rfl) (InS.mk ((mH.out _).2 ⟨(CB.out _ KR.out).1, (CB.out _ KR.out).2.1, (CB.out _ KR.out).2.2.1, (CB.out _ KR.out).2.2.2⟩)) ?_
  refine wpMix_seg 3 (by kernel_rfl) (by decide) ?_
  simp only [List.take_succ_cons, List.take_zero, List.drop_succ_cons, List.drop_zero]
  repeat (first | go_big_quiet_step (fail) | (go_big_quiet_want; first | refine quiet_build BU.out rfl rfl (by simp [Act.eval]) (by simp only [Act.put, List.setIfInBounds_toArray, List.set_cons_succ, List.set_cons_zero]; rfl) ?_; go_big_quiet_on))
  refine wpQuiet_nil ?_
  refine wpMix_eff (by kernel_rfl) ?_
  -- N1 the number's law, 1 the world ahead, KR.out.drew the keeping so far
  go_wp2_with fail
  refine (N1.out _).mono ?_
  rintro e w1 ⟨v1, rfl, o1, k1⟩
  obtain ⟨A1, cap1, rfl, bs1, -⟩ := o1.shape
  rw [lowL_len] at bs1 ⊢
  have K1 := Lib.hid k1
  have X1 := Lib.hid (KR.out.drew.trans k1 (T := None) (fun _ h => h) (fun _ _ h => h))
  have C1 := Lib.hid bs1
  clear o1 k1 bs1
  go_wp2
  refine MixK.on (InS.mk ((mH.out _).2 (⟨(CB.out _ X1.out).1, (CB.out _ X1.out).2.1, (CB.out _ X1.out).2.2.1, (CB.out _ X1.out).2.2.2⟩))) ?_
  refine wpMix_seg 2 (by kernel_rfl) (by decide) ?_
  simp only [List.take_succ_cons, List.take_zero, List.drop_succ_cons, List.drop_zero]
  repeat (first | go_big_quiet_step (fail) | (go_big_quiet_want; first | refine quiet_build BU.out rfl rfl (by simp [Act.eval]) (by simp only [Act.put, List.setIfInBounds_toArray, List.set_cons_succ, List.set_cons_zero]; rfl) ?_; go_big_quiet_on))
  refine wpQuiet_nil ?_
  refine wpMix_eff (by kernel_rfl) ?_
  -- N2 the number's law, 2 the world ahead, X1.out the keeping so far
  go_wp2_with fail
  refine (N2.out _).mono ?_
  rintro e w2 ⟨v2, rfl, o2, k2⟩
  obtain ⟨A2, cap2, rfl, bs2, -⟩ := o2.shape
  rw [lowL_len] at bs2 ⊢
  have K2 := Lib.hid k2
  have X2 := Lib.hid (X1.out.trans k2 (T := None) (fun _ h => h) (fun _ _ h => h))
  have C2 := Lib.hid bs2
  clear o2 k2 bs2
  go_wp2
  have D1 := Lib.hid (C1.out.keeps K2.out (fun _ _ _ _ _ h => h))
  refine MixK.on (InS.mk ((mH.out _).2 (⟨(CB.out _ X2.out).1, (CB.out _ X2.out).2.1, (CB.out _ X2.out).2.2.1, (CB.out _ X2.out).2.2.2⟩))) ?_
  refine wpMix_seg 2 (by kernel_rfl) (by decide) ?_
  simp only [List.take_succ_cons, List.take_zero, List.drop_succ_cons, List.drop_zero]
  repeat (first | go_big_quiet_step (fail) | (go_big_quiet_want; first | refine quiet_build BU.out rfl rfl (by simp [Act.eval]) (by simp only [Act.put, List.setIfInBounds_toArray, List.set_cons_succ, List.set_cons_zero]; rfl) ?_; go_big_quiet_on))
  refine wpQuiet_nil ?_
  refine wpMix_eff (by kernel_rfl) ?_
  -- N3 the number's law, 3 the world ahead, X2.out the keeping so far
  go_wp2_with fail
  refine (N3.out _).mono ?_
  rintro e w3 ⟨v3, rfl, o3, k3⟩
  obtain ⟨A3, cap3, rfl, bs3, -⟩ := o3.shape
  rw [lowL_len] at bs3 ⊢
  have K3 := Lib.hid k3
  have X3 := Lib.hid (X2.out.trans k3 (T := None) (fun _ h => h) (fun _ _ h => h))
  have C3 := Lib.hid bs3
  clear o3 k3 bs3
  go_wp2
  have E1 := Lib.hid (D1.out.keeps K3.out (fun _ _ _ _ _ h => h))
  have E2 := Lib.hid (C2.out.keeps K3.out (fun _ _ _ _ _ h => h))
  refine MixK.on (InS.mk ((mH.out _).2 (⟨(CB.out _ X3.out).1, (CB.out _ X3.out).2.1, (CB.out _ X3.out).2.2.1, (CB.out _ X3.out).2.2.2⟩))) ?_
  refine wpMix_seg 3 (by kernel_rfl) (by decide) ?_
  simp only [List.take_succ_cons, List.take_zero, List.drop_succ_cons, List.drop_zero]
  repeat (first | go_big_quiet_step (fail) | (go_big_quiet_want; first | refine quiet_build BU.out rfl rfl (by simp [Act.eval]) (by simp only [Act.put, List.setIfInBounds_toArray, List.set_cons_succ, List.set_cons_zero]; rfl) ?_; go_big_quiet_on))
  refine wpQuiet_nil ?_
  refine wpMix_eff (by kernel_rfl) ?_
  -- N4 the number's law, 4 the world ahead, X3.out the keeping so far
  go_wp2_with fail
  refine (N4.out _).mono ?_
  rintro e w4 ⟨v4, rfl, o4, k4⟩
  obtain ⟨A4, cap4, rfl, bs4, -⟩ := o4.shape
  rw [lowL_len] at bs4 ⊢
  have K4 := Lib.hid k4
  have X4 := Lib.hid (X3.out.trans k4 (T := None) (fun _ h => h) (fun _ _ h => h))
  have C4 := Lib.hid bs4
  clear o4 k4 bs4
  go_wp2
  have P1 := Lib.hid (E1.out.keeps K4.out (fun _ _ _ _ _ h => h))
  have P2 := Lib.hid (E2.out.keeps K4.out (fun _ _ _ _ _ h => h))
  have P3 := Lib.hid (C3.out.keeps K4.out (fun _ _ _ _ _ h => h))
  refine MixK.on (InS.mk ((mH.out _).2 (⟨(CB.out _ X4.out).1, (CB.out _ X4.out).2.1, (CB.out _ X4.out).2.2.1, (CB.out _ X4.out).2.2.2⟩))) ?_
  refine wpMix_seg 2 (by kernel_rfl) (by decide) ?_
  simp only [List.take_succ_cons, List.take_zero, List.drop_succ_cons, List.drop_zero]
  repeat (first | go_big_quiet_step (fail) | (go_big_quiet_want; first | refine quiet_build BU.out rfl rfl (by simp [Act.eval]) (by simp only [Act.put, List.setIfInBounds_toArray, List.set_cons_succ, List.set_cons_zero]; rfl) ?_; go_big_quiet_on))
  refine wpQuiet_nil ?_
  refine wpMix_eff (by kernel_rfl) ?_
  go_wp2
  refine MixK.on (InS.mk ((mH.out _).2 (⟨(CB.out _ (X4.out.alloc _)).1, (CB.out _ (X4.out.alloc _)).2.1, (CB.out _ (X4.out.alloc _)).2.2.1, (CB.out _ (X4.out.alloc _)).2.2.2⟩))) ?_
  refine wpMix_eff (by kernel_rfl) ?_
  have PB := Lib.hid (Blk.new w4 [.slice A1 8 cap1, .slice A2 8 cap2, .slice A3 8 cap3, .slice A4 8 cap4, .slice (some ⟨w.heap.size, 4, none⟩) 64 64] 27)
  have X5 := Lib.hid (X4.out.alloc (.cells #[.slice A1 8 cap1, .slice A2 8 cap2, .slice A3 8 cap3, .slice A4 8 cap4, .slice (some ⟨w.heap.size, 4, none⟩) 64 64] 27))
  have K5 := Lib.hid ((Keeps.refl None w4).alloc (.cells #[.slice A1 8 cap1, .slice A2 8 cap2, .slice A3 8 cap3, .slice A4 8 cap4, .slice (some ⟨w.heap.size, 4, none⟩) 64 64] 27))
  go_wp2_with fail
  refine (concat5 ⟨A1, 8, cap1, lowL 8 sl⟩ ⟨A2, 8, cap2, lowL 8 c.ver⟩ ⟨A3, 8, cap3, lowL 8 c.fl⟩ ⟨A4, 8, cap4, lowL 8 ln⟩ ⟨some ⟨w.heap.size, 4, none⟩, 64, 64, c.me⟩ w4.heap.size 27 _ PB.out (P1.out.keeps K5.out (fun _ _ _ _ _ h => h)) (P2.out.keeps K5.out (fun _ _ _ _ _ h => h)) (P3.out.keeps K5.out (fun _ _ _ _ _ h => h)) (C4.out.keeps K5.out (fun _ _ _ _ _ h => h)) (ARR.out _ X5.out) (by simp) (by simp)).mono ?_
  rintro e w6 ⟨v6, rfl, o6, k6⟩
  have O6 : Hid (Own w6 w.heap.size v6 (comL c)) := by (rw [HQ.out]; exact o6.lower (by have h1 := X5.out.size; have h2 := HS.out; omega))
  have X6 := Lib.hid (X5.out.trans k6 (T := None) (fun _ h => h) (fun _ _ h => h))
  have K6 := Lib.hid (KB.out.trans X6.out (T := None) (fun _ h => h) (fun _ _ h => h))
  clear o6 k6
  go_wp2
  refine MixK.on (InS.mk ((mH.out _).2 (⟨(CB.out _ X6.out).1, (CB.out _ X6.out).2.1, (CB.out _ X6.out).2.2.1, (CB.out _ X6.out).2.2.2⟩))) ?_
  refine wpMix_seg 1 (by kernel_rfl) (by decide) ?_
  simp only [List.take_succ_cons, List.take_zero, List.drop_succ_cons, List.drop_zero]
  repeat (first | go_big_quiet_step (fail) | (go_big_quiet_want; first | refine quiet_build BU.out rfl rfl (by simp [Act.eval]) (by simp only [Act.put, List.setIfInBounds_toArray, List.set_cons_succ, List.set_cons_zero]; rfl) ?_; go_big_quiet_on))
  refine wpQuiet_nil ?_
  refine wpMix_nil ?_
  clear mk0 mk1 mk2 mk3 mn mH
  go_wp2
  go_ret
  exact ⟨_, rfl, O6.out, K6.out⟩
end Go.Proofs.Ytfldgaiiniknpaa
