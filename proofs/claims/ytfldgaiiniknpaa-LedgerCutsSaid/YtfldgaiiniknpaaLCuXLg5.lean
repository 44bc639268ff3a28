
/- The walk of ledger's PutCheck. -/
import Derived.Test.YtfldgaiiniknpaaLCuf
namespace Go.Proofs.Ytfldgaiiniknpaa
open Go.RowKit

/-- A checkpoint's cells. -/
def Chk.cs (k : Chk) (A : Option Addr) (n cap : Nat) : List Value := .int .i64 k.slot :: .int .i64 k.block :: .int .i64 k.off :: .int .i64 k.dn :: (k.id.map (.int .u8) ++ [.slice A n cap])
def Chk.v (k : Chk) (A : Option Addr) (n cap : Nat) : Value := .agg (k.cs A n cap).toArray
theorem Chk.cs_len {k : Chk} (o : k.ok) (A : Option Addr) (n cap : Nat) : (k.cs A n cap).length = 13 := by simp [Chk.cs, o.il]
theorem Chk.cs_mid {k : Chk} (o : k.ok) (A : Option Addr) (n cap : Nat) : (k.cs A n cap)[12]? = some (.slice A n cap) := by
  show (k.id.map (Value.int .u8) ++ [.slice A n cap])[8]? = _
  rw [List.getElem?_append_right (by rw [List.length_map, o.il]; exact Nat.le_refl _), List.length_map, o.il]
  rfl
theorem Chk.cs_id {k : Chk} (o : k.ok) (A : Option Addr) (n cap : Nat) (i : Nat) (hi : i < 8) : (k.cs A n cap)[4 + i]? = some (.int .u8 (k.id.getD i 0)) := by
  rw [Nat.add_comm]
  show (k.id.map (Value.int .u8) ++ [.slice A n cap])[i]? = _
  rw [List.getElem?_append_left (by rw [List.length_map, o.il]; exact hi)]
  exact map_getD 0 (by rw [o.il]; exact hi)
theorem or_first {sl bl : Nat} (hs : sl ≤ 1) (hb : bl ≤ 16) : bits .or .u64 (sl : Int) ((bl : Int) * 256) = ((sl + 256 * bl : Nat) : Int) := by
  have e : (bl : Int) * 256 = ((bl * 256 : Nat) : Int) := by omega
  rw [e, u64_or_nat _ _ (by omega) (by omega)]
  congr 1
  have h3 := Nat.shiftLeft_add_eq_or_of_lt (show sl < 2 ^ 8 by omega) bl
  rw [Nat.shiftLeft_eq] at h3
  rw [Nat.or_comm, show bl * 256 = bl * 2 ^ 8 from rfl, ← h3]
  omega
set_option maxRecDepth 100000 in
set_option maxHeartbeats 1600000 in
theorem lgputk_any (k : Chk) (o : k.ok) (A : Option Addr) (n cap : Nat) (w : World) (h : Bs w A n cap k.mid) : Calls Try.prog 14 #[k.v A n cap] w (Cloned w (chkL k)) := by
  unfold Chk.v
  have a0 : (k.cs A n cap).toArray[0]? = some (.int .i64 k.slot) := rfl
  have a1 : (k.cs A n cap).toArray[1]? = some (.int .i64 k.block) := rfl
  have a2 : (k.cs A n cap).toArray[2]? = some (.int .i64 k.off) := rfl
  have a3 : (k.cs A n cap).toArray[3]? = some (.int .i64 k.dn) := rfl
  have a12 : (k.cs A n cap).toArray[12]? = some (.slice A n cap) := by rw [List.getElem?_toArray]; exact Chk.cs_mid o A n cap
  have BL := Lib.hid (Blk.new w (k.cs A n cap) 29)
  have IL := Lib.hid o.il
  have IB := Lib.hid o.ib
  have MID := Lib.hid (Chk.cs_mid o A n cap)
  have ME := Lib.hid (Chk.cs_id o A n cap)
  have HB := Lib.hid h
  have hle := h.le
  have hmx := h.max
  have HLN := Lib.hid h.len
  obtain ⟨V, hV⟩ : ∃ V, (k.cs A n cap).toArray = V := ⟨_, rfl⟩
  rw [hV] at a0 a1 a2 a3 a12 BL ⊢
  clear hV o h
  by_cases g1 : k.slot < 0
  · have d1 : decide (k.slot < 0) = true := decide_eq_true g1
    have HP : Hid (chkL k = []) := if_neg (fun h => by obtain ⟨⟨f1, f2, f3, f4⟩, ⟨f5, f6, f7, f8⟩, -⟩ := h; omega)
    go_enter Try.func14, Try.ntmps14
    go_wp2
    go_ret
    exact ⟨_, rfl, by rw [HP.out]; exact Own.nil _ _, (Keeps.refl _ _).alloc _⟩
  have d1 : decide (k.slot < 0) = false := decide_eq_false g1
  by_cases g2 : 1 < k.slot
  · have d2 : decide (1 < k.slot) = true := decide_eq_true g2
    have HP : Hid (chkL k = []) := if_neg (fun h => by obtain ⟨⟨f1, f2, f3, f4⟩, ⟨f5, f6, f7, f8⟩, -⟩ := h; omega)
    go_enter Try.func14, Try.ntmps14
    go_wp2
    go_ret
    exact ⟨_, rfl, by rw [HP.out]; exact Own.nil _ _, (Keeps.refl _ _).alloc _⟩
  have d2 : decide (1 < k.slot) = false := decide_eq_false g2
  by_cases g3 : k.block < 0
  · have d3 : decide (k.block < 0) = true := decide_eq_true g3
    have HP : Hid (chkL k = []) := if_neg (fun h => by obtain ⟨⟨f1, f2, f3, f4⟩, ⟨f5, f6, f7, f8⟩, -⟩ := h; omega)
    go_enter Try.func14, Try.ntmps14
    go_wp2
    go_ret
    exact ⟨_, rfl, by rw [HP.out]; exact Own.nil _ _, (Keeps.refl _ _).alloc _⟩
  have d3 : decide (k.block < 0) = false := decide_eq_false g3
  by_cases g4 : 16 < k.block
  · have d4 : decide (16 < k.block) = true := decide_eq_true g4
    have HP : Hid (chkL k = []) := if_neg (fun h => by obtain ⟨⟨f1, f2, f3, f4⟩, ⟨f5, f6, f7, f8⟩, -⟩ := h; omega)
    go_enter Try.func14, Try.ntmps14
    go_wp2
    go_ret
    exact ⟨_, rfl, by rw [HP.out]; exact Own.nil _ _, (Keeps.refl _ _).alloc _⟩
  have d4 : decide (16 < k.block) = false := decide_eq_false g4
  by_cases g5 : 0 ≤ k.off
  case neg =>
    have d5 : decide (0 ≤ k.off) = false := decide_eq_false g5
    have HP : Hid (chkL k = []) := if_neg (fun h => by obtain ⟨⟨f1, f2, f3, f4⟩, ⟨f5, f6, f7, f8⟩, -⟩ := h; omega)
    go_enter Try.func14, Try.ntmps14
    go_wp2
    go_ret
    exact ⟨_, rfl, by rw [HP.out]; exact Own.nil _ _, (Keeps.refl _ _).alloc _⟩
  have d5 : decide (0 ≤ k.off) = true := decide_eq_true g5
  by_cases g6 : k.off ≤ 2147483647
  case neg =>
    have d6 : decide (k.off ≤ 2147483647) = false := decide_eq_false g6
    have HP : Hid (chkL k = []) := if_neg (fun h => by obtain ⟨⟨f1, f2, f3, f4⟩, ⟨f5, f6, f7, f8⟩, -⟩ := h; omega)
    go_enter Try.func14, Try.ntmps14
    go_wp2
    go_ret
    exact ⟨_, rfl, by rw [HP.out]; exact Own.nil _ _, (Keeps.refl _ _).alloc _⟩
  have d6 : decide (k.off ≤ 2147483647) = true := decide_eq_true g6
  by_cases g7 : 0 ≤ k.dn
  case neg =>
    have d7 : decide (0 ≤ k.dn) = false := decide_eq_false g7
    have HP : Hid (chkL k = []) := if_neg (fun h => by obtain ⟨⟨f1, f2, f3, f4⟩, ⟨f5, f6, f7, f8⟩, -⟩ := h; omega)
    go_enter Try.func14, Try.ntmps14
    go_wp2
    go_ret
    exact ⟨_, rfl, by rw [HP.out]; exact Own.nil _ _, (Keeps.refl _ _).alloc _⟩
  have d7 : decide (0 ≤ k.dn) = true := decide_eq_true g7
  by_cases g8 : k.dn ≤ 2147483647
  case neg =>
    have d8 : decide (k.dn ≤ 2147483647) = false := decide_eq_false g8
    have HP : Hid (chkL k = []) := if_neg (fun h => by obtain ⟨⟨f1, f2, f3, f4⟩, ⟨f5, f6, f7, f8⟩, -⟩ := h; omega)
    go_enter Try.func14, Try.ntmps14
    go_wp2
    go_ret
    exact ⟨_, rfl, by rw [HP.out]; exact Own.nil _ _, (Keeps.refl _ _).alloc _⟩
  have d8 : decide (k.dn ≤ 2147483647) = true := decide_eq_true g8
  obtain ⟨sl, hsl⟩ : ∃ n : Nat, k.slot = n := ⟨k.slot.toNat, by omega⟩
  obtain ⟨bl, hbl⟩ : ∃ n : Nat, k.block = n := ⟨k.block.toNat, by omega⟩
  obtain ⟨of, hof⟩ : ∃ n : Nat, k.off = n := ⟨k.off.toNat, by omega⟩
  obtain ⟨dn, hdn⟩ : ∃ n : Nat, k.dn = n := ⟨k.dn.toNat, by omega⟩
  have s1 : sl ≤ 1 := by omega
  have s2 : bl ≤ 16 := by omega
  have s3 : of ≤ 2147483647 := by omega
  have s4 : dn ≤ 2147483647 := by omega
  have N1 := Lib.hid (fun w => lgnumber_any (sl + 256 * bl) (by omega) w)
  have N2 := Lib.hid (fun w => lgnumber_any of (by omega) w)
  have N3 := Lib.hid (fun w => lgnumber_any dn (by omega) w)
  have LD := Lib.hid (fun w h => shload_any A n cap k.mid w h)
  have EO := or_first s1 s2
  have LO1 := Lib.hid (fun w => lglength_any (of : Int) w)
  rw [decide_eq_true (show 0 ≤ (of : Int) ∧ (of : Int) ≤ 2147483647 by omega)] at LO1
  have LO2 := Lib.hid (fun w => lglength_any (dn : Int) w)
  rw [decide_eq_true (show 0 ≤ (dn : Int) ∧ (dn : Int) ≤ 2147483647 by omega)] at LO2
  rw [hsl] at a0 d1 d2
  rw [hbl] at a1 d3 d4
  rw [hof] at a2 d5 d6
  rw [hdn] at a3 d7 d8
  have HQ : Hid (midOk k.mid = true → chkL k = lowL 8 (sl + 256 * bl) ++ (lowL 8 of ++ (lowL 8 dn ++ (k.id ++ k.mid)))) := fun hm => by
    rw [show chkL k = _ from if_pos ⟨⟨by omega, by omega, by omega, by omega⟩, ⟨g5, g6, g7, g8⟩, hm⟩, hsl, hbl, hof, hdn]
    rfl
  have HN : Hid (midOk k.mid = false → chkL k = []) := fun hm => if_neg (fun h => by have h2 := h.2.2; rw [hm] at h2; cases h2)
  have HC : Hid ((k.cs A n cap)[0]? = some (.int .i64 (sl : Int)) ∧ (k.cs A n cap)[1]? = some (.int .i64 (bl : Int)) ∧ (k.cs A n cap)[2]? = some (.int .i64 (of : Int)) ∧ (k.cs A n cap)[3]? = some (.int .i64 (dn : Int))) := by
    rw [← hsl, ← hbl, ← hof, ← hdn]
    exact ⟨rfl, rfl, rfl, rfl⟩
  obtain ⟨ok, hok⟩ : ∃ b, midOk k.mid = b := ⟨_, rfl⟩
  rw [hok] at LD HQ HN
  have HOK := Lib.hid hok
  clear hok hsl hbl hof hdn g1 g2 g3 g4 g5 g6 g7 g8
  have HB2 : Hid (Bs (w.alloc (.cells V 29)) A n cap k.mid) := HB.out.keeps ((Keeps.refl None w).alloc _) (fun _ _ _ _ _ h => h)
  have KB0 : Hid (Keeps None w (w.alloc (.cells V 29))) := (Keeps.refl None w).alloc _
  have HS0 : Hid (w.heap.size + 1 = (w.alloc (.cells V 29)).heap.size) := by show _ = _; simp
  go_enter Try.func14, Try.ntmps14
  go_wp2_with fail
  refine (LO1.out _).mono ?_
  rintro e wX ⟨rfl, rfl⟩
  go_wp2_with fail
  refine (LO2.out _).mono ?_
  rintro e wX ⟨rfl, rfl⟩
  go_wp2_with fail
  refine (LD.out _ HB2.out).mono ?_
  rintro e wl ⟨p, rfl, kl⟩
  have BB := Lib.hid (kl.blk BL.out (fun h => h))
  have KB := Lib.hid (KB0.out.trans kl (T := None) (fun _ h => h) (fun _ _ h => h))
  have HBl := Lib.hid (HB2.out.keeps kl (fun _ _ _ _ _ h => h))
  have HS : Hid (w.heap.size + 1 ≤ wl.heap.size) := by have := kl.size; have := HS0.out; show _ ≤ _; omega
  clear kl KB0 HS0 BL a0 a1 a2 a3 a12 HB2 LD
  cases ok with
  | false =>
    go_wp2
    go_ret
    exact ⟨_, rfl, by rw [HN.out (by simp)]; exact Own.nil _ _, KB.out⟩
  | true =>
    have x0 := BB.out.cellD 0 _ HC.out.1
    have x1 := BB.out.cellD 1 _ HC.out.2.1
    go_wp2_with fail
    refine (N1.out _).mono ?_
    rintro e wb ⟨v1, rfl, o1, k1⟩
    obtain ⟨A1, cap1, rfl, bs1, -⟩ := o1.shape
    rw [lowL_len] at bs1 ⊢
    have BL := Lib.hid (k1.blk BB.out (fun h => h))
    have KW := Lib.hid (KB.out.trans k1 (T := None) (fun _ h => h) (fun _ _ h => h))
    have C1 := Lib.hid bs1
    have HM := Lib.hid (HBl.out.keeps k1 (fun _ _ _ _ _ h => h))
    have HT : Hid (w.heap.size + 1 ≤ wb.heap.size) := by have := k1.size; have := HS.out; show _ ≤ _; omega
    have N200 : n = 200 := by rw [← HLN.out]; exact midOk_len HOK.out
    have HQ2 := Lib.hid (HQ.out (by trivial))
    subst N200
    clear bs1 o1 k1 HBl KB BB x0 x1 HQ HN N1 HS HOK
    have CB : Hid (∀ w2, Keeps None wb w2 → w2.cell? ⟨w.heap.size, 2, none⟩ = some (.int .i64 (of : Int)) ∧ w2.cell? ⟨w.heap.size, 3, none⟩ = some (.int .i64 (dn : Int)) ∧ w2.cell? ⟨w.heap.size, 12, none⟩ = some (.slice A 200 cap)) := fun w2 k => ⟨(k.blk BL.out (fun h => h)).cellD 2 _ HC.out.2.2.1, (k.blk BL.out (fun h => h)).cellD 3 _ HC.out.2.2.2, (k.blk BL.out (fun h => h)).cellD 12 _ MID.out⟩
    have ARR : Hid (∀ w2, Keeps None wb w2 → Bs w2 (some ⟨w.heap.size, 4, none⟩) 8 8 k.id) := fun w2 kk => ⟨IL.out, Nat.le_refl _, by decide, (fun e => by cases e), IB.out, fun _ => ⟨w.heap.size, 4, rfl, by have := kk.size; have := HT.out; omega, fun i hi => (kk.blk BL.out (fun h => h)).cellD (4 + i) _ (ME.out i hi)⟩⟩
    have KR := Lib.hid (Keeps.refl None wb)
    go_wp2
    obtain ⟨mS, mh⟩ : ∃ S : World → Prop, ∀ w', S w' ↔ (w'.cell? ⟨w.heap.size, 2, none⟩ = some (.int .i64 (of : Int)) ∧ w'.cell? ⟨w.heap.size, 3, none⟩ = some (.int .i64 (dn : Int)) ∧ w'.cell? ⟨w.heap.size, 12, none⟩ = some (.slice A 200 cap)) := ⟨_, fun _ => Iff.rfl⟩
    have mk0 : ∀ x : Memb mS, x.at_.cell? ⟨w.heap.size, 2, none⟩ = some (.int .i64 (of : Int)) := fun x => ((mh _).1 x.is).1
    have mk1 : ∀ x : Memb mS, x.at_.cell? ⟨w.heap.size, 3, none⟩ = some (.int .i64 (dn : Int)) := fun x => ((mh _).1 x.is).2.1
    have mk2 : ∀ x : Memb mS, x.at_.cell? ⟨w.heap.size, 12, none⟩ = some (.slice A 200 cap) := fun x => ((mh _).1 x.is).2.2
    have mn : Nonempty (Memb mS) := ⟨⟨(wb).drew, (mh _).2 ⟨(CB.out _ KR.out).1, (CB.out _ KR.out).2.1, (CB.out _ KR.out).2.2⟩⟩⟩
    have mH := Lib.hid mh
    clear mh
    refine wp_region_mix [4, 8, 13, 14] (InS mS) (by kernel_rfl) (by kernel_rfl) (InS.mk ((mH.out _).2 ⟨(CB.out _ KR.out).1, (CB.out _ KR.out).2.1, (CB.out _ KR.out).2.2⟩)) ?_
    refine wpMix_seg 4 (by kernel_rfl) (by decide) ?_
    simp only [List.take_succ_cons, List.take_zero, List.drop_succ_cons, List.drop_zero]
    repeat (go_big_quiet_step (fail))
    refine wpQuiet_nil ?_
    refine wpMix_eff (by kernel_rfl) ?_
    -- N2 the number's law, 2 the world ahead, KR.out.drew the keeping so far
    go_wp2_with fail
    refine (N2.out _).mono ?_
    rintro e w2 ⟨v2, rfl, o2, k2⟩
    obtain ⟨A2, cap2, rfl, bs2, -⟩ := o2.shape
    rw [lowL_len] at bs2 ⊢
    have K2 := Lib.hid k2
    have X2 := Lib.hid (KR.out.drew.trans k2 (T := None) (fun _ h => h) (fun _ _ h => h))
    have C2 := Lib.hid bs2
    clear o2 k2 bs2
    go_wp2
    refine MixK.on (InS.mk ((mH.out _).2 (⟨(CB.out _ X2.out).1, (CB.out _ X2.out).2.1, (CB.out _ X2.out).2.2⟩))) ?_
    refine wpMix_seg 3 (by kernel_rfl) (by decide) ?_
    simp only [List.take_succ_cons, List.take_zero, List.drop_succ_cons, List.drop_zero]
    repeat (go_big_quiet_step (fail))
    refine wpQuiet_nil ?_
    refine wpMix_eff (by kernel_rfl) ?_
    -- N3 the number's law, 3 the world ahead, X2.out the keeping so far
    go_wp2_with fail
    refine (N3.out _).mono ?_
    rintro e w3 ⟨v3, rfl, o3, k3⟩
    obtain ⟨A3, cap3, rfl, bs3, -⟩ := o3.shape
    rw [lowL_len] at bs3 ⊢
    have K3 := Lib.hid k3
    have X3 := Lib.hid (X2.out.trans k3 (T := None) (fun _ h => h) (fun _ _ h => h))
    have C3 := Lib.hid bs3
    clear o3 k3 bs3
    go_wp2
    refine MixK.on (InS.mk ((mH.out _).2 (⟨(CB.out _ X3.out).1, (CB.out _ X3.out).2.1, (CB.out _ X3.out).2.2⟩))) ?_
    refine wpMix_seg 4 (by kernel_rfl) (by decide) ?_
    simp only [List.take_succ_cons, List.take_zero, List.drop_succ_cons, List.drop_zero]
    repeat (go_big_quiet_step (fail))
    refine wpQuiet_nil ?_
    refine wpMix_eff (by kernel_rfl) ?_
    go_wp2
    refine MixK.on (InS.mk ((mH.out _).2 (⟨(CB.out _ (X3.out.alloc _)).1, (CB.out _ (X3.out.alloc _)).2.1, (CB.out _ (X3.out.alloc _)).2.2⟩))) ?_
    refine wpMix_eff (by kernel_rfl) ?_
    have PB := Lib.hid (Blk.new w3 [.slice A1 8 cap1, .slice A2 8 cap2, .slice A3 8 cap3, .slice (some ⟨w.heap.size, 4, none⟩) 8 8, .slice A 200 cap] 27)
    have X5 := Lib.hid (X3.out.alloc (.cells #[.slice A1 8 cap1, .slice A2 8 cap2, .slice A3 8 cap3, .slice (some ⟨w.heap.size, 4, none⟩) 8 8, .slice A 200 cap] 27))
    have K5 := Lib.hid ((Keeps.refl None w3).alloc (.cells #[.slice A1 8 cap1, .slice A2 8 cap2, .slice A3 8 cap3, .slice (some ⟨w.heap.size, 4, none⟩) 8 8, .slice A 200 cap] 27))
    go_wp2_with fail
    refine (concat5 ⟨A1, 8, cap1, lowL 8 (sl + 256 * bl)⟩ ⟨A2, 8, cap2, lowL 8 of⟩ ⟨A3, 8, cap3, lowL 8 dn⟩ ⟨some ⟨w.heap.size, 4, none⟩, 8, 8, k.id⟩ ⟨A, 200, cap, k.mid⟩ w3.heap.size 27 _ PB.out (C1.out.keeps X5.out (fun _ _ _ _ _ h => h)) ((C2.out.keeps K3.out (fun _ _ _ _ _ h => h)).keeps K5.out (fun _ _ _ _ _ h => h)) (C3.out.keeps K5.out (fun _ _ _ _ _ h => h)) (ARR.out _ X5.out) (HM.out.keeps X5.out (fun _ _ _ _ _ h => h)) (by simp) (by simp)).mono ?_
    rintro e w6 ⟨v6, rfl, o6, k6⟩
    have O6 : Hid (Own w6 w.heap.size v6 (chkL k)) := by (rw [HQ2.out]; exact o6.lower (by have h1 := X5.out.size; have h2 := HT.out; omega))
    have X6 := Lib.hid (X5.out.trans k6 (T := None) (fun _ h => h) (fun _ _ h => h))
    have K6 := Lib.hid (KW.out.trans X6.out (T := None) (fun _ h => h) (fun _ _ h => h))
    clear o6 k6
    go_wp2
    refine MixK.on (InS.mk ((mH.out _).2 (⟨(CB.out _ X6.out).1, (CB.out _ X6.out).2.1, (CB.out _ X6.out).2.2⟩))) ?_
    refine wpMix_seg 1 (by kernel_rfl) (by decide) ?_
    simp only [List.take_succ_cons, List.take_zero, List.drop_succ_cons, List.drop_zero]
    repeat (go_big_quiet_step (fail))
    refine wpQuiet_nil ?_
    refine wpMix_nil ?_
    clear mk0 mk1 mk2 mn mH
    go_wp2
    go_ret
    exact ⟨_, rfl, O6.out, K6.out⟩
end Go.Proofs.Ytfldgaiiniknpaa
