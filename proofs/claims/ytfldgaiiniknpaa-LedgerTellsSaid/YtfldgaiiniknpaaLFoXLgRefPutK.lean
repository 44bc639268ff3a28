
/- The walk of the reference's PutCheck. -/
import Derived.Test.YtfldgaiiniknpaaLFoXLgRefMid
namespace Go.Proofs.Ytfldgaiiniknpaa
open Go.RowKit

theorem lowL_two8 : ∀ sl, sl < 2 → ∀ bl, bl < 17 → lowL 8 (sl + 256 * bl) = [(sl : Int), (bl : Int)] ++ List.replicate 6 0 := by decide
set_option maxRecDepth 100000 in
set_option maxHeartbeats 1600000 in
theorem rgputk_any (k : Chk) (o : k.ok) (A : Option Addr) (n cap : Nat) (w : World) (h : Bs w A n cap k.mid) : Calls Try.prog 15 #[k.v A n cap] w (Cloned w (chkL k)) := by
  unfold Chk.v
  have a0 : (k.cs A n cap).toArray[0]? = some (.int .i64 k.slot) := rfl
  have a1 : (k.cs A n cap).toArray[1]? = some (.int .i64 k.block) := rfl
  have a2 : (k.cs A n cap).toArray[2]? = some (.int .i64 k.off) := rfl
  have a3 : (k.cs A n cap).toArray[3]? = some (.int .i64 k.dn) := rfl
  have a12 : (k.cs A n cap).toArray[12]? = some (.slice A n cap) := by rw [List.getElem?_toArray]; exact Chk.cs_mid o A n cap
  have BL := Lib.hid (Blk.new w (k.cs A n cap) 29)
  have IL := Lib.hid o.il
  have IB := Lib.hid o.ib
  have MID := Lib.hid (Chk.cs_mid o A n cap)
  have ME := Lib.hid (Chk.cs_id o A n cap)
  have HB := Lib.hid h
  have hle := h.le
  have hmx := h.max
  have HLN := Lib.hid h.len
  have LD := Lib.hid (fun w h => rmaymid_any A n cap k.mid w h)
  obtain ⟨V, hV⟩ : ∃ V, (k.cs A n cap).toArray = V := ⟨_, rfl⟩
  rw [hV] at a0 a1 a2 a3 a12 BL ⊢
  clear hV o h
  by_cases g1 : k.slot = 0
  · skip
    rw [g1] at a0
    by_cases g3 : k.block < 0
    · have d3 : decide (k.block < 0) = true := decide_eq_true g3
      have HP : Hid (chkL k = []) := if_neg (fun h => by obtain ⟨⟨f1, f2, f3, f4⟩, ⟨f5, f6, f7, f8⟩, -⟩ := h; omega)
      go_enter Try.func15, Try.ntmps15
      go_wp2
      go_ret
      exact ⟨_, rfl, by rw [HP.out]; exact Own.nil _ _, (Keeps.refl _ _).alloc _⟩
    have d3 : decide (k.block < 0) = false := decide_eq_false g3
    by_cases g4 : 16 < k.block
    · have d4 : decide (16 < k.block) = true := decide_eq_true g4
      have HP : Hid (chkL k = []) := if_neg (fun h => by obtain ⟨⟨f1, f2, f3, f4⟩, ⟨f5, f6, f7, f8⟩, -⟩ := h; omega)
      go_enter Try.func15, Try.ntmps15
      go_wp2
      go_ret
      exact ⟨_, rfl, by rw [HP.out]; exact Own.nil _ _, (Keeps.refl _ _).alloc _⟩
    have d4 : decide (16 < k.block) = false := decide_eq_false g4
    by_cases g5 : k.off < 0
    · have d5 : decide (k.off < 0) = true := decide_eq_true g5
      have HP : Hid (chkL k = []) := if_neg (fun h => by obtain ⟨⟨f1, f2, f3, f4⟩, ⟨f5, f6, f7, f8⟩, -⟩ := h; omega)
      go_enter Try.func15, Try.ntmps15
      go_wp2
      go_ret
      exact ⟨_, rfl, by rw [HP.out]; exact Own.nil _ _, (Keeps.refl _ _).alloc _⟩
    have d5 : decide (k.off < 0) = false := decide_eq_false g5
    by_cases g6 : 2147483647 < k.off
    · have d6 : decide (2147483647 < k.off) = true := decide_eq_true g6
      have HP : Hid (chkL k = []) := if_neg (fun h => by obtain ⟨⟨f1, f2, f3, f4⟩, ⟨f5, f6, f7, f8⟩, -⟩ := h; omega)
      go_enter Try.func15, Try.ntmps15
      go_wp2
      go_ret
      exact ⟨_, rfl, by rw [HP.out]; exact Own.nil _ _, (Keeps.refl _ _).alloc _⟩
    have d6 : decide (2147483647 < k.off) = false := decide_eq_false g6
    by_cases g7 : k.dn < 0
    · have d7 : decide (k.dn < 0) = true := decide_eq_true g7
      have HP : Hid (chkL k = []) := if_neg (fun h => by obtain ⟨⟨f1, f2, f3, f4⟩, ⟨f5, f6, f7, f8⟩, -⟩ := h; omega)
      go_enter Try.func15, Try.ntmps15
      go_wp2
      go_ret
      exact ⟨_, rfl, by rw [HP.out]; exact Own.nil _ _, (Keeps.refl _ _).alloc _⟩
    have d7 : decide (k.dn < 0) = false := decide_eq_false g7
    by_cases g8 : 2147483647 < k.dn
    · have d8 : decide (2147483647 < k.dn) = true := decide_eq_true g8
      have HP : Hid (chkL k = []) := if_neg (fun h => by obtain ⟨⟨f1, f2, f3, f4⟩, ⟨f5, f6, f7, f8⟩, -⟩ := h; omega)
      go_enter Try.func15, Try.ntmps15
      go_wp2
      go_ret
      exact ⟨_, rfl, by rw [HP.out]; exact Own.nil _ _, (Keeps.refl _ _).alloc _⟩
    have d8 : decide (2147483647 < k.dn) = false := decide_eq_false g8
    obtain ⟨bl, hbl⟩ : ∃ n : Nat, k.block = n := ⟨k.block.toNat, by omega⟩
    obtain ⟨of, hof⟩ : ∃ n : Nat, k.off = n := ⟨k.off.toNat, by omega⟩
    obtain ⟨dn, hdn⟩ : ∃ n : Nat, k.dn = n := ⟨k.dn.toNat, by omega⟩
    have s2 : bl ≤ 16 := by omega
    have s3 : of ≤ 2147483647 := by omega
    have s4 : dn ≤ 2147483647 := by omega
    have N2 := Lib.hid (fun w => low8_any of (by omega) w)
    have N3 := Lib.hid (fun w => low8_any dn (by omega) w)
    rw [hbl] at a1 d3 d4
    rw [hof] at a2 d5 d6
    rw [hdn] at a3 d7 d8
    have HQ : Hid (midOk k.mid = true → chkL k = ((((([0, (bl : Int)] ++ List.replicate 6 0) ++ lowL 8 of) ++ lowL 8 dn) ++ k.id) ++ k.mid)) := fun hm => by
      rw [show chkL k = _ from if_pos ⟨⟨by omega, by omega, by omega, by omega⟩, ⟨by omega, by omega, by omega, by omega⟩, hm⟩, g1, hbl, hof, hdn]
      have h := lowL_two8 0 (by decide) bl (by omega)
      rw [show (0 : Int).toNat = 0 from rfl, Int.toNat_natCast, h]
      simp only [List.append_assoc]
      rfl
    have HN : Hid (midOk k.mid = false → chkL k = []) := fun hm => if_neg (fun h => by have h2 := h.2.2; rw [hm] at h2; cases h2)
    have HC : Hid ((k.cs A n cap)[2]? = some (.int .i64 (of : Int)) ∧ (k.cs A n cap)[3]? = some (.int .i64 (dn : Int))) := by
      rw [← hof, ← hdn]
      exact ⟨rfl, rfl⟩
    have HC0 : Hid ((k.cs A n cap)[0]? = some (.int .i64 0)) := by show _ = _; rw [← g1]; rfl
    have HC1 : Hid ((k.cs A n cap)[1]? = some (.int .i64 (bl : Int))) := by show _ = _; rw [← hbl]; rfl
    obtain ⟨ok, hok⟩ : ∃ b, midOk k.mid = b := ⟨_, rfl⟩
    rw [hok] at LD HQ HN
    have HOK := Lib.hid hok
    clear hok hbl hof hdn g1 g3 g4 g5 g6 g7 g8
    have HB2 : Hid (Bs (w.alloc (.cells V 29)) A n cap k.mid) := HB.out.keeps ((Keeps.refl None w).alloc _) (fun _ _ _ _ _ h => h)
    obtain ⟨wb, hwb⟩ : ∃ x, w.alloc (.cells V 29) = x := ⟨_, rfl⟩
    have KB : Hid (Keeps None w wb) := by rw [← hwb]; exact (Keeps.refl None w).alloc _
    have HS : Hid (wb.heap.size = w.heap.size + 1) := by show _ = _; rw [← hwb]; simp
    rw [hwb] at BL HB2
    have HWB := Lib.hid hwb
    clear hwb
    go_enter Try.func15, Try.ntmps15
    go_wp2_with fail
    rw [HWB.out]
    refine (LD.out _ HB2.out).mono ?_
    rintro e wl ⟨rfl, rfl⟩
    cases ok with
    | false =>
      go_wp2
      go_ret
      exact ⟨_, rfl, by rw [HN.out (by simp)]; exact Own.nil _ _, KB.out⟩
    | true =>
      have x0 := BL.out.cellD 0 _ HC0.out
      have x1 := BL.out.cellD 1 _ HC1.out
      have HQ2 := Lib.hid (HQ.out (by trivial))
      have N200 : n = 200 := by rw [← HLN.out]; exact midOk_len HOK.out
      subst N200
      clear HQ HN HOK LD HC0 HC1
      go_wp2_with (at_builtin; refine Hid.out ?_)
      refine Lib.hid ?_
      refine wpList_zeros wb.heap.size [0, (bl : Int)] 2 6 8 5 (Blk.new wb [.int .u8 0, .int .u8 (bl : Int)] 5) (by
        intro z hz
        simp only [List.mem_cons, List.not_mem_nil, or_false] at hz
        rcases hz with rfl | rfl <;> omega) rfl rfl (by decide) (by decide) (by decide) (by rfl) (by rfl) (by rfl) (by rfl) (by rfl) ?_
      intro A3 cap3 w3 o3 k3
      have O3 : Hid (Own w3 wb.heap.size (.slice A3 8 cap3) ([0, (bl : Int)] ++ List.replicate 6 0)) := o3.lower (by simp)
      have X3 : Hid (Keeps None wb w3) := ((Keeps.refl None wb).alloc _).trans k3 (fun _ h => h) (fun _ _ h => h)
      have L3 : Hid (([0, (bl : Int)] ++ List.replicate 6 0 : List Int).length = 8) := rfl
      clear o3 k3 a0 a1 a2 a3 a12 HWB HS x0 x1
      have CB : Hid (∀ w2, Keeps None wb w2 → w2.cell? ⟨w.heap.size, 2, none⟩ = some (.int .i64 (of : Int)) ∧ w2.cell? ⟨w.heap.size, 3, none⟩ = some (.int .i64 (dn : Int))) := fun w2 k => ⟨(k.blk BL.out (fun h => h)).cellD 2 _ HC.out.1, (k.blk BL.out (fun h => h)).cellD 3 _ HC.out.2⟩
      have CC : Hid (∀ w2, Keeps None wb w2 → w2.cell? ⟨w.heap.size, 12, none⟩ = some (.slice A 200 cap)) := fun w2 k => (k.blk BL.out (fun h => h)).cellD 12 _ MID.out
      have ARR : Hid (∀ w2, Keeps None wb w2 → Bs w2 (some ⟨w.heap.size, 4, none⟩) 8 8 k.id) := fun w2 kk => ⟨IL.out, Nat.le_refl _, by decide, (fun e => by cases e), IB.out, fun _ => ⟨w.heap.size, 4, rfl, (kk.blk BL.out (fun h => h)).lt, fun i hi => (kk.blk BL.out (fun h => h)).cellD (4 + i) _ (ME.out i hi)⟩⟩
      go_wp2
      obtain ⟨mS, mh⟩ : ∃ S : World → Prop, ∀ w', S w' ↔ (w'.cell? ⟨w.heap.size, 2, none⟩ = some (.int .i64 (of : Int)) ∧ w'.cell? ⟨w.heap.size, 3, none⟩ = some (.int .i64 (dn : Int))) := ⟨_, fun _ => Iff.rfl⟩
      have mk0 : ∀ x : Memb mS, x.at_.cell? ⟨w.heap.size, 2, none⟩ = some (.int .i64 (of : Int)) := fun x => ((mh _).1 x.is).1
      have mk1 : ∀ x : Memb mS, x.at_.cell? ⟨w.heap.size, 3, none⟩ = some (.int .i64 (dn : Int)) := fun x => ((mh _).1 x.is).2
      have mn : Nonempty (Memb mS) := ⟨⟨(w3).drew, (mh _).2 ⟨(CB.out _ X3.out.drew).1, (CB.out _ X3.out.drew).2⟩⟩⟩
      have mH := Lib.hid mh
      clear mh
      refine wp_region_mix [4, 5, 9, 10] (InS mS) (by kernel_rfl) (by kernel_rfl) (InS.mk ((mH.out _).2 ⟨(CB.out _ X3.out.drew).1, (CB.out _ X3.out.drew).2⟩)) ?_
      refine wpMix_seg 4 (by kernel_rfl) (by decide) ?_
      simp only [List.take_succ_cons, List.take_zero, List.drop_succ_cons, List.drop_zero]
      repeat (first | go_big_quiet_step (fail) | (go_big_quiet_want; first | refine quiet_build BU.out rfl rfl (by simp [Act.eval]) (by simp only [Act.put, List.setIfInBounds_toArray, List.set_cons_succ, List.set_cons_zero]; rfl) ?_; go_big_quiet_on))
      refine wpQuiet_nil ?_
      refine wpMix_eff (by kernel_rfl) ?_
      -- N2 the contract, 4 the new mark, O3.out.drew own fact, X3.out.drew keeping fact, #5 own mark
      go_wp2_with fail
      refine (N2.out _).mono ?_
      rintro e w4 ⟨v4, rfl, o4, k4⟩
      obtain ⟨A4, cap4, rfl, bs4, -⟩ := o4.shape
      rw [lowL_len] at bs4 ⊢
      have X4 := Lib.hid (X3.out.drew.trans k4 (T := None) (fun _ h => h) (fun _ _ h => h))
      have O4 := Lib.hid (O3.out.drew.keeps k4 (fun _ _ h => h))
      have C4 := Lib.hid bs4
      clear o4 k4 bs4
      go_wp2
      refine MixK.on (InS.mk ((mH.out _).2 (⟨(CB.out _ X4.out).1, (CB.out _ X4.out).2⟩))) ?_
      refine wpMix_eff (by kernel_rfl) ?_
      -- 4 mark of the call, 5 new mark, 3 mark of the bytes so far, 16 the new length
      go_wp2_with (at_builtin; refine Hid.out ?_)
      refine Lib.hid ?_
      refine wpList_append_bs O4.out C4.out (by rw [L3.out]; decide) X4.out.size rfl rfl rfl rfl rfl ?_
      intro v5 w5 ho5 hk5
      have L5 := own_app_len ho5 L3.out (lowL_len 8 _) (n := 16) rfl
      obtain ⟨A5, cap5, rfl, -, -⟩ := ho5.shape
      rw [L5.out] at ho5 ⊢
      have O5 := Lib.hid ho5
      have X5 := Lib.hid (X4.out.trans hk5 (T := None) (fun _ h => h) (fun i hi e => absurd e (O4.out.notBelow hi)))
      clear ho5 hk5 O4 C4
      go_wp2
      refine MixK.on (InS.mk ((mH.out _).2 (⟨(CB.out _ X5.out).1, (CB.out _ X5.out).2⟩))) ?_
      refine wpMix_seg 3 (by kernel_rfl) (by decide) ?_
      simp only [List.take_succ_cons, List.take_zero, List.drop_succ_cons, List.drop_zero]
      repeat (first | go_big_quiet_step (fail) | (go_big_quiet_want; first | refine quiet_build BU.out rfl rfl (by simp [Act.eval]) (by simp only [Act.put, List.setIfInBounds_toArray, List.set_cons_succ, List.set_cons_zero]; rfl) ?_; go_big_quiet_on))
      refine wpQuiet_nil ?_
      refine wpMix_eff (by kernel_rfl) ?_
      -- N3 the contract, 6 the new mark, O5.out own fact, X5.out keeping fact, #5 own mark
      go_wp2_with fail
      refine (N3.out _).mono ?_
      rintro e w6 ⟨v6, rfl, o6, k6⟩
      obtain ⟨A6, cap6, rfl, bs6, -⟩ := o6.shape
      rw [lowL_len] at bs6 ⊢
      have X6 := Lib.hid (X5.out.trans k6 (T := None) (fun _ h => h) (fun _ _ h => h))
      have O6 := Lib.hid (O5.out.keeps k6 (fun _ _ h => h))
      have C6 := Lib.hid bs6
      clear o6 k6 bs6
      go_wp2
      refine MixK.on (InS.mk ((mH.out _).2 (⟨(CB.out _ X6.out).1, (CB.out _ X6.out).2⟩))) ?_
      refine wpMix_eff (by kernel_rfl) ?_
      -- 6 mark of the call, 7 new mark, 5 mark of the bytes so far, 24 the new length
      go_wp2_with (at_builtin; refine Hid.out ?_)
      refine Lib.hid ?_
      refine wpList_append_bs O6.out C6.out (by rw [L5.out]; decide) X6.out.size rfl rfl rfl rfl rfl ?_
      intro v7 w7 ho7 hk7
      have L7 := own_app_len ho7 L5.out (lowL_len 8 _) (n := 24) rfl
      obtain ⟨A7, cap7, rfl, -, -⟩ := ho7.shape
      rw [L7.out] at ho7 ⊢
      have O7 := Lib.hid ho7
      have X7 := Lib.hid (X6.out.trans hk7 (T := None) (fun _ h => h) (fun i hi e => absurd e (O6.out.notBelow hi)))
      clear ho7 hk7 O6 C6
      go_wp2
      refine MixK.on (InS.mk ((mH.out _).2 (⟨(CB.out _ X7.out).1, (CB.out _ X7.out).2⟩))) ?_
      refine wpMix_seg 1 (by kernel_rfl) (by decide) ?_
      simp only [List.take_succ_cons, List.take_zero, List.drop_succ_cons, List.drop_zero]
      repeat (first | go_big_quiet_step (fail) | (go_big_quiet_want; first | refine quiet_build BU.out rfl rfl (by simp [Act.eval]) (by simp only [Act.put, List.setIfInBounds_toArray, List.set_cons_succ, List.set_cons_zero]; rfl) ?_; go_big_quiet_on))
      refine wpQuiet_nil ?_
      refine wpMix_nil ?_
      clear mk0 mk1 mn mH
      clear CB
      go_wp2
      obtain ⟨nS, nh⟩ : ∃ S : World → Prop, ∀ w', S w' ↔ (w'.cell? ⟨w.heap.size, 12, none⟩ = some (.slice A 200 cap)) := ⟨_, fun _ => Iff.rfl⟩
      have nk0 : ∀ x : Memb nS, x.at_.cell? ⟨w.heap.size, 12, none⟩ = some (.slice A 200 cap) := fun x => ((nh _).1 x.is)
      have nn : Nonempty (Memb nS) := ⟨⟨(w7).drew, (nh _).2 (CC.out _ X7.out.drew)⟩⟩
      have nH := Lib.hid nh
      clear nh
      refine wp_region_mix [3, 6] (InS nS) (by kernel_rfl) (by kernel_rfl) (InS.mk ((nH.out _).2 (CC.out _ X7.out.drew))) ?_
      refine wpMix_seg 3 (by kernel_rfl) (by decide) ?_
      simp only [List.take_succ_cons, List.take_zero, List.drop_succ_cons, List.drop_zero]
      repeat (first | go_big_quiet_step (fail) | (go_big_quiet_want; first | refine quiet_build BU.out rfl rfl (by simp [Act.eval]) (by simp only [Act.put, List.setIfInBounds_toArray, List.set_cons_succ, List.set_cons_zero]; rfl) ?_; go_big_quiet_on))
      refine wpQuiet_nil ?_
      refine wpMix_eff (by kernel_rfl) ?_
      go_wp2_with (at_builtin; refine Hid.out ?_)
      refine Lib.hid ?_
      refine wpList_append_bs O7.out.drew (ARR.out _ X7.out.drew) (by rw [L7.out]; decide) X7.out.size rfl rfl rfl rfl rfl ?_
      intro v9 w9 ho9 hk9
      have L9 := own_app_len ho9 L7.out IL.out (n := 32) rfl
      obtain ⟨A9, cap9, rfl, -, -⟩ := ho9.shape
      rw [L9.out] at ho9 ⊢
      have O9 := Lib.hid ho9
      have X9 := Lib.hid (X7.out.drew.trans hk9 (T := None) (fun _ h => h) (fun i hi e => absurd e (O7.out.drew.notBelow hi)))
      clear ho9 hk9 O7
      go_wp2
      refine MixK.on (InS.mk ((nH.out _).2 ((CC.out _ X9.out)))) ?_
      refine wpMix_seg 2 (by kernel_rfl) (by decide) ?_
      simp only [List.take_succ_cons, List.take_zero, List.drop_succ_cons, List.drop_zero]
      repeat (first | go_big_quiet_step (fail) | (go_big_quiet_want; first | refine quiet_build BU.out rfl rfl (by simp [Act.eval]) (by simp only [Act.put, List.setIfInBounds_toArray, List.set_cons_succ, List.set_cons_zero]; rfl) ?_; go_big_quiet_on))
      refine wpQuiet_nil ?_
      refine wpMix_eff (by kernel_rfl) ?_
      go_wp2_with (at_builtin; refine Hid.out ?_)
      refine Lib.hid ?_
      refine wpList_append_bs O9.out (HB2.out.keeps X9.out (fun _ _ _ _ _ h => h)) (by rw [L9.out]; decide) X9.out.size rfl rfl rfl rfl rfl ?_
      intro v10 w10 ho10 hk10
      have O10 : Hid (Own w10 w.heap.size v10 (chkL k)) := by (rw [HQ2.out]; exact ho10.lower KB.out.size)
      have X10 := Lib.hid (X9.out.trans hk10 (T := None) (fun _ h => h) (fun i hi e => absurd e (O9.out.notBelow hi)))
      clear ho10 hk10
      go_wp2
      refine MixK.on (InS.mk ((nH.out _).2 ((CC.out _ X10.out)))) ?_
      refine wpMix_seg 1 (by kernel_rfl) (by decide) ?_
      simp only [List.take_succ_cons, List.take_zero, List.drop_succ_cons, List.drop_zero]
      repeat (first | go_big_quiet_step (fail) | (go_big_quiet_want; first | refine quiet_build BU.out rfl rfl (by simp [Act.eval]) (by simp only [Act.put, List.setIfInBounds_toArray, List.set_cons_succ, List.set_cons_zero]; rfl) ?_; go_big_quiet_on))
      refine wpQuiet_nil ?_
      refine wpMix_nil ?_
      clear nk0 nn nH
      have K10 := Lib.hid (KB.out.trans X10.out (T := None) (fun _ h => h) (fun _ _ h => h))
      go_wp2
      go_ret
      exact ⟨_, rfl, O10.out, K10.out⟩
  by_cases g2 : k.slot = 1
  · have g1 := g2
    rw [g1] at a0
    by_cases g3 : k.block < 0
    · have d3 : decide (k.block < 0) = true := decide_eq_true g3
      have HP : Hid (chkL k = []) := if_neg (fun h => by obtain ⟨⟨f1, f2, f3, f4⟩, ⟨f5, f6, f7, f8⟩, -⟩ := h; omega)
      go_enter Try.func15, Try.ntmps15
      go_wp2
      go_ret
      exact ⟨_, rfl, by rw [HP.out]; exact Own.nil _ _, (Keeps.refl _ _).alloc _⟩
    have d3 : decide (k.block < 0) = false := decide_eq_false g3
    by_cases g4 : 16 < k.block
    · have d4 : decide (16 < k.block) = true := decide_eq_true g4
      have HP : Hid (chkL k = []) := if_neg (fun h => by obtain ⟨⟨f1, f2, f3, f4⟩, ⟨f5, f6, f7, f8⟩, -⟩ := h; omega)
      go_enter Try.func15, Try.ntmps15
      go_wp2
      go_ret
      exact ⟨_, rfl, by rw [HP.out]; exact Own.nil _ _, (Keeps.refl _ _).alloc _⟩
    have d4 : decide (16 < k.block) = false := decide_eq_false g4
    by_cases g5 : k.off < 0
    · have d5 : decide (k.off < 0) = true := decide_eq_true g5
      have HP : Hid (chkL k = []) := if_neg (fun h => by obtain ⟨⟨f1, f2, f3, f4⟩, ⟨f5, f6, f7, f8⟩, -⟩ := h; omega)
      go_enter Try.func15, Try.ntmps15
      go_wp2
      go_ret
      exact ⟨_, rfl, by rw [HP.out]; exact Own.nil _ _, (Keeps.refl _ _).alloc _⟩
    have d5 : decide (k.off < 0) = false := decide_eq_false g5
    by_cases g6 : 2147483647 < k.off
    · have d6 : decide (2147483647 < k.off) = true := decide_eq_true g6
      have HP : Hid (chkL k = []) := if_neg (fun h => by obtain ⟨⟨f1, f2, f3, f4⟩, ⟨f5, f6, f7, f8⟩, -⟩ := h; omega)
      go_enter Try.func15, Try.ntmps15
      go_wp2
      go_ret
      exact ⟨_, rfl, by rw [HP.out]; exact Own.nil _ _, (Keeps.refl _ _).alloc _⟩
    have d6 : decide (2147483647 < k.off) = false := decide_eq_false g6
    by_cases g7 : k.dn < 0
    · have d7 : decide (k.dn < 0) = true := decide_eq_true g7
      have HP : Hid (chkL k = []) := if_neg (fun h => by obtain ⟨⟨f1, f2, f3, f4⟩, ⟨f5, f6, f7, f8⟩, -⟩ := h; omega)
      go_enter Try.func15, Try.ntmps15
      go_wp2
      go_ret
      exact ⟨_, rfl, by rw [HP.out]; exact Own.nil _ _, (Keeps.refl _ _).alloc _⟩
    have d7 : decide (k.dn < 0) = false := decide_eq_false g7
    by_cases g8 : 2147483647 < k.dn
    · have d8 : decide (2147483647 < k.dn) = true := decide_eq_true g8
      have HP : Hid (chkL k = []) := if_neg (fun h => by obtain ⟨⟨f1, f2, f3, f4⟩, ⟨f5, f6, f7, f8⟩, -⟩ := h; omega)
      go_enter Try.func15, Try.ntmps15
      go_wp2
      go_ret
      exact ⟨_, rfl, by rw [HP.out]; exact Own.nil _ _, (Keeps.refl _ _).alloc _⟩
    have d8 : decide (2147483647 < k.dn) = false := decide_eq_false g8
    obtain ⟨bl, hbl⟩ : ∃ n : Nat, k.block = n := ⟨k.block.toNat, by omega⟩
    obtain ⟨of, hof⟩ : ∃ n : Nat, k.off = n := ⟨k.off.toNat, by omega⟩
    obtain ⟨dn, hdn⟩ : ∃ n : Nat, k.dn = n := ⟨k.dn.toNat, by omega⟩
    have s2 : bl ≤ 16 := by omega
    have s3 : of ≤ 2147483647 := by omega
    have s4 : dn ≤ 2147483647 := by omega
    have N2 := Lib.hid (fun w => low8_any of (by omega) w)
    have N3 := Lib.hid (fun w => low8_any dn (by omega) w)
    rw [hbl] at a1 d3 d4
    rw [hof] at a2 d5 d6
    rw [hdn] at a3 d7 d8
    have HQ : Hid (midOk k.mid = true → chkL k = ((((([1, (bl : Int)] ++ List.replicate 6 0) ++ lowL 8 of) ++ lowL 8 dn) ++ k.id) ++ k.mid)) := fun hm => by
      rw [show chkL k = _ from if_pos ⟨⟨by omega, by omega, by omega, by omega⟩, ⟨by omega, by omega, by omega, by omega⟩, hm⟩, g1, hbl, hof, hdn]
      have h := lowL_two8 1 (by decide) bl (by omega)
      rw [show (1 : Int).toNat = 1 from rfl, Int.toNat_natCast, h]
      simp only [List.append_assoc]
      rfl
    have HN : Hid (midOk k.mid = false → chkL k = []) := fun hm => if_neg (fun h => by have h2 := h.2.2; rw [hm] at h2; cases h2)
    have HC : Hid ((k.cs A n cap)[2]? = some (.int .i64 (of : Int)) ∧ (k.cs A n cap)[3]? = some (.int .i64 (dn : Int))) := by
      rw [← hof, ← hdn]
      exact ⟨rfl, rfl⟩
    have HC0 : Hid ((k.cs A n cap)[0]? = some (.int .i64 1)) := by show _ = _; rw [← g1]; rfl
    have HC1 : Hid ((k.cs A n cap)[1]? = some (.int .i64 (bl : Int))) := by show _ = _; rw [← hbl]; rfl
    obtain ⟨ok, hok⟩ : ∃ b, midOk k.mid = b := ⟨_, rfl⟩
    rw [hok] at LD HQ HN
    have HOK := Lib.hid hok
    clear hok hbl hof hdn g1 g3 g4 g5 g6 g7 g8
    have HB2 : Hid (Bs (w.alloc (.cells V 29)) A n cap k.mid) := HB.out.keeps ((Keeps.refl None w).alloc _) (fun _ _ _ _ _ h => h)
    obtain ⟨wb, hwb⟩ : ∃ x, w.alloc (.cells V 29) = x := ⟨_, rfl⟩
    have KB : Hid (Keeps None w wb) := by rw [← hwb]; exact (Keeps.refl None w).alloc _
    have HS : Hid (wb.heap.size = w.heap.size + 1) := by show _ = _; rw [← hwb]; simp
    rw [hwb] at BL HB2
    have HWB := Lib.hid hwb
    clear hwb
    go_enter Try.func15, Try.ntmps15
    go_wp2_with fail
    rw [HWB.out]
    refine (LD.out _ HB2.out).mono ?_
    rintro e wl ⟨rfl, rfl⟩
    cases ok with
    | false =>
      go_wp2
      go_ret
      exact ⟨_, rfl, by rw [HN.out (by simp)]; exact Own.nil _ _, KB.out⟩
    | true =>
      have x0 := BL.out.cellD 0 _ HC0.out
      have x1 := BL.out.cellD 1 _ HC1.out
      have HQ2 := Lib.hid (HQ.out (by trivial))
      have N200 : n = 200 := by rw [← HLN.out]; exact midOk_len HOK.out
      subst N200
      clear HQ HN HOK LD HC0 HC1
      go_wp2_with (at_builtin; refine Hid.out ?_)
      refine Lib.hid ?_
      refine wpList_zeros wb.heap.size [1, (bl : Int)] 2 6 8 5 (Blk.new wb [.int .u8 1, .int .u8 (bl : Int)] 5) (by
        intro z hz
        simp only [List.mem_cons, List.not_mem_nil, or_false] at hz
        rcases hz with rfl | rfl <;> omega) rfl rfl (by decide) (by decide) (by decide) (by rfl) (by rfl) (by rfl) (by rfl) (by rfl) ?_
      intro A3 cap3 w3 o3 k3
      have O3 : Hid (Own w3 wb.heap.size (.slice A3 8 cap3) ([1, (bl : Int)] ++ List.replicate 6 0)) := o3.lower (by simp)
      have X3 : Hid (Keeps None wb w3) := ((Keeps.refl None wb).alloc _).trans k3 (fun _ h => h) (fun _ _ h => h)
      have L3 : Hid (([1, (bl : Int)] ++ List.replicate 6 0 : List Int).length = 8) := rfl
      clear o3 k3 a0 a1 a2 a3 a12 HWB HS x0 x1
      have CB : Hid (∀ w2, Keeps None wb w2 → w2.cell? ⟨w.heap.size, 2, none⟩ = some (.int .i64 (of : Int)) ∧ w2.cell? ⟨w.heap.size, 3, none⟩ = some (.int .i64 (dn : Int))) := fun w2 k => ⟨(k.blk BL.out (fun h => h)).cellD 2 _ HC.out.1, (k.blk BL.out (fun h => h)).cellD 3 _ HC.out.2⟩
      have CC : Hid (∀ w2, Keeps None wb w2 → w2.cell? ⟨w.heap.size, 12, none⟩ = some (.slice A 200 cap)) := fun w2 k => (k.blk BL.out (fun h => h)).cellD 12 _ MID.out
      have ARR : Hid (∀ w2, Keeps None wb w2 → Bs w2 (some ⟨w.heap.size, 4, none⟩) 8 8 k.id) := fun w2 kk => ⟨IL.out, Nat.le_refl _, by decide, (fun e => by cases e), IB.out, fun _ => ⟨w.heap.size, 4, rfl, (kk.blk BL.out (fun h => h)).lt, fun i hi => (kk.blk BL.out (fun h => h)).cellD (4 + i) _ (ME.out i hi)⟩⟩
      go_wp2
      obtain ⟨mS, mh⟩ : ∃ S : World → Prop, ∀ w', S w' ↔ (w'.cell? ⟨w.heap.size, 2, none⟩ = some (.int .i64 (of : Int)) ∧ w'.cell? ⟨w.heap.size, 3, none⟩ = some (.int .i64 (dn : Int))) := ⟨_, fun _ => Iff.rfl⟩
      have mk0 : ∀ x : Memb mS, x.at_.cell? ⟨w.heap.size, 2, none⟩ = some (.int .i64 (of : Int)) := fun x => ((mh _).1 x.is).1
      have mk1 : ∀ x : Memb mS, x.at_.cell? ⟨w.heap.size, 3, none⟩ = some (.int .i64 (dn : Int)) := fun x => ((mh _).1 x.is).2
      have mn : Nonempty (Memb mS) := ⟨⟨(w3).drew, (mh _).2 ⟨(CB.out _ X3.out.drew).1, (CB.out _ X3.out.drew).2⟩⟩⟩
      have mH := Lib.hid mh
      clear mh
      refine wp_region_mix [4, 5, 9, 10] (InS mS) (by kernel_rfl) (by kernel_rfl) (InS.mk ((mH.out _).2 ⟨(CB.out _ X3.out.drew).1, (CB.out _ X3.out.drew).2⟩)) ?_
      refine wpMix_seg 4 (by kernel_rfl) (by decide) ?_
      simp only [List.take_succ_cons, List.take_zero, List.drop_succ_cons, List.drop_zero]
      repeat (first | go_big_quiet_step (fail) | (go_big_quiet_want; first | refine quiet_build BU.out rfl rfl (by simp [Act.eval]) (by simp only [Act.put, List.setIfInBounds_toArray, List.set_cons_succ, List.set_cons_zero]; rfl) ?_; go_big_quiet_on))
      refine wpQuiet_nil ?_
      refine wpMix_eff (by kernel_rfl) ?_
      -- N2 the contract, 4 the new mark, O3.out.drew own fact, X3.out.drew keeping fact, #5 own mark
      go_wp2_with fail
      refine (N2.out _).mono ?_
      rintro e w4 ⟨v4, rfl, o4, k4⟩
      obtain ⟨A4, cap4, rfl, bs4, -⟩ := o4.shape
      rw [lowL_len] at bs4 ⊢
      have X4 := Lib.hid (X3.out.drew.trans k4 (T := None) (fun _ h => h) (fun _ _ h => h))
      have O4 := Lib.hid (O3.out.drew.keeps k4 (fun _ _ h => h))
      have C4 := Lib.hid bs4
      clear o4 k4 bs4
      go_wp2
      refine MixK.on (InS.mk ((mH.out _).2 (⟨(CB.out _ X4.out).1, (CB.out _ X4.out).2⟩))) ?_
      refine wpMix_eff (by kernel_rfl) ?_
      -- 4 mark of the call, 5 new mark, 3 mark of the bytes so far, 16 the new length
      go_wp2_with (at_builtin; refine Hid.out ?_)
      refine Lib.hid ?_
      refine wpList_append_bs O4.out C4.out (by rw [L3.out]; decide) X4.out.size rfl rfl rfl rfl rfl ?_
      intro v5 w5 ho5 hk5
      have L5 := own_app_len ho5 L3.out (lowL_len 8 _) (n := 16) rfl
      obtain ⟨A5, cap5, rfl, -, -⟩ := ho5.shape
      rw [L5.out] at ho5 ⊢
      have O5 := Lib.hid ho5
      have X5 := Lib.hid (X4.out.trans hk5 (T := None) (fun _ h => h) (fun i hi e => absurd e (O4.out.notBelow hi)))
      clear ho5 hk5 O4 C4
      go_wp2
      refine MixK.on (InS.mk ((mH.out _).2 (⟨(CB.out _ X5.out).1, (CB.out _ X5.out).2⟩))) ?_
      refine wpMix_seg 3 (by kernel_rfl) (by decide) ?_
      simp only [List.take_succ_cons, List.take_zero, List.drop_succ_cons, List.drop_zero]
      repeat (first | go_big_quiet_step (fail) | (go_big_quiet_want; first | refine quiet_build BU.out rfl rfl (by simp [Act.eval]) (by simp only [Act.put, List.setIfInBounds_toArray, List.set_cons_succ, List.set_cons_zero]; rfl) ?_; go_big_quiet_on))
      refine wpQuiet_nil ?_
      refine wpMix_eff (by kernel_rfl) ?_
      -- N3 the contract, 6 the new mark, O5.out own fact, X5.out keeping fact, #5 own mark
      go_wp2_with fail
      refine (N3.out _).mono ?_
      rintro e w6 ⟨v6, rfl, o6, k6⟩
      obtain ⟨A6, cap6, rfl, bs6, -⟩ := o6.shape
      rw [lowL_len] at bs6 ⊢
      have X6 := Lib.hid (X5.out.trans k6 (T := None) (fun _ h => h) (fun _ _ h => h))
      have O6 := Lib.hid (O5.out.keeps k6 (fun _ _ h => h))
      have C6 := Lib.hid bs6
      clear o6 k6 bs6
      go_wp2
      refine MixK.on (InS.mk ((mH.out _).2 (⟨(CB.out _ X6.out).1, (CB.out _ X6.out).2⟩))) ?_
      refine wpMix_eff (by kernel_rfl) ?_
      -- 6 mark of the call, 7 new mark, 5 mark of the bytes so far, 24 the new length
      go_wp2_with (at_builtin; refine Hid.out ?_)
      refine Lib.hid ?_
      refine wpList_append_bs O6.out C6.out (by rw [L5.out]; decide) X6.out.size rfl rfl rfl rfl rfl ?_
      intro v7 w7 ho7 hk7
      have L7 := own_app_len ho7 L5.out (lowL_len 8 _) (n := 24) rfl
      obtain ⟨A7, cap7, rfl, -, -⟩ := ho7.shape
      rw [L7.out] at ho7 ⊢
      have O7 := Lib.hid ho7
      have X7 := Lib.hid (X6.out.trans hk7 (T := None) (fun _ h => h) (fun i hi e => absurd e (O6.out.notBelow hi)))
      clear ho7 hk7 O6 C6
      go_wp2
      refine MixK.on (InS.mk ((mH.out _).2 (⟨(CB.out _ X7.out).1, (CB.out _ X7.out).2⟩))) ?_
      refine wpMix_seg 1 (by kernel_rfl) (by decide) ?_
      simp only [List.take_succ_cons, List.take_zero, List.drop_succ_cons, List.drop_zero]
      repeat (first | go_big_quiet_step (fail) | (go_big_quiet_want; first | refine quiet_build BU.out rfl rfl (by simp [Act.eval]) (by simp only [Act.put, List.setIfInBounds_toArray, List.set_cons_succ, List.set_cons_zero]; rfl) ?_; go_big_quiet_on))
      refine wpQuiet_nil ?_
      refine wpMix_nil ?_
      clear mk0 mk1 mn mH
      clear CB
      go_wp2
      obtain ⟨nS, nh⟩ : ∃ S : World → Prop, ∀ w', S w' ↔ (w'.cell? ⟨w.heap.size, 12, none⟩ = some (.slice A 200 cap)) := ⟨_, fun _ => Iff.rfl⟩
      have nk0 : ∀ x : Memb nS, x.at_.cell? ⟨w.heap.size, 12, none⟩ = some (.slice A 200 cap) := fun x => ((nh _).1 x.is)
      have nn : Nonempty (Memb nS) := ⟨⟨(w7).drew, (nh _).2 (CC.out _ X7.out.drew)⟩⟩
      have nH := Lib.hid nh
      clear nh
      refine wp_region_mix [3, 6] (InS nS) (by kernel_rfl) (by kernel_rfl) (InS.mk ((nH.out _).2 (CC.out _ X7.out.drew))) ?_
      refine wpMix_seg 3 (by kernel_rfl) (by decide) ?_
      simp only [List.take_succ_cons, List.take_zero, List.drop_succ_cons, List.drop_zero]
      repeat (first | go_big_quiet_step (fail) | (go_big_quiet_want; first | refine quiet_build BU.out rfl rfl (by simp [Act.eval]) (by simp only [Act.put, List.setIfInBounds_toArray, List.set_cons_succ, List.set_cons_zero]; rfl) ?_; go_big_quiet_on))
      refine wpQuiet_nil ?_
      refine wpMix_eff (by kernel_rfl) ?_
      go_wp2_with (at_builtin; refine Hid.out ?_)
      refine Lib.hid ?_
      refine wpList_append_bs O7.out.drew (ARR.out _ X7.out.drew) (by rw [L7.out]; decide) X7.out.size rfl rfl rfl rfl rfl ?_
      intro v9 w9 ho9 hk9
      have L9 := own_app_len ho9 L7.out IL.out (n := 32) rfl
      obtain ⟨A9, cap9, rfl, -, -⟩ := ho9.shape
      rw [L9.out] at ho9 ⊢
      have O9 := Lib.hid ho9
      have X9 := Lib.hid (X7.out.drew.trans hk9 (T := None) (fun _ h => h) (fun i hi e => absurd e (O7.out.drew.notBelow hi)))
      clear ho9 hk9 O7
      go_wp2
      refine MixK.on (InS.mk ((nH.out _).2 ((CC.out _ X9.out)))) ?_
      refine wpMix_seg 2 (by kernel_rfl) (by decide) ?_
      simp only [List.take_succ_cons, List.take_zero, List.drop_succ_cons, List.drop_zero]
      repeat (first | go_big_quiet_step (fail) | (go_big_quiet_want; first | refine quiet_build BU.out rfl rfl (by simp [Act.eval]) (by simp only [Act.put, List.setIfInBounds_toArray, List.set_cons_succ, List.set_cons_zero]; rfl) ?_; go_big_quiet_on))
      refine wpQuiet_nil ?_
      refine wpMix_eff (by kernel_rfl) ?_
      go_wp2_with (at_builtin; refine Hid.out ?_)
      refine Lib.hid ?_
      refine wpList_append_bs O9.out (HB2.out.keeps X9.out (fun _ _ _ _ _ h => h)) (by rw [L9.out]; decide) X9.out.size rfl rfl rfl rfl rfl ?_
      intro v10 w10 ho10 hk10
      have O10 : Hid (Own w10 w.heap.size v10 (chkL k)) := by (rw [HQ2.out]; exact ho10.lower KB.out.size)
      have X10 := Lib.hid (X9.out.trans hk10 (T := None) (fun _ h => h) (fun i hi e => absurd e (O9.out.notBelow hi)))
      clear ho10 hk10
      go_wp2
      refine MixK.on (InS.mk ((nH.out _).2 ((CC.out _ X10.out)))) ?_
      refine wpMix_seg 1 (by kernel_rfl) (by decide) ?_
      simp only [List.take_succ_cons, List.take_zero, List.drop_succ_cons, List.drop_zero]
      repeat (first | go_big_quiet_step (fail) | (go_big_quiet_want; first | refine quiet_build BU.out rfl rfl (by simp [Act.eval]) (by simp only [Act.put, List.setIfInBounds_toArray, List.set_cons_succ, List.set_cons_zero]; rfl) ?_; go_big_quiet_on))
      refine wpQuiet_nil ?_
      refine wpMix_nil ?_
      clear nk0 nn nH
      have K10 := Lib.hid (KB.out.trans X10.out (T := None) (fun _ h => h) (fun _ _ h => h))
      go_wp2
      go_ret
      exact ⟨_, rfl, O10.out, K10.out⟩
  have e1 : (k.slot != 0) = true := by simpa using g1
  have e2 : (k.slot != 1) = true := by simpa using g2
  have HP : Hid (chkL k = []) := if_neg (fun h => by obtain ⟨⟨f1, f2, f3, f4⟩, ⟨f5, f6, f7, f8⟩, -⟩ := h; omega)
  go_enter Try.func15, Try.ntmps15
  go_wp2
  go_ret
  exact ⟨_, rfl, by rw [HP.out]; exact Own.nil _ _, (Keeps.refl _ _).alloc _⟩
end Go.Proofs.Ytfldgaiiniknpaa
