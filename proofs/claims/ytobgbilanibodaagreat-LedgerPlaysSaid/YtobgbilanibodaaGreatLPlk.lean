
/- Texts put together: LgRefMid, LgRefPutK, LgRefGetK, LgRefFold, LgRefRecs, Ql. -/
import Derived.Test.YtobgbilanibodaaGreatLPlj
import Derived.Test.YtobgbilanibodaaGreatLPlg
namespace Go.Proofs.YtobgbilanibodaaGreat
open Go.RowKit
set_option maxRecDepth 100000 in
set_option maxHeartbeats 800000 in
theorem rcount_any (A : Option Addr) (n cap : Nat) (zs : List Int) (w : World) (h : Bs w A n cap zs) (hn : 72 ≤ n) : Calls Tryz.prog 91 #[.slice A n cap] w fun e w' => e = .returned (.int .u64 ((midN zs : Nat) : Int)) ∧ w = w' := by
 have hle := h.le
 have hmax := h.max
 have HL := Lib.hid h.len
 have HB := Lib.hid h
 have BD : Hid (∀ z ∈ zs.drop 64, 0 ≤ z ∧ z ≤ 255) := fun z hz => h.byte z (List.mem_of_mem_drop hz)
 have LD : Hid (72 ≤ 64 + (zs.drop 64).length) := by show _ ≤ _; rw [List.length_drop, HL.out]; omega
 have MD : Hid (midN zs = bigN ((zs.drop 64).take 8)) := rfl
 obtain ⟨gb, off, rfl, hgb, -⟩ := h.at_ (by omega)
 clear h
 go_enter Tryz.func91, Tryz.ntmps91
 go_wp2
 go_loop [3, 4] (fun xv iv => ∃ k : Nat, k ≤ 8 ∧ iv = .int .i64 ((64 + k : Nat) : Int) ∧ xv = .int .u64 ((bigN ((zs.drop 64).take k) : Nat) : Int)) (fun _ iv => 72 - (intOf iv).toNat)
 case atStart => exact ⟨0, Nat.zero_le _, rfl, rfl⟩
 case round =>
  obtain ⟨k, hk, rfl, rfl⟩ := hrel
  by_cases hlt : k < 8
  ·obtain ⟨bl, of1, z, e1, hz1, hza, hzb, hc1⟩ := HB.out.get (i := 64 + k) (by omega)
   cases e1
   have OR := or_big BD.out (k := k) (by have := LD.out; omega) hlt
   rw [getD_drop, hz1] at OR
   go_wp2
   go_round
   case rel => exact ⟨k + 1, by omega, by go_num, rfl⟩
   case measure => simp [intOf]; omega
  ·obtain rfl : k = 8 := by omega
   rw [← MD.out]
   go_wp2
   go_ret
   exact ⟨rfl, rfl⟩
set_option maxRecDepth 100000 in
set_option maxHeartbeats 800000 in
theorem rmaymid_any (A : Option Addr) (n cap : Nat) (zs : List Int) (w : World) (h : Bs w A n cap zs) : Calls Tryz.prog 67 #[.slice A n cap] w fun e w' => e = .returned (.bool (midOk zs)) ∧ w = w' := by
 have hle := h.le
 have hmax := h.max
 have HL := Lib.hid h.len
 have HB := Lib.hid h
 by_cases hn : n = 200
 case neg =>
  have d1 : ((n : Int) != 200) = true := by simp; omega
  have E0 : Hid (midOk zs = false) := by
   show midOk zs = false
   unfold midOk
   rw [HL.out, decide_eq_false hn]
   rfl
  rw [E0.out]
  clear h
  go_enter Tryz.func67, Tryz.ntmps67
  go_wp2
  go_ret
  exact ⟨rfl, rfl⟩
 subst hn
 obtain ⟨gb, off, rfl, hgb, hcel⟩ := h.at_ (by omega)
 clear h
 have NB := Lib.hid (rcount_any _ _ _ _ w HB.out (by decide))
 have MB := bigN_lt (zs := zs.drop 64) (fun z hz => HB.out.byte z (List.mem_of_mem_drop hz)) 8 (by rw [List.length_drop, HL.out]; decide)
 have MN : Hid (midN zs = bigN ((zs.drop 64).take 8)) := rfl
 rw [← MN.out] at MB
 rw [pow8] at MB
 obtain ⟨N, hN⟩ : ∃ N, midN zs = N := ⟨_, rfl⟩
 have HN := Lib.hid hN
 rw [hN] at NB MB
 clear hN MN hcel
 obtain ⟨res, HRES⟩ : ∃ x, Hid (midOk zs = x) := ⟨_, rfl⟩
 rw [HRES.out]
 go_enter Tryz.func67, Tryz.ntmps67
 go_wp2_with fail
 refine NB.out.mono ?_
 rintro e w1 ⟨rfl, rfl⟩
 by_cases hm : 1152921504606846976 < N
 ·have d2 : decide ((1152921504606846976 : Int) < (N : Int)) = true := decide_eq_true (by omega)
  have E0 : Hid (res = false) := by
   exact tl166 _
  go_wp2
  go_ret
  exact ⟨by rw [E0.out]; rfl, rfl⟩
 have d2 : decide ((1152921504606846976 : Int) < (N : Int)) = false := decide_eq_false (by omega)
 have EOK : Hid (res = (zs.drop (72 + N % 128)).all (· == 0)) := by
  exact tl167 _
 clear HRES HN
 go_wp2_with fail
 refine NB.out.mono ?_
 rintro e w1 ⟨rfl, rfl⟩
 clear NB
 go_wp2
 obtain ⟨r, hr⟩ : ∃ r, 72 + N % 128 = r := ⟨_, rfl⟩
 have r1 : 72 ≤ r := by omega
 have r2 : r < 200 := by omega
 have hr2 : (72 + (N : Int) % 128) = (r : Int) := by omega
 rw [hr] at EOK
 rw [hr2]
 clear hr hr2 d2 hm MB
 go_loop [3] (fun iv => ∃ k : Nat, k ≤ 200 - r ∧ iv = .int .i64 ((r + k : Nat) : Int) ∧ ∀ j, j < k → zs.getD (r + j) 0 = 0) (fun iv => 200 - (intOf iv).toNat)
 case atStart => exact ⟨0, Nat.zero_le _, rfl, fun j hj => absurd hj (Nat.not_lt_zero j)⟩
 case round =>
  obtain ⟨k, hk, rfl, hz⟩ := hrel
  have HZ := Lib.hid hz
  clear hz
  by_cases hlt : k < 200 - r
  ·obtain ⟨bl, of1, z, e1, hz1, hza, hzb, hc1⟩ := HB.out.get (i := r + k) (by omega)
   cases e1
   by_cases h0 : z = 0
   ·exact tl168 _
   ·have d3 : (z != 0) = true := by simpa using h0
    have E0 : Hid (res = false) := by
     exact tl169 _
    go_wp2
    go_ret
    exact ⟨by rw [E0.out]; rfl, rfl⟩
  ·obtain rfl : k = 200 - r := by omega
   have E1 : Hid (res = true) := by
    exact tl170 _
   clear HZ EOK hk hlt
   go_wp2
   go_ret
   exact ⟨by rw [E1.out]; rfl, rfl⟩
open Go.RowKit
theorem lowL_two8 : ∀ sl, sl < 2 → ∀ bl, bl < 17 → lowL 8 (sl + 256 * bl) = [(sl : Int), (bl : Int)] ++ List.replicate 6 0 := by decide
theorem tl267 (P : Prop) (h : P := by
 have HP : Hid (chkL k = []) := if_neg (fun h => by obtain ⟨⟨f1, f2, f3, f4⟩, ⟨f5, f6, f7, f8⟩, -⟩ := h; omega)
 go_enter Tryz.func39, Tryz.ntmps39
 go_wp2
 go_ret
 exact ⟨_, rfl, by rw [HP.out]; exact Own.nil _ _, (Keeps.refl _ _).alloc _⟩) : P := h
theorem tl266 (P : Prop) (h : P := by
 have d3 : decide (k.block < 0) = true := decide_eq_true g3
 exact tl267 _) : P := h
theorem tl268 (P : Prop) (h : P := by
 have d4 : decide (16 < k.block) = true := decide_eq_true g4
 exact tl267 _) : P := h
theorem tl269 (P : Prop) (h : P := by
 have d5 : decide (k.off < 0) = true := decide_eq_true g5
 exact tl267 _) : P := h
theorem tl270 (P : Prop) (h : P := by
 have d6 : decide (2147483647 < k.off) = true := decide_eq_true g6
 exact tl267 _) : P := h
theorem tl271 (P : Prop) (h : P := by
 have d7 : decide (k.dn < 0) = true := decide_eq_true g7
 exact tl267 _) : P := h
theorem tl272 (P : Prop) (h : P := by
 have d8 : decide (2147483647 < k.dn) = true := decide_eq_true g8
 exact tl267 _) : P := h
set_option maxRecDepth 100000 in
theorem tl273 (P : Prop) (h : P := by
 clear o3 k3 a0 a1 a2 a3 a12 HWB HS x0 x1
 have CB : Hid (∀ w2, Keeps None wb w2 → w2.cell? ⟨w.heap.size, 2, none⟩ = some (.int .i64 (of : Int)) ∧ w2.cell? ⟨w.heap.size, 3, none⟩ = some (.int .i64 (dn : Int))) := fun w2 k => ⟨(k.blk BL.out (fun h => h)).cellD 2 _ HC.out.1, (k.blk BL.out (fun h => h)).cellD 3 _ HC.out.2⟩
 have CC : Hid (∀ w2, Keeps None wb w2 → w2.cell? ⟨w.heap.size, 12, none⟩ = some (.slice A 200 cap)) := fun w2 k => (k.blk BL.out (fun h => h)).cellD 12 _ MID.out
 have ARR : Hid (∀ w2, Keeps None wb w2 → Bs w2 (some ⟨w.heap.size, 4, none⟩) 8 8 k.id) := fun w2 kk => ⟨IL.out, Nat.le_refl _, by decide, (fun e => by cases e), IB.out, fun _ => ⟨w.heap.size, 4, rfl, (kk.blk BL.out (fun h => h)).lt, fun i hi => (kk.blk BL.out (fun h => h)).cellD (4 + i) _ (ME.out i hi)⟩⟩
 go_wp2
 obtain ⟨mS, mh⟩ : ∃ S : World → Prop, ∀ w', S w' ↔ (w'.cell? ⟨w.heap.size, 2, none⟩ = some (.int .i64 (of : Int)) ∧ w'.cell? ⟨w.heap.size, 3, none⟩ = some (.int .i64 (dn : Int))) := ⟨_, fun _ => Iff.rfl⟩
 have mk0 : ∀ x : Memb mS, x.at_.cell? ⟨w.heap.size, 2, none⟩ = some (.int .i64 (of : Int)) := fun x => ((mh _).1 x.is).1
 have mk1 : ∀ x : Memb mS, x.at_.cell? ⟨w.heap.size, 3, none⟩ = some (.int .i64 (dn : Int)) := fun x => ((mh _).1 x.is).2
 have mn : Nonempty (Memb mS) := ⟨⟨(w3).drew, (mh _).2 ⟨(CB.out _ X3.out.drew).1, (CB.out _ X3.out.drew).2⟩⟩⟩
 have mH := Lib.hid mh
 clear mh
 refine wp_region_mix [4, 5, 9, 10] (InS mS) (by kernel_rfl) (by kernel_rfl) (InS.mk ((mH.out _).2 ⟨(CB.out _ X3.out.drew).1, (CB.out _ X3.out.drew).2⟩)) ?_
 refine wpMix_seg 4 (by kernel_rfl) (by decide) ?_
 simp only [tds]
 repeat (go_big_quiet_step (fail))
 refine wpQuiet_nil ?_
 refine wpMix_eff (by kernel_rfl) ?_
 go_wp2_with fail
 refine (N2.out _).mono ?_
 rintro e w4 ⟨v4, rfl, o4, k4⟩
 obtain ⟨A4, cap4, rfl, bs4, -⟩ := o4.shape
 rw [lowL_len] at bs4 ⊢
 have X4 := Lib.hid (X3.out.drew.trans k4 (T := None) (fun _ h => h) (fun _ _ h => h))
 have O4 := Lib.hid (O3.out.drew.keeps k4 (fun _ _ h => h))
 have C4 := Lib.hid bs4
 clear o4 k4 bs4
 go_wp2
 refine MixK.on (InS.mk ((mH.out _).2 (⟨(CB.out _ X4.out).1, (CB.out _ X4.out).2⟩))) ?_
 refine wpMix_eff (by kernel_rfl) ?_
 go_wp2_with (at_builtin; refine Hid.out ?_)
 refine Lib.hid ?_
 refine wpList_append_bs O4.out C4.out (by rw [L3.out]; decide) X4.out.size rfl rfl rfl rfl rfl ?_
 intro v5 w5 ho5 hk5
 have L5 := own_app_len ho5 L3.out (lowL_len 8 _) (n := 16) rfl
 obtain ⟨A5, cap5, rfl, -, -⟩ := ho5.shape
 rw [L5.out] at ho5 ⊢
 have O5 := Lib.hid ho5
 have X5 := Lib.hid (X4.out.trans hk5 (T := None) (fun _ h => h) (fun i hi e => absurd e (O4.out.notBelow hi)))
 clear ho5 hk5 O4 C4
 go_wp2
 refine MixK.on (InS.mk ((mH.out _).2 (⟨(CB.out _ X5.out).1, (CB.out _ X5.out).2⟩))) ?_
 refine wpMix_seg 3 (by kernel_rfl) (by decide) ?_
 simp only [tds]
 repeat (go_big_quiet_step (fail))
 refine wpQuiet_nil ?_
 refine wpMix_eff (by kernel_rfl) ?_
 go_wp2_with fail
 refine (N3.out _).mono ?_
 rintro e w6 ⟨v6, rfl, o6, k6⟩
 obtain ⟨A6, cap6, rfl, bs6, -⟩ := o6.shape
 rw [lowL_len] at bs6 ⊢
 have X6 := Lib.hid (X5.out.trans k6 (T := None) (fun _ h => h) (fun _ _ h => h))
 have O6 := Lib.hid (O5.out.keeps k6 (fun _ _ h => h))
 have C6 := Lib.hid bs6
 clear o6 k6 bs6
 go_wp2
 refine MixK.on (InS.mk ((mH.out _).2 (⟨(CB.out _ X6.out).1, (CB.out _ X6.out).2⟩))) ?_
 refine wpMix_eff (by kernel_rfl) ?_
 go_wp2_with (at_builtin; refine Hid.out ?_)
 refine Lib.hid ?_
 refine wpList_append_bs O6.out C6.out (by rw [L5.out]; decide) X6.out.size rfl rfl rfl rfl rfl ?_
 intro v7 w7 ho7 hk7
 have L7 := own_app_len ho7 L5.out (lowL_len 8 _) (n := 24) rfl
 obtain ⟨A7, cap7, rfl, -, -⟩ := ho7.shape
 rw [L7.out] at ho7 ⊢
 have O7 := Lib.hid ho7
 have X7 := Lib.hid (X6.out.trans hk7 (T := None) (fun _ h => h) (fun i hi e => absurd e (O6.out.notBelow hi)))
 clear ho7 hk7 O6 C6
 go_wp2
 refine MixK.on (InS.mk ((mH.out _).2 (⟨(CB.out _ X7.out).1, (CB.out _ X7.out).2⟩))) ?_
 refine wpMix_seg 1 (by kernel_rfl) (by decide) ?_
 simp only [tds]
 repeat (go_big_quiet_step (fail))
 refine wpQuiet_nil ?_
 refine wpMix_nil ?_
 clear mk0 mk1 mn mH
 clear CB
 go_wp2
 obtain ⟨nS, nh⟩ : ∃ S : World → Prop, ∀ w', S w' ↔ (w'.cell? ⟨w.heap.size, 12, none⟩ = some (.slice A 200 cap)) := ⟨_, fun _ => Iff.rfl⟩
 have nk0 : ∀ x : Memb nS, x.at_.cell? ⟨w.heap.size, 12, none⟩ = some (.slice A 200 cap) := fun x => ((nh _).1 x.is)
 have nn : Nonempty (Memb nS) := ⟨⟨(w7).drew, (nh _).2 (CC.out _ X7.out.drew)⟩⟩
 have nH := Lib.hid nh
 clear nh
 refine wp_region_mix [3, 6] (InS nS) (by kernel_rfl) (by kernel_rfl) (InS.mk ((nH.out _).2 (CC.out _ X7.out.drew))) ?_
 refine wpMix_seg 3 (by kernel_rfl) (by decide) ?_
 simp only [tds]
 repeat (go_big_quiet_step (fail))
 refine wpQuiet_nil ?_
 refine wpMix_eff (by kernel_rfl) ?_
 go_wp2_with (at_builtin; refine Hid.out ?_)
 refine Lib.hid ?_
 refine wpList_append_bs O7.out.drew (ARR.out _ X7.out.drew) (by rw [L7.out]; decide) X7.out.size rfl rfl rfl rfl rfl ?_
 intro v9 w9 ho9 hk9
 have L9 := own_app_len ho9 L7.out IL.out (n := 32) rfl
 obtain ⟨A9, cap9, rfl, -, -⟩ := ho9.shape
 rw [L9.out] at ho9 ⊢
 have O9 := Lib.hid ho9
 have X9 := Lib.hid (X7.out.drew.trans hk9 (T := None) (fun _ h => h) (fun i hi e => absurd e (O7.out.drew.notBelow hi)))
 clear ho9 hk9 O7
 go_wp2
 refine MixK.on (InS.mk ((nH.out _).2 ((CC.out _ X9.out)))) ?_
 refine wpMix_seg 2 (by kernel_rfl) (by decide) ?_
 simp only [tds]
 repeat (go_big_quiet_step (fail))
 refine wpQuiet_nil ?_
 refine wpMix_eff (by kernel_rfl) ?_
 go_wp2_with (at_builtin; refine Hid.out ?_)
 refine Lib.hid ?_
 refine wpList_append_bs O9.out (HB2.out.keeps X9.out (fun _ _ _ _ _ h => h)) (by rw [L9.out]; decide) X9.out.size rfl rfl rfl rfl rfl ?_
 intro v10 w10 ho10 hk10
 have O10 : Hid (Own w10 w.heap.size v10 (chkL k)) := by (rw [HQ2.out]; exact ho10.lower KB.out.size)
 exact tl254 _) : P := h
set_option maxRecDepth 100000 in
set_option maxHeartbeats 1600000 in
theorem rgputk_any (k : Chk) (o : k.ok) (A : Option Addr) (n cap : Nat) (w : World) (h : Bs w A n cap k.mid) : Calls Tryz.prog 39 #[k.v A n cap] w (Cloned w (chkL k)) := by
 unfold Chk.v
 have a0 : (k.cs A n cap).toArray[0]? = some (.int .i64 k.slot) := rfl
 have a1 : (k.cs A n cap).toArray[1]? = some (.int .i64 k.block) := rfl
 have a2 : (k.cs A n cap).toArray[2]? = some (.int .i64 k.off) := rfl
 have a3 : (k.cs A n cap).toArray[3]? = some (.int .i64 k.dn) := rfl
 have a12 : (k.cs A n cap).toArray[12]? = some (.slice A n cap) := by rw [List.getElem?_toArray]; exact Chk.cs_mid o A n cap
 have BL := Lib.hid (Blk.new w (k.cs A n cap) 44)
 have IL := Lib.hid o.il
 have IB := Lib.hid o.ib
 have MID := Lib.hid (Chk.cs_mid o A n cap)
 have ME := Lib.hid (Chk.cs_id o A n cap)
 have HB := Lib.hid h
 have hle := h.le
 have hmx := h.max
 have HLN := Lib.hid h.len
 have LD := Lib.hid (fun w h => rmaymid_any A n cap k.mid w h)
 obtain ⟨V, hV⟩ : ∃ V, (k.cs A n cap).toArray = V := ⟨_, rfl⟩
 rw [hV] at a0 a1 a2 a3 a12 BL ⊢
 clear hV o h
 by_cases g1 : k.slot = 0
 ·skip
  rw [g1] at a0
  by_cases g3 : k.block < 0
  ·exact tl266 _
  have d3 : decide (k.block < 0) = false := decide_eq_false g3
  by_cases g4 : 16 < k.block
  ·exact tl268 _
  have d4 : decide (16 < k.block) = false := decide_eq_false g4
  by_cases g5 : k.off < 0
  ·exact tl269 _
  have d5 : decide (k.off < 0) = false := decide_eq_false g5
  by_cases g6 : 2147483647 < k.off
  ·exact tl270 _
  have d6 : decide (2147483647 < k.off) = false := decide_eq_false g6
  by_cases g7 : k.dn < 0
  ·exact tl271 _
  have d7 : decide (k.dn < 0) = false := decide_eq_false g7
  by_cases g8 : 2147483647 < k.dn
  ·exact tl272 _
  have d8 : decide (2147483647 < k.dn) = false := decide_eq_false g8
  obtain ⟨bl, hbl⟩ : ∃ n : Nat, k.block = n := ⟨k.block.toNat, by omega⟩
  obtain ⟨of, hof⟩ : ∃ n : Nat, k.off = n := ⟨k.off.toNat, by omega⟩
  obtain ⟨dn, hdn⟩ : ∃ n : Nat, k.dn = n := ⟨k.dn.toNat, by omega⟩
  have s2 : bl ≤ 16 := by omega
  have s3 : of ≤ 2147483647 := by omega
  have s4 : dn ≤ 2147483647 := by omega
  have N2 := Lib.hid (fun w => low8_any of (by omega) w)
  have N3 := Lib.hid (fun w => low8_any dn (by omega) w)
  rw [hbl] at a1 d3 d4
  rw [hof] at a2 d5 d6
  rw [hdn] at a3 d7 d8
  have HQ : Hid (midOk k.mid = true → chkL k = ((((([0, (bl : Int)] ++ List.replicate 6 0) ++ lowL 8 of) ++ lowL 8 dn) ++ k.id) ++ k.mid)) := fun hm => by
   rw [show chkL k = _ from if_pos ⟨⟨by omega, by omega, by omega, by omega⟩, ⟨by omega, by omega, by omega, by omega⟩, hm⟩, g1, hbl, hof, hdn]
   have h := lowL_two8 0 (by decide) bl (by omega)
   rw [show (0 : Int).toNat = 0 from rfl, Int.toNat_natCast, h]
   simp only [List.append_assoc]
   rfl
  have HN : Hid (midOk k.mid = false → chkL k = []) := fun hm => if_neg (fun h => by have h2 := h.2.2; rw [hm] at h2; cases h2)
  have HC : Hid ((k.cs A n cap)[2]? = some (.int .i64 (of : Int)) ∧ (k.cs A n cap)[3]? = some (.int .i64 (dn : Int))) := by
   rw [← hof, ← hdn]
   exact ⟨rfl, rfl⟩
  have HC0 : Hid ((k.cs A n cap)[0]? = some (.int .i64 0)) := by show _ = _; rw [← g1]; rfl
  have HC1 : Hid ((k.cs A n cap)[1]? = some (.int .i64 (bl : Int))) := by show _ = _; rw [← hbl]; rfl
  obtain ⟨ok, hok⟩ : ∃ b, midOk k.mid = b := ⟨_, rfl⟩
  rw [hok] at LD HQ HN
  have HOK := Lib.hid hok
  clear hok hbl hof hdn g1 g3 g4 g5 g6 g7 g8
  have HB2 : Hid (Bs (w.alloc (.cells V 44)) A n cap k.mid) := HB.out.keeps ((Keeps.refl None w).alloc _) (fun _ _ _ _ _ h => h)
  obtain ⟨wb, hwb⟩ : ∃ x, w.alloc (.cells V 44) = x := ⟨_, rfl⟩
  have KB : Hid (Keeps None w wb) := by rw [← hwb]; exact (Keeps.refl None w).alloc _
  have HS : Hid (wb.heap.size = w.heap.size + 1) := by show _ = _; rw [← hwb]; simp
  rw [hwb] at BL HB2
  have HWB := Lib.hid hwb
  clear hwb
  go_enter Tryz.func39, Tryz.ntmps39
  go_wp2_with fail
  rw [HWB.out]
  refine (LD.out _ HB2.out).mono ?_
  rintro e wl ⟨rfl, rfl⟩
  cases ok with
  | false =>
   go_wp2
   go_ret
   exact ⟨_, rfl, by rw [HN.out (by simp)]; exact Own.nil _ _, KB.out⟩
  | true =>
   have x0 := BL.out.cellD 0 _ HC0.out
   have x1 := BL.out.cellD 1 _ HC1.out
   have HQ2 := Lib.hid (HQ.out (by trivial))
   have N200 : n = 200 := by rw [← HLN.out]; exact midOk_len HOK.out
   subst N200
   clear HQ HN HOK LD HC0 HC1
   go_wp2_with (at_builtin; refine Hid.out ?_)
   refine Lib.hid ?_
   refine wpList_zeros wb.heap.size [0, (bl : Int)] 2 6 8 5 (Blk.new wb [.int .u8 0, .int .u8 (bl : Int)] 5) (by
    intro z hz
    simp only [List.mem_cons, List.not_mem_nil, or_false] at hz
    rcases hz with rfl | rfl <;> omega) rfl rfl (by decide) (by decide) (by decide) (by rfl) (by rfl) (by rfl) (by rfl) (by rfl) ?_
   intro A3 cap3 w3 o3 k3
   have O3 : Hid (Own w3 wb.heap.size (.slice A3 8 cap3) ([0, (bl : Int)] ++ List.replicate 6 0)) := o3.lower (by simp)
   have X3 : Hid (Keeps None wb w3) := ((Keeps.refl None wb).alloc _).trans k3 (fun _ h => h) (fun _ _ h => h)
   have L3 : Hid (([0, (bl : Int)] ++ List.replicate 6 0 : List Int).length = 8) := rfl
   exact tl273 _
 by_cases g2 : k.slot = 1
 ·have g1 := g2
  rw [g1] at a0
  by_cases g3 : k.block < 0
  ·exact tl266 _
  have d3 : decide (k.block < 0) = false := decide_eq_false g3
  by_cases g4 : 16 < k.block
  ·exact tl268 _
  have d4 : decide (16 < k.block) = false := decide_eq_false g4
  by_cases g5 : k.off < 0
  ·exact tl269 _
  have d5 : decide (k.off < 0) = false := decide_eq_false g5
  by_cases g6 : 2147483647 < k.off
  ·exact tl270 _
  have d6 : decide (2147483647 < k.off) = false := decide_eq_false g6
  by_cases g7 : k.dn < 0
  ·exact tl271 _
  have d7 : decide (k.dn < 0) = false := decide_eq_false g7
  by_cases g8 : 2147483647 < k.dn
  ·exact tl272 _
  have d8 : decide (2147483647 < k.dn) = false := decide_eq_false g8
  obtain ⟨bl, hbl⟩ : ∃ n : Nat, k.block = n := ⟨k.block.toNat, by omega⟩
  obtain ⟨of, hof⟩ : ∃ n : Nat, k.off = n := ⟨k.off.toNat, by omega⟩
  obtain ⟨dn, hdn⟩ : ∃ n : Nat, k.dn = n := ⟨k.dn.toNat, by omega⟩
  have s2 : bl ≤ 16 := by omega
  have s3 : of ≤ 2147483647 := by omega
  have s4 : dn ≤ 2147483647 := by omega
  have N2 := Lib.hid (fun w => low8_any of (by omega) w)
  have N3 := Lib.hid (fun w => low8_any dn (by omega) w)
  rw [hbl] at a1 d3 d4
  rw [hof] at a2 d5 d6
  rw [hdn] at a3 d7 d8
  have HQ : Hid (midOk k.mid = true → chkL k = ((((([1, (bl : Int)] ++ List.replicate 6 0) ++ lowL 8 of) ++ lowL 8 dn) ++ k.id) ++ k.mid)) := fun hm => by
   rw [show chkL k = _ from if_pos ⟨⟨by omega, by omega, by omega, by omega⟩, ⟨by omega, by omega, by omega, by omega⟩, hm⟩, g1, hbl, hof, hdn]
   have h := lowL_two8 1 (by decide) bl (by omega)
   rw [show (1 : Int).toNat = 1 from rfl, Int.toNat_natCast, h]
   simp only [List.append_assoc]
   rfl
  have HN : Hid (midOk k.mid = false → chkL k = []) := fun hm => if_neg (fun h => by have h2 := h.2.2; rw [hm] at h2; cases h2)
  have HC : Hid ((k.cs A n cap)[2]? = some (.int .i64 (of : Int)) ∧ (k.cs A n cap)[3]? = some (.int .i64 (dn : Int))) := by
   rw [← hof, ← hdn]
   exact ⟨rfl, rfl⟩
  have HC0 : Hid ((k.cs A n cap)[0]? = some (.int .i64 1)) := by show _ = _; rw [← g1]; rfl
  have HC1 : Hid ((k.cs A n cap)[1]? = some (.int .i64 (bl : Int))) := by show _ = _; rw [← hbl]; rfl
  obtain ⟨ok, hok⟩ : ∃ b, midOk k.mid = b := ⟨_, rfl⟩
  rw [hok] at LD HQ HN
  have HOK := Lib.hid hok
  clear hok hbl hof hdn g1 g3 g4 g5 g6 g7 g8
  have HB2 : Hid (Bs (w.alloc (.cells V 44)) A n cap k.mid) := HB.out.keeps ((Keeps.refl None w).alloc _) (fun _ _ _ _ _ h => h)
  obtain ⟨wb, hwb⟩ : ∃ x, w.alloc (.cells V 44) = x := ⟨_, rfl⟩
  have KB : Hid (Keeps None w wb) := by rw [← hwb]; exact (Keeps.refl None w).alloc _
  have HS : Hid (wb.heap.size = w.heap.size + 1) := by show _ = _; rw [← hwb]; simp
  rw [hwb] at BL HB2
  have HWB := Lib.hid hwb
  clear hwb
  go_enter Tryz.func39, Tryz.ntmps39
  go_wp2_with fail
  rw [HWB.out]
  refine (LD.out _ HB2.out).mono ?_
  rintro e wl ⟨rfl, rfl⟩
  cases ok with
  | false =>
   go_wp2
   go_ret
   exact ⟨_, rfl, by rw [HN.out (by simp)]; exact Own.nil _ _, KB.out⟩
  | true =>
   have x0 := BL.out.cellD 0 _ HC0.out
   have x1 := BL.out.cellD 1 _ HC1.out
   have HQ2 := Lib.hid (HQ.out (by trivial))
   have N200 : n = 200 := by rw [← HLN.out]; exact midOk_len HOK.out
   subst N200
   clear HQ HN HOK LD HC0 HC1
   go_wp2_with (at_builtin; refine Hid.out ?_)
   refine Lib.hid ?_
   refine wpList_zeros wb.heap.size [1, (bl : Int)] 2 6 8 5 (Blk.new wb [.int .u8 1, .int .u8 (bl : Int)] 5) (by
    intro z hz
    simp only [List.mem_cons, List.not_mem_nil, or_false] at hz
    rcases hz with rfl | rfl <;> omega) rfl rfl (by decide) (by decide) (by decide) (by rfl) (by rfl) (by rfl) (by rfl) (by rfl) ?_
   intro A3 cap3 w3 o3 k3
   have O3 : Hid (Own w3 wb.heap.size (.slice A3 8 cap3) ([1, (bl : Int)] ++ List.replicate 6 0)) := o3.lower (by simp)
   have X3 : Hid (Keeps None wb w3) := ((Keeps.refl None wb).alloc _).trans k3 (fun _ h => h) (fun _ _ h => h)
   have L3 : Hid (([1, (bl : Int)] ++ List.replicate 6 0 : List Int).length = 8) := rfl
   exact tl273 _
 have e1 : (k.slot != 0) = true := by simpa using g1
 have e2 : (k.slot != 1) = true := by simpa using g2
 exact tl267 _
open Go.RowKit
def chkR (b : List Int) (O D : Int) : Chk := ⟨b.getD 0 0, b.getD 1 0, O, D, (b.drop 24).take 8, b.drop 32⟩
theorem chkL_bad {c : Chk} (h : c.off < 0 ∨ 2147483647 < c.off ∨ c.dn < 0 ∨ 2147483647 < c.dn) : chkL c = [] := if_neg (fun hh => by obtain ⟨-, ⟨f1, f2, f3, f4⟩, -⟩ := hh; omega)
theorem chkR_get {b : List Int} {O D : Int} (h1 : (part8 b 8 ≤ 2147483647 ∧ O = part8 b 8) ∨ (2147483647 < part8 b 8 ∧ (O < 0 ∨ 2147483647 < O))) (h2 : (part8 b 16 ≤ 2147483647 ∧ D = part8 b 16) ∨ (2147483647 < part8 b 16 ∧ (D < 0 ∨ 2147483647 < D))) (hl : b.length = 232) : getChk b = if chkL (chkR b O D) = b then (chkR b O D, true) else (chk0, false) := by
 have bad : (2147483647 < part8 b 8 ∨ 2147483647 < part8 b 16) → chkL (chkR b O D) = [] → getChk b = if chkL (chkR b O D) = b then (chkR b O D, true) else (chk0, false) := by
  intro hb e1
  have e2 : chkL (chkP b) = [] := chkL_bad (by
   rcases hb with hb | hb
   ·have e : (chkP b).off = -1 := if_neg (by omega)
    omega
   ·have e : (chkP b).dn = -1 := if_neg (by omega)
    omega)
  unfold getChk
  rw [e1, e2, if_neg (by rintro ⟨-, h⟩; rw [← h] at hl; cases hl), if_neg (by intro h; rw [← h] at hl; cases hl)]
 rcases h1 with ⟨h1, h3⟩ | ⟨h1, h3⟩
 ·rcases h2 with ⟨h2, h4⟩ | ⟨h2, h4⟩
  ·have e : chkR b O D = chkP b := by unfold chkR chkP smallN; rw [if_pos h1, if_pos h2, h3, h4]
   rw [e]
   unfold getChk
   simp [hl]
  ·exact bad (.inr h2) (chkL_bad (by show O < 0 ∨ 2147483647 < O ∨ D < 0 ∨ 2147483647 < D; omega))
 ·exact bad (.inl h1) (chkL_bad (by show O < 0 ∨ 2147483647 < O ∨ D < 0 ∨ 2147483647 < D; omega))
theorem Chk.cs_set (c : Chk) (A : Option Addr) (n cap k : Nat) (hk : k < c.id.length) (z : Int) : (c.cs A n cap).set (4 + k) (.int .u8 z) = ({ c with id := c.id.set k z } : Chk).cs A n cap := by
 rw [Nat.add_comm]
 simp [Chk.cs, List.map_set, List.set_append_left, hk]
theorem Chk.cs_idv (c : Chk) (A : Option Addr) (n cap : Nat) (h : c.id.length = 8) (k : Nat) (hk : k < 8) : (c.cs A n cap)[4 + k]? = some (.int .u8 (c.id.getD k 0)) := by
 rw [Nat.add_comm]
 show (c.id.map (Value.int .u8) ++ [.slice A n cap])[k]? = _
 rw [List.getElem?_append_left (by rw [List.length_map, h]; exact hk)]
 exact map_getD 0 (by omega)
theorem run_load_chk {w : World} {g : Nat} {c : Chk} {A : Option Addr} {n cap : Nat} {T : TypeId} (h : Blk w g (c.cs A n cap) T) (hl : (c.cs A n cap).length = 13) : (Instr.loadAt 44 (.pointer (some ⟨g, 0, none⟩))).run Tryz.prog w = .ok (.agg (c.cs A n cap).toArray) w :=
  run_loadAt_mid w g 0 44 (c.cs A n cap) _ (blk_range h (fun j v hv => by rw [Nat.zero_add]; exact hv)) Tryz.underlying44 rfl (by rw [hl]; exact chk_size)
theorem getD_take8 {zs : List Int} {n k : Nat} (hk : k < n) : (zs.take n).getD k 0 = zs.getD k 0 := by
 rw [List.getD_eq_getElem?_getD, List.getElem?_take_of_lt hk, ← List.getD_eq_getElem?_getD]
theorem tl277 (P : Prop) (h : P := by
 rintro w' rfl
 have ks := (Keeps.refl (fun b => b = nb) wr).setCell ⟨nb, 4 + k, none⟩ (.int .u8 z) (fun _ => rfl)
 refine ⟨?_, HR.out.setOther _ _ (Nat.ne_of_lt RW.out), HM.out.keeps ks (fun b hb e => hb.2 e), HK.out.trans ks (fun _ h => h) (fun b hb e => absurd e (by have := NBL.out; omega))⟩
 have h := HB.out.set (4 + k) (.int .u8 z)
 rw [Chk.cs_set _ _ _ _ _ (by show k < (fillTo _ _ _).length; rw [fillTo_len HD.out hk8]; exact hlt), ← hz, ← getD_drop, ← getD_take8 hlt, fillTo_set HD.out hlt] at h
 rw [← hz, ← getD_drop, ← getD_take8 hlt]
 exact h) : P := h
theorem tl276 (P : Prop) (h : P := by
 obtain ⟨z, hz⟩ : ∃ z, zs.getD (24 + k) 0 = z := ⟨_, rfl⟩
 have zc := (CB.out _ HK.out).2.cellK (k := 24 + k) (by omega)
 rw [hz] at zc
 have oc := HB.out.cellD (4 + k) _ (Chk.cs_idv _ _ _ _ (fillTo_len HD.out hk8) k hlt)
 have fz := HB.out.frozen (4 + k)
 have B2 : Hid (∀ w', w' = wr.setCell ⟨nb, 4 + k, none⟩ (.int .u8 z) → Blk w' nb ((⟨(c0 : Int), (c1 : Int), O, D, fillTo ((zs.drop 24).take 8) 8 (k + 1), zs.drop 32⟩ : Chk).cs A2 200 cap2) 44 ∧ Blk w' w.heap.size (chk0.cs none 0 0) 44 ∧ ChkV w' (fun b => w.heap.size < b ∧ ¬ b = nb) A2 200 cap2 (zs.drop 32) ∧ Keeps None wb w') := by
  exact tl277 _
 clear HB HR HM HK hz
 go_wp2
 go_roundw
 case rel =>
  obtain ⟨r1, r2, r3, r4⟩ := B2.out _ rfl
  exact ⟨k + 1, by omega, by go_num, r1, r2, r3, r4⟩
 case measure => simp [intOf]; omega) : P := h
theorem tl279 (P : Prop) (h : P := by
 have h := HB.out
 rw [← HC0.out, ← HC1.out, show (⟨zs.getD 0 0, zs.getD 1 0, O, D, (zs.drop 24).take 8, zs.drop 32⟩ : Chk) = chkR zs O D from rfl, hE] at h
 exact h) : P := h
theorem tl280 (P : Prop) (h : P := by
 rw [decide_eq_true hq] at E2
 rw [if_pos hq] at GD
 rw [E2]
 go_wp2_with (first | (refine wpList_load_blk (b := nb) (o := 0) (ds := E.cs A2 200 cap2) B7.out (fun j v hv => by rw [Nat.zero_add]; exact hv) rfl rfl rfl Tryz.underlying44 rfl (by rw [Chk.cs_len DO.out]; exact chk_size) ?_) | (refine wpList_store_blk (b := w.heap.size) (o := 0) (ds := E.cs A2 200 cap2) R7.out (by rw [Chk.cs_len DO.out]; decide) (Chk.cs_one _ _ _ _) rfl rfl rfl rfl (by rw [Chk.cs_len DO.out]; exact chk_size) ?_))
 intro w6 b6 k6
 rw [splice_all (by rw [Chk.cs_len DO.out]; rfl)] at b6
 have B6 := Lib.hid b6
 have M6 := Lib.hid (M7.out.keeps k6 (fun b hb e => by have h1 := hb.1; omega))
 have K6 := Lib.hid (KE.out.trans k6 (T := None) (fun _ h => h) (fun b hb e => absurd e (by omega)))
 clear b6 k6 R7 B7 KE E2 M7
 go_wp2
 refine bodyPost_ret (cell_res rfl _ B6.out Tryz.underlying44 rfl (by rw [Chk.cs_len DO.out]; exact chk_size) rfl rfl) rfl ?_
 exact ⟨A2, 200, cap2, by rw [GD.out]; rfl, by rw [GD.out, EM.out]; exact M6.out.mono (fun b hb => Nat.le_of_lt hb.1), K6.out⟩) : P := h
theorem tl281 (P : Prop) (h : P := by
 rw [decide_eq_false hq] at E2
 rw [if_neg hq] at GD
 rw [E2]
 go_wp2_with (refine wpList_store_blk (b := w.heap.size) (o := 0) (ds := chk0.cs none 0 0) R7.out (by decide) (Chk.cs_one _ _ _ _) rfl rfl rfl (by rw [← chk_zero]; rfl) chk_size ?_)
 intro w6 b6 k6
 rw [splice_all rfl] at b6
 have B6 := Lib.hid b6
 have K6 := Lib.hid (KE.out.trans k6 (T := None) (fun _ h => h) (fun b hb e => absurd e (by omega)))
 clear b6 k6 R7 B7 KE E2 M7
 go_wp2
 refine bodyPost_ret (cell_res rfl _ B6.out Tryz.underlying44 rfl chk_size rfl rfl) rfl ?_
 exact ⟨none, 0, 0, by rw [GD.out]; rfl, by rw [GD.out]; exact ChkV.nil _ _, K6.out⟩) : P := h
set_option maxRecDepth 100000 in
theorem tl278 (P : Prop) (h : P := by
 obtain rfl : k = 8 := by omega
 rw [fillTo_all HD.out] at HB
 obtain ⟨E, hE⟩ : ∃ E : Chk, chkR zs O D = E := ⟨_, rfl⟩
 have GD : Hid (getChk zs = if chkL E = zs then (E, true) else (chk0, false)) := by rw [← hE]; exact GC.out
 have DO : Hid E.ok := by rw [← hE]; exact COK.out
 have EM : Hid (E.mid = zs.drop 32) := by rw [← hE]; exact Lib.hid rfl
 have BD : Hid (Blk wr nb (E.cs A2 200 cap2) 44) := by
  exact tl279 _
 clear HB GC COK hE hlt
 have PUT : Hid (∀ w A cap, Bs w A 200 cap (zs.drop 32) → Calls Tryz.prog 39 #[.agg (E.cs A 200 cap).toArray] w (Cloned w (chkL E))) := fun w A cap h => rgputk_any E DO.out A 200 cap w (by rw [EM.out]; exact h)
 have HZr := Lib.hid (CB.out _ HK.out).2
 obtain ⟨sz, hsz⟩ : ∃ x, strOf zs = x := ⟨_, rfl⟩
 obtain ⟨sc, hsc⟩ : ∃ x, strOf (chkL E) = x := ⟨_, rfl⟩
 have EQ : Hid (Byt (chkL E) → (sc.toList == sz.toList) = decide (chkL E = zs)) := fun hb => by rw [← hsz, ← hsc]; exact strOf_beq hb HZr.out.byte
 have HSZ := Lib.hid hsz
 have HSC := Lib.hid hsc
 clear hsz hsc
 go_wp2
 obtain ⟨qS, qh⟩ : ∃ S : World → Prop, ∀ w', S w' ↔ (((Instr.loadAt 44 (.pointer (some ⟨nb, 0, none⟩))).run Tryz.prog w' = .ok (.agg (E.cs A2 200 cap2).toArray) w') ∧ ((convert 37 9 (.slice (some ⟨gb, off, none⟩) 232 cap)).run Tryz.prog w' = .ok (.string sz) w')) := ⟨_, fun _ => Iff.rfl⟩
 have qk0 : ∀ x : Memb qS, (Instr.loadAt 44 (.pointer (some ⟨nb, 0, none⟩))).run Tryz.prog x.at_ = .ok (.agg (E.cs A2 200 cap2).toArray) x.at_ := fun x => ((qh _).1 x.is).1
 have qk1 : ∀ x : Memb qS, (convert 37 9 (.slice (some ⟨gb, off, none⟩) 232 cap)).run Tryz.prog x.at_ = .ok (.string sz) x.at_ := fun x => ((qh _).1 x.is).2
 have qn : Nonempty (Memb qS) := ⟨⟨(wr).drew, (qh _).2 ⟨run_load_chk BD.out.drew (Chk.cs_len DO.out _ _ _), HSZ.out ▸ run_str HZr.out.drew⟩⟩⟩
 have qH := Lib.hid qh
 clear qh
 refine wp_region_mix2 [1] (InS qS) (by kernel_rfl) (by kernel_rfl) (InS.mk ((qH.out _).2 ⟨run_load_chk BD.out.drew (Chk.cs_len DO.out _ _ _), HSZ.out ▸ run_str HZr.out.drew⟩)) ?_
 refine wpMix2_seg 1 (InS qS) (by kernel_rfl) (by decide) (cl_base [] rfl (by kernel_rfl)) ?_
 simp only [tds]
 repeat (first | go_big_quiet_step (fail) | (go_big_quiet_want; first | refine quiet_load qk0 rfl rfl rfl aput ?_; go_big_quiet_on | refine quiet_conv qk1 rfl rfl rfl aput ?_; go_big_quiet_on))
 refine wpQuiet_nil ?_
 refine wpMix2_eff (by kernel_rfl) ?_
 go_wp2_with fail
 refine (PUT.out _ _ _ HM.out.b.drew).mono ?_
 rintro e w7 ⟨v7, rfl, o7, k7⟩
 obtain ⟨A7, cap7, rfl, bs7, -⟩ := o7.shape
 have BS7 := Lib.hid bs7
 have B7 := Lib.hid (k7.blk BD.out.drew (fun h => h))
 have R7 := Lib.hid (k7.blk HR.out.drew (fun h => h))
 have S7 := Lib.hid (HZr.out.drew.keeps k7 (fun _ _ _ _ _ h => h))
 have M7 := Lib.hid ((HM.out.later (Keeps.refl None wr).drew).later k7)
 have K7 := Lib.hid (HK.out.drew.trans k7 (T := None) (fun _ h => h) (fun _ _ h => h))
 obtain ⟨cl, hcl⟩ : ∃ x, (chkL E).length = x := ⟨_, rfl⟩
 rw [hcl] at BS7 ⊢
 clear o7 bs7 k7 hcl
 go_wp2
 obtain ⟨qL2S, qL2h⟩ : ∃ S : World → Prop, ∀ w', S w' ↔ (((convert 37 9 (.slice A7 cl cap7)).run Tryz.prog w' = .ok (.string sc) w')) := ⟨_, fun _ => Iff.rfl⟩
 have qL2k0 : ∀ x : Memb qL2S, (convert 37 9 (.slice A7 cl cap7)).run Tryz.prog x.at_ = .ok (.string sc) x.at_ := fun x => ((qL2h _).1 x.is)
 have qL2n : Nonempty (Memb qL2S) := ⟨⟨_, (qL2h _).2 (HSC.out ▸ run_str BS7.out)⟩⟩
 have qL2H := Lib.hid qL2h
 clear qL2h
 refine MixK2.late (D := InS qL2S) (x := 2) (by kernel_rfl) (cls_cons (InS.mk ((qL2H.out _).2 (HSC.out ▸ run_str BS7.out))) (cls_base (InS.mk ((qH.out _).2 (⟨run_load_chk B7.out (Chk.cs_len DO.out _ _ _), HSZ.out ▸ run_str S7.out⟩))))) ?_
 refine wpMix2_seg 1 (InS qL2S) (by kernel_rfl) (by decide) (cl_one rfl) ?_
 simp only [tds]
 repeat (first | go_big_quiet_step (fail) | (go_big_quiet_want; first | refine quiet_load qk0 rfl rfl rfl aput ?_; go_big_quiet_on | refine quiet_conv qk1 rfl rfl rfl aput ?_; go_big_quiet_on | refine quiet_conv qL2k0 rfl rfl rfl aput ?_; go_big_quiet_on))
 refine wpQuiet_nil ?_
 refine wpMix2_seg 3 (InS qS) (by kernel_rfl) (by decide) (cl_base [2] rfl (by kernel_rfl)) ?_
 simp only [tds]
 repeat (first | go_big_quiet_step (fail) | (go_big_quiet_want; first | refine quiet_load qk0 rfl rfl rfl aput ?_; go_big_quiet_on | refine quiet_conv qk1 rfl rfl rfl aput ?_; go_big_quiet_on | refine quiet_conv qL2k0 rfl rfl rfl aput ?_; go_big_quiet_on))
 refine wpQuiet_nil ?_
 refine wpMix2_nil ?_
 clear qk0 qk1 qn qH qL2k0 qL2n qL2H
 have E2 := EQ.out BS7.out.byte
 have KE := Lib.hid (KB.out.trans K7.out (T := None) (fun _ h => h) (fun _ _ h => h))
 clear EQ HSZ HSC PUT BS7 S7 HZr BD HR HM HK K7
 by_cases hq : chkL E = zs
 ·exact tl280 _
 ·exact tl281 _) : P := h
theorem tl275 (P : Prop) (h : P := by
 obtain ⟨k, hk8, rfl, hB, hR, hM, hK⟩ := hrel
 have HB := Lib.hid hB
 have HR := Lib.hid hR
 have HM := Lib.hid hM
 have HK := Lib.hid hK
 clear hB hR hM hK N3 R3 M3 K3
 by_cases hlt : k < 8
 ·exact tl276 _
 ·exact tl278 _) : P := h
set_option maxRecDepth 100000 in
theorem tl274 (P : Prop) (h : P := by
 refine wpMix_eff (by kernel_rfl) ?_
 go_wp2_with (refine wpList_store_blk (b := nb) (o := 0) (ds := C.cs A2 200 cap2) NB.out (by rw [CL.out]; decide) (Chk.cs_one _ _ _ _) rfl rfl rfl (congrArg Value.agg (AG.out A2 200 cap2)) (by rw [CL.out]; exact chk_size) ?_)
 intro w3 b3 k3
 rw [splice_all (by rw [CL.out]; rfl)] at b3
 have N3 := Lib.hid b3
 have K3 : Hid (Keeps None wb w3) := KC.out.trans k3 (fun _ h => h) (fun b hb e => absurd e (by have := NBL.out; omega))
 have R3 : Hid (Blk w3 w.heap.size (chk0.cs none 0 0) 44) := K3.out.blk RB.out (fun h => h)
 have M3 : Hid (ChkV w3 (fun b => w.heap.size < b ∧ ¬ b = nb) A2 200 cap2 (zs.drop 32)) := MV.out.keeps k3 (fun b hb e => hb.2 e)
 clear b3 k3 NB KC
 go_wp2
 refine MixK.on (InS.mk ((mH.out _).2 (⟨(CB.out _ K3.out).1.1, (CB.out _ K3.out).1.2⟩))) ?_
 refine wpMix_nil ?_
 refine wpPs_nil ?_
 clear mk0 mk1 mn mH
 have RW : Hid (w.heap.size < nb) := Nat.lt_of_lt_of_le RB.out.lt NBL.out
 clear CL RB KR V1 V2
 go_wp2
 go_loopw [5] (fun iv wr => ∃ k : Nat, k ≤ 8 ∧ iv = .int .i64 (k : Int) ∧ Blk wr nb ((⟨(c0 : Int), (c1 : Int), O, D, fillTo ((zs.drop 24).take 8) 8 k, zs.drop 32⟩ : Chk).cs A2 200 cap2) 44 ∧ Blk wr w.heap.size (chk0.cs none 0 0) 44 ∧ ChkV wr (fun b => w.heap.size < b ∧ ¬ b = nb) A2 200 cap2 (zs.drop 32) ∧ Keeps None wb wr) (fun iv _ => 8 - (intOf iv).toNat)
 case atStart => exact ⟨0, by decide, rfl, by (have h := N3.out; rw [← HCC.out] at h; exact h), R3.out, M3.out, K3.out⟩
 case round =>
  exact tl275 _) : P := h
set_option maxRecDepth 100000 in
theorem tl282 (P : Prop) (h : P := by
 refine MixK.on (InS.mk ((mH.out _).2 (⟨(CB.out _ KC.out).1.1, (CB.out _ KC.out).1.2⟩))) ?_
 refine wpMix_nil ?_
 refine wpPs_nil ?_
 refine wpT_leaf (ps := [(0, 8), (11, 1), (15, 5), (21, 1)]) (by kernel_rfl) ?_
 refine wpPs_cons ?_
 try simp only [tds, Nat.reduceSub]
 refine wpMix_seg 8 (by kernel_rfl) (by decide) ?_
 simp only [tds, Nat.reduceSub]
 repeat (go_big_quiet_step (fail))
 refine wpQuiet_nil ?_
 refine wpMix_nil ?_
 refine wpPs_cons ?_
 try simp only [tds, Nat.reduceSub]
 refine wpMix_seg 1 (by kernel_rfl) (by decide) ?_
 simp only [tds, Nat.reduceSub]
 repeat (go_big_quiet_step (fail))
 refine wpQuiet_nil ?_
 refine wpMix_nil ?_
 refine wpPs_cons ?_
 try simp only [tds, Nat.reduceSub]
 refine wpMix_seg 3 (by kernel_rfl) (by decide) ?_
 simp only [tds, Nat.reduceSub]
 repeat (go_big_quiet_step (fail))
 refine wpQuiet_nil ?_
 refine wpMix_eff (by kernel_rfl) ?_
 go_wp2_with (at_builtin; refine Hid.out ?_)
 refine Lib.hid ?_
 refine wpList_append_bs (Own.nil _ _) ((CB.out _ KC.out).2.drop (k := 32) (by decide)) (by simp) (Nat.le_refl _) rfl rfl rfl rfl rfl ?_
 intro v2 w2 o2 kz
 rw [List.nil_append] at o2
 have kx := kz.mono (T := None) (fun i hi e => by simp [Value.ownBlock] at e)
 clear kz
 obtain ⟨A2, cap2, rfl, -, -⟩ := o2.shape
 rw [L200.out] at o2 ⊢
 have M0 := Lib.hid (chkV_own o2).lt
 try have NN := Lib.hid (kx.blk NB.out (fun h => h))
 try have MV : Hid (ChkV w2 (fun b => w.heap.size < b ∧ ¬ b = nb) A2 200 cap2 (zs.drop 32)) := M0.out.mono (fun b hb => by have h1 := NB.out.lt; have h2 := KC.out.size; exact ⟨by omega, by omega⟩)
 try clear NB
 try have NB := NN
 try clear NN
 have MW : Hid (ChkV w2 (fun b => w.heap.size < b ∧ b < w2.heap.size) A2 200 cap2 (zs.drop 32)) := M0.out.mono (fun b hb => by have h2 := KC.out.size; exact ⟨by omega, hb.2⟩)
 have KD := Lib.hid (KC.out.trans kx (T := None) (fun _ h => h) (fun _ _ h => h))
 clear KC kx o2 M0
 have KC := KD
 clear KD
 go_wp2
 refine MixK.on (InS.mk ((mH.out _).2 (⟨(CB.out _ KC.out).1.1, (CB.out _ KC.out).1.2⟩))) ?_
 refine wpMix_seg 1 (by kernel_rfl) (by decide) ?_
 simp only [tds, Nat.reduceSub]
 repeat (go_big_quiet_step (fail))
 refine wpQuiet_nil ?_
 refine wpMix_nil ?_
 refine wpPs_cons ?_
 try simp only [tds, Nat.reduceSub]
 exact tl274 _) : P := h
theorem tl284 (P : Prop) (h : P := by
 refine wpPs_cons ?_
 try simp only [tds, Nat.reduceSub]
 refine wpMix_seg 2 (by kernel_rfl) (by decide) ?_
 simp only [tds, Nat.reduceSub]
 repeat (go_big_quiet_step (fail))
 refine wpQuiet_nil ?_
 refine wpMix_eff (by kernel_rfl) ?_
 go_wp2_with fail
 refine (V2.out _ (((CB.out _ KC.out).2.drop (by decide)).take (by decide))).mono ?_
 rintro e w' ⟨rfl, rfl⟩
 go_wp2
 exact tl282 _) : P := h
theorem tl283 (P : Prop) (h : P := by
 refine MixK.on (InS.mk ((mH.out _).2 (⟨(CB.out _ KC.out).1.1, (CB.out _ KC.out).1.2⟩))) ?_
 refine wpMix_nil ?_
 refine wpPs_nil ?_
 refine wpT_node1 (us := [(0, 8), (11, 9), (21, 1)]) [(12, 3)] [(0, 8), (11, 1), (15, 5), (21, 1)] (by kernel_rfl) ?_
 ·
  exact tl284 _) : P := h
set_option maxRecDepth 100000 in
set_option maxHeartbeats 6400000 in
theorem rggetk_any (A : Option Addr) (n cap : Nat) (zs : List Int) (w : World) (h : Bs w A n cap zs) : Calls Tryz.prog 51 #[.slice A n cap] w (GotChk w zs) := by
 have hle := h.le
 have hmx := h.max
 by_cases hn : n = 232
 case neg =>
  have d1 : ((n : Int) != 232) = true := by simp; omega
  have GN : Hid (getChk zs = (chk0, false)) := if_neg (fun hh => hn (by rw [← h.len, hh.1]))
  clear h
  go_enter Tryz.func51, Tryz.ntmps51
  exact tl181 _
 subst hn
 have HZ := Lib.hid h
 have HL := Lib.hid h.len
 obtain ⟨gb, off, rfl, hgb, hcel⟩ := h.at_ (by decide)
 have z0 := hcel 0 (by decide)
 have z1 := hcel 1 (by decide)
 have a0 := h.byte (zs.getD 0 0) (getD_mem 0 (by rw [h.len]; decide))
 have a1 := h.byte (zs.getD 1 0) (getD_mem 0 (by rw [h.len]; decide))
 obtain ⟨c0, hc0⟩ : ∃ c : Nat, zs.getD 0 0 = c := ⟨(zs.getD 0 0).toNat, by omega⟩
 obtain ⟨c1, hc1⟩ : ∃ c : Nat, zs.getD 1 0 = c := ⟨(zs.getD 1 0).toNat, by omega⟩
 have HC0 := Lib.hid hc0
 have HC1 := Lib.hid hc1
 rw [hc0] at z0 a0
 rw [hc1] at z1 a1
 have V1 := Lib.hid (fun w h => rsnumber_any (some ⟨gb, off + 8, none⟩) (16 - 8) (cap - 8) ((zs.drop 8).take 8) w h (by decide))
 have V2 := Lib.hid (fun w h => rsnumber_any (some ⟨gb, off + 16, none⟩) (24 - 16) (cap - 16) ((zs.drop 16).take 8) w h (by decide))
 rw [show numN ((zs.drop 8).take 8) = part8 zs 8 from rfl] at V1
 rw [show numN ((zs.drop 16).take 8) = part8 zs 16 from rfl] at V2
 have L200 : Hid ((zs.drop 32).length = 200) := by show _ = _; rw [List.length_drop, HL.out]
 have P1 := part8_lt h.byte 8
 have P2 := part8_lt h.byte 16
 obtain ⟨O, hO⟩ : ∃ x, wrap64 (part8 zs 8 : Int) = x := ⟨_, rfl⟩
 obtain ⟨D, hD⟩ : ∃ x, wrap64 (part8 zs 16 : Int) = x := ⟨_, rfl⟩
 have HD : Hid (((zs.drop 24).take 8).length = 8) := by show _ = _; rw [List.length_take, List.length_drop, HL.out]; rfl
 have GC : Hid (getChk zs = if chkL (chkR zs O D) = zs then (chkR zs O D, true) else (chk0, false)) := chkR_get (wrap_len hO P1) (wrap_len hD P2) HL.out
 have COK : Hid (chkR zs O D).ok := ⟨HD.out, fun z hz => HZ.out.byte z (List.mem_of_mem_drop (List.mem_of_mem_take hz)), fun z hz => HZ.out.byte z (List.mem_of_mem_drop hz)⟩
 clear h hcel hc0 hc1
 go_enter Tryz.func51, Tryz.ntmps51
 go_wp2
 obtain ⟨wb, hwb⟩ : ∃ x, w.alloc (.cells #[.int .i64 0, .int .i64 0, .int .i64 0, .int .i64 0, .int .u8 0, .int .u8 0, .int .u8 0, .int .u8 0, .int .u8 0, .int .u8 0, .int .u8 0, .int .u8 0, .slice none 0 0] 44) = x := ⟨_, rfl⟩
 have RB : Hid (Blk wb w.heap.size (chk0.cs none 0 0) 44) := by rw [← hwb, chk_zero]; exact Blk.new w (chk0.cs none 0 0) 44
 have KB : Hid (Keeps None w wb) := by rw [← hwb]; exact (Keeps.refl None w).alloc _
 rw [hwb]
 clear hwb
 rw [Nat.add_zero] at z0
 have CB : Hid (∀ w2, Keeps None wb w2 → (w2.cell? ⟨gb, off, none⟩ = some (.int .u8 (c0 : Int)) ∧ w2.cell? ⟨gb, off + 1, none⟩ = some (.int .u8 (c1 : Int))) ∧ Bs w2 (some ⟨gb, off, none⟩) 232 cap zs) := fun w2 k =>
  have k2 := KB.out.trans k (T := None) (fun _ h => h) (fun _ _ h => h)
  ⟨⟨(k2.cell hgb (fun h => h)).trans z0, (k2.cell hgb (fun h => h)).trans z1⟩, HZ.out.keeps k2 (fun _ _ _ _ _ h => h)⟩
 have KR := Lib.hid (Keeps.refl None wb)
 have SB : w.heap.size < wb.heap.size := RB.out.lt
 clear z0 z1
 have KC : Hid (Keeps None wb wb.drew) := (Keeps.refl None wb).drew
 obtain ⟨C, hC⟩ : ∃ C : Chk, (⟨(c0 : Int), (c1 : Int), O, D, List.replicate 8 0, zs.drop 32⟩ : Chk) = C := ⟨_, rfl⟩
 have AG : Hid (∀ A n c, #[.int .i64 (c0 : Int), .int .i64 (c1 : Int), .int .i64 O, .int .i64 D, .int .u8 0, .int .u8 0, .int .u8 0, .int .u8 0, .int .u8 0, .int .u8 0, .int .u8 0, .int .u8 0, .slice A n c] = (C.cs A n c).toArray) := fun A n c => by rw [← hC]; rfl
 have CL : Hid (∀ A n cap, (C.cs A n cap).length = 13) := fun A n cap => by rw [← hC]; rfl
 have HCC := Lib.hid hC
 clear hC
 obtain ⟨mS, mh⟩ : ∃ S : World → Prop, ∀ w', S w' ↔ (w'.cell? ⟨gb, off, none⟩ = some (.int .u8 (c0 : Int)) ∧ w'.cell? ⟨gb, off + 1, none⟩ = some (.int .u8 (c1 : Int))) := ⟨_, fun _ => Iff.rfl⟩
 have mk0 : ∀ x : Memb mS, x.at_.cell? ⟨gb, off, none⟩ = some (.int .u8 (c0 : Int)) := fun x => ((mh _).1 x.is).1
 have mk1 : ∀ x : Memb mS, x.at_.cell? ⟨gb, off + 1, none⟩ = some (.int .u8 (c1 : Int)) := fun x => ((mh _).1 x.is).2
 have mn : Nonempty (Memb mS) := ⟨⟨(wb).drew, (mh _).2 ⟨(CB.out _ KR.out.drew).1.1, (CB.out _ KR.out.drew).1.2⟩⟩⟩
 have mH := Lib.hid mh
 clear mh
 refine wp_region_mixT [10, 14, 18, 20, 21] (InS mS) 3 22 (by kernel_rfl) (by kernel_rfl) (by kernel_rfl) (by kernel_rfl) (InS.mk ((mH.out _).2 ⟨(CB.out _ KR.out.drew).1.1, (CB.out _ KR.out.drew).1.2⟩)) ?_
 refine wpT_node2 (us := [(0, 22)]) [(8, 3)] [(0, 8), (11, 11)] [(20, 1)] [(0, 20), (21, 1)] (by kernel_rfl) ?_ ?_
 ·
  refine wpPs_cons ?_
  try simp only [tds, Nat.reduceSub]
  refine wpMix_seg 2 (by kernel_rfl) (by decide) ?_
  simp only [tds, Nat.reduceSub]
  repeat (go_big_quiet_step (fail))
  refine wpQuiet_nil ?_
  refine wpMix_eff (by kernel_rfl) ?_
  go_wp2_with fail
  refine (V1.out _ (((CB.out _ KC.out).2.drop (by decide)).take (by decide))).mono ?_
  rintro e w' ⟨rfl, rfl⟩
  go_wp2
  refine MixK.on (InS.mk ((mH.out _).2 (⟨(CB.out _ KC.out).1.1, (CB.out _ KC.out).1.2⟩))) ?_
  refine wpMix_nil ?_
  refine wpPs_nil ?_
  refine wpT_node2 (us := [(0, 8), (11, 11)]) [(12, 3)] [(0, 8), (11, 1), (15, 7)] [(20, 1)] [(0, 8), (11, 9), (21, 1)] (by kernel_rfl) ?_ ?_
  ·
   refine wpPs_cons ?_
   try simp only [tds, Nat.reduceSub]
   refine wpMix_seg 2 (by kernel_rfl) (by decide) ?_
   simp only [tds, Nat.reduceSub]
   repeat (go_big_quiet_step (fail))
   refine wpQuiet_nil ?_
   refine wpMix_eff (by kernel_rfl) ?_
   go_wp2_with fail
   refine (V2.out _ (((CB.out _ KC.out).2.drop (by decide)).take (by decide))).mono ?_
   rintro e w' ⟨rfl, rfl⟩
   go_wp2
   refine MixK.on (InS.mk ((mH.out _).2 (⟨(CB.out _ KC.out).1.1, (CB.out _ KC.out).1.2⟩))) ?_
   refine wpMix_nil ?_
   refine wpPs_nil ?_
   refine wpT_node2 (us := [(0, 8), (11, 1), (15, 7)]) [(16, 3)] [(0, 8), (11, 1), (15, 1), (19, 3)] [(20, 1)] [(0, 8), (11, 1), (15, 5), (21, 1)] (by kernel_rfl) ?_ ?_
   ·
    refine wpPs_cons ?_
    try simp only [tds, Nat.reduceSub]
    refine wpMix_seg 2 (by kernel_rfl) (by decide) ?_
    simp only [tds, Nat.reduceSub]
    repeat (go_big_quiet_step (fail))
    refine wpQuiet_nil ?_
    refine wpMix_eff (by kernel_rfl) ?_
    go_wp2_with (at_builtin; refine Hid.out ?_)
    refine Lib.hid ?_
    refine wpList_append_bs (Own.nil _ _) ((CB.out _ KC.out).2.drop (k := 32) (by decide)) (by simp) (Nat.le_refl _) rfl rfl rfl rfl rfl ?_
    intro v2 w2 o2 kz
    rw [List.nil_append] at o2
    have kx := kz.mono (T := None) (fun i hi e => by simp [Value.ownBlock] at e)
    clear kz
    obtain ⟨A2, cap2, rfl, -, -⟩ := o2.shape
    rw [L200.out] at o2 ⊢
    have M0 := Lib.hid (chkV_own o2).lt
    try have NN := Lib.hid (kx.blk NB.out (fun h => h))
    try have MV : Hid (ChkV w2 (fun b => w.heap.size < b ∧ ¬ b = nb) A2 200 cap2 (zs.drop 32)) := M0.out.mono (fun b hb => by have h1 := NB.out.lt; have h2 := KC.out.size; exact ⟨by omega, by omega⟩)
    try clear NB
    try have NB := NN
    try clear NN
    have MW : Hid (ChkV w2 (fun b => w.heap.size < b ∧ b < w2.heap.size) A2 200 cap2 (zs.drop 32)) := M0.out.mono (fun b hb => by have h2 := KC.out.size; exact ⟨by omega, hb.2⟩)
    have KD := Lib.hid (KC.out.trans kx (T := None) (fun _ h => h) (fun _ _ h => h))
    clear KC kx o2 M0
    have KC := KD
    clear KD
    go_wp2
    refine MixK.on (InS.mk ((mH.out _).2 (⟨(CB.out _ KC.out).1.1, (CB.out _ KC.out).1.2⟩))) ?_
    refine wpMix_nil ?_
    refine wpPs_nil ?_
    refine wpT_leaf (ps := [(0, 8), (11, 1), (15, 1), (19, 3)]) (by kernel_rfl) ?_
    refine wpPs_cons ?_
    try simp only [tds, Nat.reduceSub]
    refine wpMix_seg 8 (by kernel_rfl) (by decide) ?_
    simp only [tds, Nat.reduceSub]
    repeat (go_big_quiet_step (fail))
    refine wpQuiet_nil ?_
    refine wpMix_nil ?_
    refine wpPs_cons ?_
    try simp only [tds, Nat.reduceSub]
    refine wpMix_seg 1 (by kernel_rfl) (by decide) ?_
    simp only [tds, Nat.reduceSub]
    repeat (go_big_quiet_step (fail))
    refine wpQuiet_nil ?_
    refine wpMix_nil ?_
    refine wpPs_cons ?_
    try simp only [tds, Nat.reduceSub]
    refine wpMix_seg 1 (by kernel_rfl) (by decide) ?_
    simp only [tds, Nat.reduceSub]
    repeat (go_big_quiet_step (fail))
    refine wpQuiet_nil ?_
    refine wpMix_nil ?_
    refine wpPs_cons ?_
    try simp only [tds, Nat.reduceSub]
    refine wpMix_seg 1 (by kernel_rfl) (by decide) ?_
    simp only [tds, Nat.reduceSub]
    repeat (go_big_quiet_step (fail))
    refine wpQuiet_nil ?_
    refine wpMix_eff (by kernel_rfl) ?_
    go_wp2
    first | (refine Exists.elim (⟨_, rfl⟩ : ∃ x, w2.alloc (.cells #[.int .i64 0, .int .i64 0, .int .i64 0, .int .i64 0, .int .u8 0, .int .u8 0, .int .u8 0, .int .u8 0, .int .u8 0, .int .u8 0, .int .u8 0, .int .u8 0, .slice none 0 0] 44) = x) fun wy hwy => ?_; refine Exists.elim (⟨_, rfl⟩ : ∃ x, w2.heap.size = x) fun nb hnb => ?_; rw [hwy, hnb]) | (refine Exists.elim (⟨_, rfl⟩ : ∃ x, wb.drew.alloc (.cells #[.int .i64 0, .int .i64 0, .int .i64 0, .int .i64 0, .int .u8 0, .int .u8 0, .int .u8 0, .int .u8 0, .int .u8 0, .int .u8 0, .int .u8 0, .int .u8 0, .slice none 0 0] 44) = x) fun wy hwy => ?_; refine Exists.elim (⟨_, rfl⟩ : ∃ x, wb.heap.size = x) fun nb hnb => ?_; rw [hwy, hnb]) | (refine Exists.elim (⟨_, rfl⟩ : ∃ x, (wb.alloc (.cells #[.int .i64 0, .int .i64 0, .int .i64 0, .int .i64 0, .int .u8 0, .int .u8 0, .int .u8 0, .int .u8 0, .int .u8 0, .int .u8 0, .int .u8 0, .int .u8 0, .slice none 0 0] 44)).drew = x) fun wy hwy => ?_; refine Exists.elim (⟨_, rfl⟩ : ∃ x, wb.heap.size = x) fun nb hnb => ?_; rw [hwy, hnb])
    have NB : Hid (Blk wy nb (chk0.cs none 0 0) 44) := by rw [← hwy, ← hnb, chk_zero]; first | exact Blk.new w2 (chk0.cs none 0 0) 44 | exact Blk.new wb.drew (chk0.cs none 0 0) 44 | exact (Blk.new wb (chk0.cs none 0 0) 44).drew
    have NBL : Hid (wb.heap.size ≤ nb) := by rw [← hnb]; exact KC.out.size
    have KD : Hid (Keeps None wb wy) := by rw [← hwy]; first | exact KC.out.alloc _ | exact ((Keeps.refl None wb).alloc _).drew
    try have MV : Hid (ChkV wy (fun b => w.heap.size < b ∧ ¬ b = nb) A2 200 cap2 (zs.drop 32)) := by rw [← hwy, ← hnb]; exact (MW.out.mono (fun b hb => ⟨hb.1, Nat.ne_of_lt hb.2⟩)).later ((Keeps.refl None w2).alloc _)
    clear KC hwy hnb
    have KC := KD
    clear KD
    refine MixK.on (InS.mk ((mH.out _).2 (⟨(CB.out _ KC.out).1.1, (CB.out _ KC.out).1.2⟩))) ?_
    exact tl274 _
   ·
    refine wpPs_cons ?_
    try simp only [tds, Nat.reduceSub]
    refine wpMix_eff (by kernel_rfl) ?_
    go_wp2
    first | (refine Exists.elim (⟨_, rfl⟩ : ∃ x, w2.alloc (.cells #[.int .i64 0, .int .i64 0, .int .i64 0, .int .i64 0, .int .u8 0, .int .u8 0, .int .u8 0, .int .u8 0, .int .u8 0, .int .u8 0, .int .u8 0, .int .u8 0, .slice none 0 0] 44) = x) fun wy hwy => ?_; refine Exists.elim (⟨_, rfl⟩ : ∃ x, w2.heap.size = x) fun nb hnb => ?_; rw [hwy, hnb]) | (refine Exists.elim (⟨_, rfl⟩ : ∃ x, wb.drew.alloc (.cells #[.int .i64 0, .int .i64 0, .int .i64 0, .int .i64 0, .int .u8 0, .int .u8 0, .int .u8 0, .int .u8 0, .int .u8 0, .int .u8 0, .int .u8 0, .int .u8 0, .slice none 0 0] 44) = x) fun wy hwy => ?_; refine Exists.elim (⟨_, rfl⟩ : ∃ x, wb.heap.size = x) fun nb hnb => ?_; rw [hwy, hnb]) | (refine Exists.elim (⟨_, rfl⟩ : ∃ x, (wb.alloc (.cells #[.int .i64 0, .int .i64 0, .int .i64 0, .int .i64 0, .int .u8 0, .int .u8 0, .int .u8 0, .int .u8 0, .int .u8 0, .int .u8 0, .int .u8 0, .int .u8 0, .slice none 0 0] 44)).drew = x) fun wy hwy => ?_; refine Exists.elim (⟨_, rfl⟩ : ∃ x, wb.heap.size = x) fun nb hnb => ?_; rw [hwy, hnb])
    have NB : Hid (Blk wy nb (chk0.cs none 0 0) 44) := by rw [← hwy, ← hnb, chk_zero]; first | exact Blk.new w2 (chk0.cs none 0 0) 44 | exact Blk.new wb.drew (chk0.cs none 0 0) 44 | exact (Blk.new wb (chk0.cs none 0 0) 44).drew
    have NBL : Hid (wb.heap.size ≤ nb) := by rw [← hnb]; exact KC.out.size
    have KD : Hid (Keeps None wb wy) := by rw [← hwy]; first | exact KC.out.alloc _ | exact ((Keeps.refl None wb).alloc _).drew
    try have MV : Hid (ChkV wy (fun b => w.heap.size < b ∧ ¬ b = nb) A2 200 cap2 (zs.drop 32)) := by rw [← hwy, ← hnb]; exact (MW.out.mono (fun b hb => ⟨hb.1, Nat.ne_of_lt hb.2⟩)).later ((Keeps.refl None w2).alloc _)
    clear KC hwy hnb
    have KC := KD
    clear KD
    exact tl282 _
  ·
   refine wpPs_cons ?_
   try simp only [tds, Nat.reduceSub]
   refine wpMix_eff (by kernel_rfl) ?_
   go_wp2
   first | (refine Exists.elim (⟨_, rfl⟩ : ∃ x, w2.alloc (.cells #[.int .i64 0, .int .i64 0, .int .i64 0, .int .i64 0, .int .u8 0, .int .u8 0, .int .u8 0, .int .u8 0, .int .u8 0, .int .u8 0, .int .u8 0, .int .u8 0, .slice none 0 0] 44) = x) fun wy hwy => ?_; refine Exists.elim (⟨_, rfl⟩ : ∃ x, w2.heap.size = x) fun nb hnb => ?_; rw [hwy, hnb]) | (refine Exists.elim (⟨_, rfl⟩ : ∃ x, wb.drew.alloc (.cells #[.int .i64 0, .int .i64 0, .int .i64 0, .int .i64 0, .int .u8 0, .int .u8 0, .int .u8 0, .int .u8 0, .int .u8 0, .int .u8 0, .int .u8 0, .int .u8 0, .slice none 0 0] 44) = x) fun wy hwy => ?_; refine Exists.elim (⟨_, rfl⟩ : ∃ x, wb.heap.size = x) fun nb hnb => ?_; rw [hwy, hnb]) | (refine Exists.elim (⟨_, rfl⟩ : ∃ x, (wb.alloc (.cells #[.int .i64 0, .int .i64 0, .int .i64 0, .int .i64 0, .int .u8 0, .int .u8 0, .int .u8 0, .int .u8 0, .int .u8 0, .int .u8 0, .int .u8 0, .int .u8 0, .slice none 0 0] 44)).drew = x) fun wy hwy => ?_; refine Exists.elim (⟨_, rfl⟩ : ∃ x, wb.heap.size = x) fun nb hnb => ?_; rw [hwy, hnb])
   have NB : Hid (Blk wy nb (chk0.cs none 0 0) 44) := by rw [← hwy, ← hnb, chk_zero]; first | exact Blk.new w2 (chk0.cs none 0 0) 44 | exact Blk.new wb.drew (chk0.cs none 0 0) 44 | exact (Blk.new wb (chk0.cs none 0 0) 44).drew
   have NBL : Hid (wb.heap.size ≤ nb) := by rw [← hnb]; exact KC.out.size
   have KD : Hid (Keeps None wb wy) := by rw [← hwy]; first | exact KC.out.alloc _ | exact ((Keeps.refl None wb).alloc _).drew
   try have MV : Hid (ChkV wy (fun b => w.heap.size < b ∧ ¬ b = nb) A2 200 cap2 (zs.drop 32)) := by rw [← hwy, ← hnb]; exact (MW.out.mono (fun b hb => ⟨hb.1, Nat.ne_of_lt hb.2⟩)).later ((Keeps.refl None w2).alloc _)
   clear KC hwy hnb
   have KC := KD
   clear KD
   exact tl283 _
 ·
  refine wpPs_cons ?_
  try simp only [tds, Nat.reduceSub]
  refine wpMix_eff (by kernel_rfl) ?_
  go_wp2
  first | (refine Exists.elim (⟨_, rfl⟩ : ∃ x, w2.alloc (.cells #[.int .i64 0, .int .i64 0, .int .i64 0, .int .i64 0, .int .u8 0, .int .u8 0, .int .u8 0, .int .u8 0, .int .u8 0, .int .u8 0, .int .u8 0, .int .u8 0, .slice none 0 0] 44) = x) fun wy hwy => ?_; refine Exists.elim (⟨_, rfl⟩ : ∃ x, w2.heap.size = x) fun nb hnb => ?_; rw [hwy, hnb]) | (refine Exists.elim (⟨_, rfl⟩ : ∃ x, wb.drew.alloc (.cells #[.int .i64 0, .int .i64 0, .int .i64 0, .int .i64 0, .int .u8 0, .int .u8 0, .int .u8 0, .int .u8 0, .int .u8 0, .int .u8 0, .int .u8 0, .int .u8 0, .slice none 0 0] 44) = x) fun wy hwy => ?_; refine Exists.elim (⟨_, rfl⟩ : ∃ x, wb.heap.size = x) fun nb hnb => ?_; rw [hwy, hnb]) | (refine Exists.elim (⟨_, rfl⟩ : ∃ x, (wb.alloc (.cells #[.int .i64 0, .int .i64 0, .int .i64 0, .int .i64 0, .int .u8 0, .int .u8 0, .int .u8 0, .int .u8 0, .int .u8 0, .int .u8 0, .int .u8 0, .int .u8 0, .slice none 0 0] 44)).drew = x) fun wy hwy => ?_; refine Exists.elim (⟨_, rfl⟩ : ∃ x, wb.heap.size = x) fun nb hnb => ?_; rw [hwy, hnb])
  have NB : Hid (Blk wy nb (chk0.cs none 0 0) 44) := by rw [← hwy, ← hnb, chk_zero]; first | exact Blk.new w2 (chk0.cs none 0 0) 44 | exact Blk.new wb.drew (chk0.cs none 0 0) 44 | exact (Blk.new wb (chk0.cs none 0 0) 44).drew
  have NBL : Hid (wb.heap.size ≤ nb) := by rw [← hnb]; exact KC.out.size
  have KD : Hid (Keeps None wb wy) := by rw [← hwy]; first | exact KC.out.alloc _ | exact ((Keeps.refl None wb).alloc _).drew
  try have MV : Hid (ChkV wy (fun b => w.heap.size < b ∧ ¬ b = nb) A2 200 cap2 (zs.drop 32)) := by rw [← hwy, ← hnb]; exact (MW.out.mono (fun b hb => ⟨hb.1, Nat.ne_of_lt hb.2⟩)).later ((Keeps.refl None w2).alloc _)
  clear KC hwy hnb
  have KC := KD
  clear KD
  refine MixK.on (InS.mk ((mH.out _).2 (⟨(CB.out _ KC.out).1.1, (CB.out _ KC.out).1.2⟩))) ?_
  refine wpMix_nil ?_
  refine wpPs_nil ?_
  refine wpT_node1 (us := [(0, 20), (21, 1)]) [(8, 3)] [(0, 8), (11, 9), (21, 1)] (by kernel_rfl) ?_
  ·
   refine wpPs_cons ?_
   try simp only [tds, Nat.reduceSub]
   refine wpMix_seg 2 (by kernel_rfl) (by decide) ?_
   simp only [tds, Nat.reduceSub]
   repeat (go_big_quiet_step (fail))
   refine wpQuiet_nil ?_
   refine wpMix_eff (by kernel_rfl) ?_
   go_wp2_with fail
   refine (V1.out _ (((CB.out _ KC.out).2.drop (by decide)).take (by decide))).mono ?_
   rintro e w' ⟨rfl, rfl⟩
   go_wp2
   exact tl283 _
open Go.RowKit
set_option maxRecDepth 100000 in
set_option maxHeartbeats 1600000 in
theorem rgnothing_any (w : World) : Calls Tryz.prog 49 #[] w (GotSt w (fun _ => False) st0) := by
 have NW := Lib.hid (Blk.new w (stZ.cs none 0 0) 58)
 have KW : Hid (Keeps None w (w.alloc (.cells (stZ.cs none 0 0).toArray 58))) := (Keeps.refl None w).alloc _
 rw [← st_zero] at NW KW
 go_enter Tryz.func49, Tryz.ntmps49
 exact tl188 _
theorem tl285 (P : Prop) (h : P := by
 go_wp2
 go_roundw
 case rel => exact ⟨i + 1, s, A', n', c', by omega, by go_num, OS.out, by (have h := HF2.out; rw [EQ2.out] at h; exact h), SB5.out, HM5.out, RB5.out, KB5.out⟩
 case measure => simp [intOf]; omega) : P := h
set_option maxRecDepth 100000 in
set_option maxHeartbeats 6400000 in
theorem rgfold_any (A : Option Addr) (n cap : Nat) (rs : List RV) (P : Nat → Prop) (w : World) (h : Rws w A n cap rs) (hb : Bds w P rs) :
    Calls Tryz.prog 31 #[.slice A n cap] w (GotSt w (fun _ => False) (foldS (rs.map RV.r))) := by
 have H := Lib.hid h
 have HB := Lib.hid hb
 have HL := Lib.hid h.len
 have hle := h.le
 have hmx := h.max
 have RB0 := Lib.hid (Blk.new w (stZ.cs none 0 0) 58)
 have KB0 : Hid (Keeps None w (w.alloc (.cells (stZ.cs none 0 0).toArray 58))) := (Keeps.refl None w).alloc _
 rw [← st_zero] at RB0 KB0
 have S0 : (w.alloc (.cells Tryz.zeroCells58 58)).heap.size = w.heap.size + 1 := by simp
 clear h hb
 go_enter Tryz.func31, Tryz.ntmps31
 go_wp2_with fail
 refine (rgnothing_any _).mono ?_
 rintro e w1 ⟨A1, n1, c1, rfl, m1, k1⟩
 have RB1 := Lib.hid (k1.blk RB0.out (fun h => h))
 have KB1 := Lib.hid (KB0.out.trans k1 (T := None) (fun _ h => h) (fun _ _ h => h))
 have M1 : Hid (ChkV w1 (fun b => w.heap.size < b ∧ b < w1.heap.size) A1 n1 c1 st0.k.mid) := m1.lt.mono (fun b hb => ⟨by rcases hb.1 with h | h; exact absurd h (fun h => h); omega, hb.2⟩)
 have S1 : w.heap.size < w1.heap.size := RB1.out.lt
 have NB1 := Lib.hid (Blk.new w1 (stZ.cs none 0 0) 58)
 have KN1 : Hid (Keeps None w1 (w1.alloc (.cells (stZ.cs none 0 0).toArray 58))) := (Keeps.refl None w1).alloc _
 rw [← st_zero] at NB1 KN1
 unfold St.v
 clear m1 k1 RB0 KB0
 go_wp2_with (refine wpList_store_blk (b := w1.heap.size) (o := 0) (ds := st0.cs A1 n1 c1) NB1.out (by rw [St.cs_len st0_ok, St.cs_len stZ_ok]; decide) (St.cs_one _ _ _ _) rfl rfl rfl rfl (by rw [St.cs_len st0_ok]; exact st_size) ?_)
 intro w2 b2 k2
 rw [splice_all (by rw [St.cs_len st0_ok, St.cs_len stZ_ok])] at b2
 have SB2 := Lib.hid b2
 have K12 := Lib.hid (KN1.out.trans k2 (T := None) (fun _ h => h) (fun b hb e => absurd e (by omega)))
 have KB2 := Lib.hid (KB1.out.trans K12.out (T := None) (fun _ h => h) (fun _ _ h => h))
 have RB2 := Lib.hid (K12.out.blk RB1.out (fun h => h))
 have M2 : Hid (ChkV w2 (fun b => w.heap.size < b ∧ ¬ b = w1.heap.size) A1 n1 c1 st0.k.mid) := (M1.out.mono (fun b hb => ⟨hb.1, Nat.ne_of_lt hb.2⟩)).later K12.out
 obtain ⟨sb, hsb⟩ : ∃ x, w1.heap.size = x := ⟨_, rfl⟩
 rw [hsb] at SB2 M2 S1 ⊢
 clear b2 k2 NB1 KN1 K12 RB1 KB1 M1 hsb S0
 go_wp2
 go_loopw [4] (fun iv wr => ∃ (i : Nat) (s : St) (A' : Option Addr) (n' c' : Nat), i ≤ n ∧ iv = .int .i64 (i : Int) ∧ s.ok ∧ (((rs.map RV.r).drop i).foldl stepS s = foldS (rs.map RV.r)) ∧ Blk wr sb (s.cs A' n' c') 58 ∧ ChkV wr (fun b => w.heap.size < b ∧ ¬ b = sb) A' n' c' s.k.mid ∧ Blk wr w.heap.size (stZ.cs none 0 0) 58 ∧ Keeps None w wr) (fun iv _ => n - (intOf iv).toNat)
 case atStart => exact ⟨0, st0, A1, n1, c1, Nat.zero_le _, rfl, st0_ok, rfl, SB2.out, M2.out, RB2.out, KB2.out⟩
 case round =>
  obtain ⟨i, s, A', n', c', hi, rfl, os, hf, hsbk, hm, hr, hk⟩ := hrel
  obtain ⟨wv, rfl⟩ : ∃ x, x = wr := ⟨_, rfl⟩
  have OS := Lib.hid os
  have HF := Lib.hid hf
  have SB := Lib.hid hsbk
  have HM := Lib.hid hm
  have RB := Lib.hid hr
  have HK := Lib.hid hk
  have SZ : sb < wv.heap.size := hsbk.lt
  clear os hf hsbk hm hr hk SB2 M2 RB2 KB2
  by_cases hlt : i < n
  ·have hir : i < rs.length := by rw [HL.out]; exact hlt
   obtain ⟨r, hr0⟩ : ∃ r, rs[i] = r := ⟨_, rfl⟩
   have hget : rs[i]? = some r := by rw [List.getElem?_eq_getElem hir, hr0]
   obtain ⟨gb, off, rfl, hgb, hc⟩ := H.out.at_ (by omega)
   obtain ⟨x0, x1, x2⟩ := hc i r hget
   rw [← HK.out.cell hgb (fun h => h)] at x0 x1 x2
   have BR := Lib.hid ((HB.out.bs r (List.mem_of_getElem? hget)).keeps HK.out (fun _ _ _ _ _ h => h))
   have hdr : (rs.map RV.r).drop i = r.r :: (rs.map RV.r).drop (i + 1) := by
    rw [List.drop_eq_getElem_cons (by rw [List.length_map]; exact hir), List.getElem_map, hr0]
   have HF2 : Hid (((rs.map RV.r).drop (i + 1)).foldl stepS (stepS s ⟨r.k, r.s, r.b⟩) = foldS (rs.map RV.r)) := by
    show _ = _
    rw [← HF.out, hdr]
    rfl
   obtain ⟨rk, rsq, rA, rc, rb⟩ := r
   unfold RV.v at x2
   dsimp only at x0 x1 x2 BR HF2
   obtain ⟨rn, hrn⟩ : ∃ z, rb.length = z := ⟨_, rfl⟩
   rw [hrn] at x2 BR
   clear hget hc hr0 hir hdr HF hrn
   by_cases q2 : rk = 2
   ·subst q2
    have GET := Lib.hid (fun w h => rggetc_any rA rn rc rb w h)
    have GO : Hid ((getCom rb).1.ok) := by
     show (getCom rb).1.ok
     unfold getCom
     split
     ·rename_i h; exact comP_ok BR.out.byte h.1
     ·exact com0_ok
    have EQ : Hid (stepS s ⟨2, rsq, rb⟩ = if (getCom rb).2 = true then ⟨{ (getCom rb).1 with fl := max (getCom rb).1.fl s.c.fl }, false, chk0⟩ else s) := by show stepS _ _ = _; unfold stepS; simp
    obtain ⟨G, hG⟩ : ∃ G, (getCom rb).1 = G := ⟨_, rfl⟩
    obtain ⟨ok, hok⟩ : ∃ b, (getCom rb).2 = b := ⟨_, rfl⟩
    rw [hG, hok] at EQ GET
    rw [hG] at GO
    clear hG hok
    unfold Com.v at GET
    go_wp2_with fail
    refine (GET.out _ BR.out).mono ?_
    rintro e w4 ⟨rfl, k4⟩
    have NW := Lib.hid (Blk.new w4 com0.cs 41)
    have KW : Hid (Keeps None w4 (w4.alloc (.cells com0.cs.toArray 41))) := (Keeps.refl None w4).alloc _
    have K4 := Lib.hid k4
    have S4 : wv.heap.size ≤ w4.heap.size := k4.size
    rw [← com_zero] at NW KW
    clear k4 x0 x1 x2 GET
    go_wp2_with (refine wpList_store_blk (b := w4.heap.size) (o := 0) (ds := G.cs) NW.out (by rw [Com.cs_len GO.out]; decide) (Com.cs_one _) rfl rfl rfl rfl (by rw [Com.cs_len GO.out]; exact com_size) ?_)
    intro w5 b5 k5
    rw [splice_all (by rw [Com.cs_len GO.out]; rfl)] at b5
    have GB := Lib.hid b5
    have K45 := Lib.hid (KW.out.trans k5 (T := None) (fun _ h => h) (fun b hb e => absurd e (by omega)))
    have K35 := Lib.hid (K4.out.trans K45.out (T := None) (fun _ h => h) (fun _ _ h => h))
    have SB5 := Lib.hid (K35.out.blk SB.out (fun h => h))
    have RB5 := Lib.hid (K35.out.blk RB.out (fun h => h))
    have HM5 := Lib.hid (HM.out.later K35.out)
    have KB5 := Lib.hid (HK.out.trans K35.out (T := None) (fun _ h => h) (fun _ _ h => h))
    have SZ5 : w.heap.size < sb := S1
    clear b5 k5 NW KW K4 K45 SB HM RB HK BR
    have c2 := GB.out.cellD 2 _ rfl
    have f2 := GB.out.frozen 2
    have s2 := SB5.out.cellD 2 _ (St.cs_com OS.out A' n' c' 2 _ rfl)
    cases ok with
    | true =>
     have EQ2 : Hid (stepS s ⟨2, rsq, rb⟩ = ⟨⟨G.slot, G.ver, max G.fl s.c.fl, G.len, G.me⟩, false, chk0⟩) := EQ.out
     by_cases hm : G.fl < s.c.fl
     ·have M2 : max G.fl s.c.fl = s.c.fl := by omega
      rw [M2] at EQ2
      obtain ⟨C, hC⟩ : ∃ C : Com, (⟨G.slot, G.ver, s.c.fl, G.len, G.me⟩ : Com) = C := ⟨_, rfl⟩
      have CO : Hid C.ok := by show C.ok; rw [← hC]; exact ⟨GO.out.v, OS.out.c.f, GO.out.ml, GO.out.mb⟩
      have GB2 : Hid (Blk (w5.setCell ⟨w4.heap.size, 2, none⟩ (.int .u64 ((s.c.fl : Nat) : Int))) w4.heap.size C.cs 41) := by rw [← hC]; exact GB.out.set 2 (.int .u64 ((s.c.fl : Nat) : Int))
      have SB6 := Lib.hid (SB5.out.setOther ⟨w4.heap.size, 2, none⟩ (.int .u64 ((s.c.fl : Nat) : Int)) (show ¬ sb = w4.heap.size by omega))
      have RB6 := Lib.hid (RB5.out.setOther ⟨w4.heap.size, 2, none⟩ (.int .u64 ((s.c.fl : Nat) : Int)) (show ¬ w.heap.size = w4.heap.size by omega))
      have KB6 := Lib.hid (KB5.out.setCell ⟨w4.heap.size, 2, none⟩ (.int .u64 ((s.c.fl : Nat) : Int)) (fun h => absurd (show w4.heap.size < w.heap.size from h) (by omega)))
      rw [hC] at EQ2
      clear hC M2 GB SB5 RB5 KB5
      have BS2 := Lib.hid (built_st CO.out)
      have OS2 : Hid ((⟨C, false, chk0⟩ : St).ok) := ⟨CO.out, chk0_ok⟩
      go_wp2_with (first | (refine wpList_load_blk (b := w4.heap.size) (o := 0) (ds := (C).cs) GB2.out (fun j v hv => by rw [Nat.zero_add]; exact hv) rfl rfl rfl Tryz.underlying41 rfl (by rw [Com.cs_len CO.out]; exact com_size) ?_) | (refine wpList_build_run BS2.out rfl rfl (by simp [Act.eval, Act.put]) ?_) | (refine wpList_store_blk (b := sb) (o := 0) (ds := (⟨C, false, chk0⟩ : St).cs none 0 0) SB6.out (by rw [St.cs_len OS2.out, St.cs_len OS.out]; decide) (St.cs_one _ _ _ _) rfl rfl rfl rfl (by rw [St.cs_len OS2.out]; exact st_size) ?_))
      intro wz hbz hkz
      rw [splice_all (by rw [St.cs_len OS2.out, St.cs_len OS.out])] at hbz
      have HBZ := Lib.hid hbz
      have HKZ := Lib.hid (KB6.out.trans hkz (T := None) (fun _ h => h) (fun b hb e => absurd e (by omega)))
      have RBZ := Lib.hid (hkz.blk RB6.out (by omega))
      have EQZ := Lib.hid EQ2.out
      clear hbz hkz
      go_wp2
      go_roundw
      case rel => exact ⟨i + 1, (⟨C, false, chk0⟩ : St), none, 0, 0, by omega, by go_num, OS2.out, by (have h := HF2.out; rw [EQZ.out] at h; exact h), HBZ.out, (ChkV.nil _ _), RBZ.out, HKZ.out⟩
      case measure => simp [intOf]; omega
     ·have M2 : max G.fl s.c.fl = G.fl := by omega
      rw [M2] at EQ2
      have EQ3 : Hid (stepS s ⟨2, rsq, rb⟩ = ⟨G, false, chk0⟩) := EQ2
      have BS2 := Lib.hid (built_st GO.out)
      have OS2 : Hid ((⟨G, false, chk0⟩ : St).ok) := ⟨GO.out, chk0_ok⟩
      go_wp2_with (first | (refine wpList_load_blk (b := w4.heap.size) (o := 0) (ds := (G).cs) GB.out (fun j v hv => by rw [Nat.zero_add]; exact hv) rfl rfl rfl Tryz.underlying41 rfl (by rw [Com.cs_len GO.out]; exact com_size) ?_) | (refine wpList_build_run BS2.out rfl rfl (by simp [Act.eval, Act.put]) ?_) | (refine wpList_store_blk (b := sb) (o := 0) (ds := (⟨G, false, chk0⟩ : St).cs none 0 0) SB5.out (by rw [St.cs_len OS2.out, St.cs_len OS.out]; decide) (St.cs_one _ _ _ _) rfl rfl rfl rfl (by rw [St.cs_len OS2.out]; exact st_size) ?_))
      intro wz hbz hkz
      rw [splice_all (by rw [St.cs_len OS2.out, St.cs_len OS.out])] at hbz
      have HBZ := Lib.hid hbz
      have HKZ := Lib.hid (KB5.out.trans hkz (T := None) (fun _ h => h) (fun b hb e => absurd e (by omega)))
      have RBZ := Lib.hid (hkz.blk RB5.out (by omega))
      have EQZ := Lib.hid EQ3.out
      clear hbz hkz
      go_wp2
      go_roundw
      case rel => exact ⟨i + 1, (⟨G, false, chk0⟩ : St), none, 0, 0, by omega, by go_num, OS2.out, by (have h := HF2.out; rw [EQZ.out] at h; exact h), HBZ.out, (ChkV.nil _ _), RBZ.out, HKZ.out⟩
      case measure => simp [intOf]; omega
    | false =>
     have EQ2 : Hid (stepS s ⟨2, rsq, rb⟩ = s) := EQ.out
     exact tl285 _
   have d2 : (rk == 2) = false := by simpa using q2
   by_cases q3 : rk = 3
   ·subst q3
    have GET := Lib.hid (fun w h => rggetk_any rA rn rc rb w h)
    have GO : Hid ((getChk rb).1.ok) := by
     show (getChk rb).1.ok
     unfold getChk
     split
     ·rename_i h; exact chkP_ok BR.out.byte h.1
     ·exact chk0_ok
    have EQ : Hid (stepS s ⟨3, rsq, rb⟩ = if (getChk rb).2 = true then { s with has := true, k := (getChk rb).1 } else s) := by show stepS _ _ = _; unfold stepS; simp
    unfold GotChk at GET
    obtain ⟨G, hG⟩ : ∃ G, (getChk rb).1 = G := ⟨_, rfl⟩
    obtain ⟨ok, hok⟩ : ∃ b, (getChk rb).2 = b := ⟨_, rfl⟩
    rw [hG, hok] at EQ GET
    rw [hG] at GO
    clear hG hok
    unfold Chk.v at GET
    go_wp2_with fail
    refine (GET.out _ BR.out).mono ?_
    rintro e w4 ⟨gA, gn, gc, rfl, m4, k4⟩
    have M4 := Lib.hid m4
    have NW := Lib.hid (Blk.new w4 (chk0.cs none 0 0) 44)
    have KW : Hid (Keeps None w4 (w4.alloc (.cells (chk0.cs none 0 0).toArray 44))) := (Keeps.refl None w4).alloc _
    have K4 := Lib.hid k4
    have S4 : wv.heap.size ≤ w4.heap.size := k4.size
    rw [← chk_zero] at NW KW
    clear m4 k4 x0 x1 x2 GET
    go_wp2_with (refine wpList_store_blk (b := w4.heap.size) (o := 0) (ds := G.cs gA gn gc) NW.out (by rw [Chk.cs_len GO.out]; decide) (Chk.cs_one _ _ _ _) rfl rfl rfl rfl (by rw [Chk.cs_len GO.out]; exact chk_size) ?_)
    intro w5 b5 k5
    rw [splice_all (by rw [Chk.cs_len GO.out]; rfl)] at b5
    have GB := Lib.hid b5
    have K45 := Lib.hid (KW.out.trans k5 (T := None) (fun _ h => h) (fun b hb e => absurd e (by omega)))
    have K35 := Lib.hid (K4.out.trans K45.out (T := None) (fun _ h => h) (fun _ _ h => h))
    have SB5 := Lib.hid (K35.out.blk SB.out (fun h => h))
    have RB5 := Lib.hid (K35.out.blk RB.out (fun h => h))
    have HM5 := Lib.hid (HM.out.later K35.out)
    have KB5 := Lib.hid (HK.out.trans K35.out (T := None) (fun _ h => h) (fun _ _ h => h))
    have M5 := Lib.hid (M4.out.lt.keeps K45.out (fun _ _ h => h))
    clear b5 k5 NW KW K4 K45 M4 SB HM RB HK BR
    cases ok with
    | true =>
     have OS2 : Hid (({ s with has := true, k := G } : St).ok) := ⟨OS.out.c, GO.out⟩
     have EQ2 : Hid (stepS s ⟨3, rsq, rb⟩ = { s with has := true, k := G }) := EQ.out
     have f68 := SB5.out.frozen 68
     have x68 := SB5.out.cellD 68 _ (St.cs_has OS.out A' n' c')
     have K56 := Lib.hid ((Keeps.refl (fun k => k = sb) w5).setCell ⟨sb, 68, none⟩ (.bool true) (fun _ => rfl))
     have SB6 := Lib.hid (SB5.out.set 68 (.bool true))
     have GB6 := Lib.hid (K56.out.blk GB.out (by omega))
     go_wp2_with (first | (refine wpList_load_blk (b := w4.heap.size) (o := 0) (ds := G.cs gA gn gc) GB6.out (fun j v hv => by rw [Nat.zero_add]; exact hv) rfl rfl rfl Tryz.underlying44 rfl (by rw [Chk.cs_len GO.out]; exact chk_size) ?_) | (refine wpList_store_blk (b := sb) (o := 69) (ds := G.cs gA gn gc) SB6.out (by rw [List.length_set, St.cs_len OS.out, Chk.cs_len GO.out]; decide) (Chk.cs_one _ _ _ _) rfl rfl rfl rfl (by rw [Chk.cs_len GO.out]; exact chk_size) ?_))
     intro w6 b6 k6
     rw [St.cs_chg OS.out A' n' c' true GO.out gA gn gc] at b6
     have SB7 := Lib.hid b6
     have K57 := Lib.hid (K56.out.trans k6 (fun _ h => h) (fun _ _ h => h))
     have RB7 := Lib.hid (K57.out.blk RB5.out (by omega))
     have KB7 := Lib.hid (KB5.out.trans K57.out (T := None) (fun _ h => h) (fun b hb e => absurd e (by omega)))
     have M7 : Hid (ChkV w6 (fun b => w.heap.size < b ∧ ¬ b = sb) gA gn gc G.mid) := (M5.out.mono (fun b hb => by have h1 := hb.1; have h2 : wv.heap.size ≤ b := h1; exact ⟨by omega, by omega⟩)).keeps K57.out (fun b hb e => hb.2 e)
     clear b6 k6 SB6 K56 f68 x68 SB5 RB5 KB5 GB6 GB HM5 M5
     go_wp2
     go_roundw
     case rel => exact ⟨i + 1, ({ s with has := true, k := G } : St), gA, gn, gc, by omega, by go_num, OS2.out, by (have h := HF2.out; rw [EQ2.out] at h; exact h), SB7.out, M7.out, RB7.out, KB7.out⟩
     case measure => simp [intOf]; omega
    | false =>
     have EQ2 : Hid (stepS s ⟨3, rsq, rb⟩ = s) := EQ.out
     exact tl285 _
   have d3 : (rk == 3) = false := by simpa using q3
   by_cases q4 : rk = 4
   ·subst q4
    have EQ : Hid (stepS s ⟨4, rsq, rb⟩ = { s with has := false, k := chk0 }) := by show stepS _ _ = _; unfold stepS; simp
    have OS2 : Hid (({ s with has := false, k := chk0 } : St).ok) := ⟨OS.out.c, chk0_ok⟩
    have x68 := SB.out.cellD 68 _ (St.cs_has OS.out A' n' c')
    have f68 := SB.out.frozen 68
    have SB4 := Lib.hid (SB.out.set 68 (.bool false))
    have CZ : (#[.int .i64 0, .int .i64 0, .int .i64 0, .int .i64 0, .int .u8 0, .int .u8 0, .int .u8 0, .int .u8 0, .int .u8 0, .int .u8 0, .int .u8 0, .int .u8 0, .slice none 0 0] : Array Value) = (chk0.cs none 0 0).toArray := chk_zero
    have CZ2 := Lib.hid CZ
    clear CZ
    go_wp2_with (refine wpList_store_blk (b := sb) (o := 69) (ds := chk0.cs none 0 0) SB4.out (by rw [List.length_set, St.cs_len OS.out]; decide) (Chk.cs_one _ _ _ _) rfl rfl rfl (by rw [← CZ2.out]; rfl) chk_size ?_)
    intro w5 b5 k5
    rw [St.cs_chg OS.out A' n' c' false chk0_ok none 0 0] at b5
    have SB5 := Lib.hid b5
    have K35 : Hid (Keeps (fun k => k = sb) wv w5) := ((Keeps.refl (fun k => k = sb) wv).setCell ⟨sb, 68, none⟩ (.bool false) (fun _ => rfl)).trans k5 (fun _ h => h) (fun _ _ h => h)
    have RB5 := Lib.hid (K35.out.blk RB.out (by omega))
    have KB5 := Lib.hid (HK.out.trans K35.out (T := None) (fun _ h => h) (fun b hb e => absurd e (by omega)))
    clear b5 k5 SB4 x0 x1 x2 x68 f68 SB RB HK HM
    go_wp2
    go_roundw
    case rel => exact ⟨i + 1, ({ s with has := false, k := chk0 } : St), none, 0, 0, by omega, by go_num, OS2.out, by (have h := HF2.out; rw [EQ.out] at h; exact h), SB5.out, (ChkV.nil _ _), RB5.out, KB5.out⟩
    case measure => simp [intOf]; omega
   have d4 : (rk == 4) = false := by simpa using q4
   have EQ : Hid (stepS s ⟨rk, rsq, rb⟩ = s) := by show stepS _ _ = _; unfold stepS; simp [q2, q3, q4]
   go_wp2
   go_roundw
   case rel => exact ⟨i + 1, s, A', n', c', by omega, by go_num, OS.out, by (have h := HF2.out; rw [EQ.out] at h; exact h), SB.out, HM.out, RB.out, HK.out⟩
   case measure => simp [intOf]; omega
  ·exact tl192 _
open Go.RowKit
set_option maxRecDepth 100000 in
set_option maxHeartbeats 3200000 in
theorem rgrecs_any (s : St) (os : s.ok) (A : Option Addr) (n cap : Nat) (P : Nat → Prop) (w : World) (hk : ChkV w P A n cap s.k.mid) :
    Calls Tryz.prog 63 #[s.v A n cap] w fun e w' => ∃ v rs, e = .returned v ∧ Copied w w' v rs ∧ rs.map RV.r = recsS s := by
 have OS := Lib.hid os
 have HM := Lib.hid hk
 obtain ⟨w0, hw0⟩ : ∃ x, w.alloc (.cells (s.cs A n cap).toArray 58) = x := ⟨_, rfl⟩
 have SB : Hid (Blk w0 w.heap.size (s.cs A n cap) 58) := by rw [← hw0]; exact Blk.new w (s.cs A n cap) 58
 have KB : Hid (Keeps None w w0) := by rw [← hw0]; exact (Keeps.refl None w).alloc _
 have S0 : w.heap.size < w0.heap.size := SB.out.lt
 have PC := Lib.hid (fun w => rgputc_any s.c os.c w)
 have PK := Lib.hid (fun w h => rgputk_any s.k os.k A n cap w h)
 unfold Com.v at PC
 unfold Chk.v at PK
 unfold St.v
 have RS : Hid (recsS s = (if 0 < (comL s.c).length then [⟨2, 0, comL s.c⟩] else []) ++ (if s.has = true ∧ 0 < (chkL s.k).length then [⟨3, 0, chkL s.k⟩] else [])) := rfl
 obtain ⟨V, hV⟩ : ∃ V, (s.cs A n cap).toArray = V := ⟨_, rfl⟩
 rw [hV] at hw0 ⊢
 clear hV os hk
 go_enter Tryz.func63, Tryz.ntmps63
 exact tl193 _
open Go.RowKit
structure QLJ (W w : World) (B q jb : Nat) (X : QX) (s : FS) (j : JS) : Prop where
  at_ : QAt w B q X s j
  jbe : X.jb = jb
  keeps : Keeps None W w
  le : W.heap.size ≤ B
theorem QLJ.later {W w w' : World} {B q jb : Nat} {X : QX} {s : FS} {j : JS} (h : QLJ W w B q jb X s j) (k : Keeps None w w') : QLJ W w' B q jb X s j := ⟨h.at_.later k, h.jbe, h.keeps.trans k (fun _ h => h) (fun _ _ h => h), h.le⟩
theorem QLJ.alloc {W w : World} {B q jb : Nat} {X : QX} {s : FS} {j : JS} (h : QLJ W w B q jb X s j) (o : Obj) : QLJ W (w.alloc o) B q jb X s j := h.later ((Keeps.refl None w).alloc o)
theorem QLJ.next {W w w' : World} {B q jb : Nat} {X X' : QX} {s s' : FS} {j j' : JS} (h : QLJ W w B q jb X s j) (t : QTurn w w' B q X X' s' j') : QLJ W w' B q jb X' s' j' :=
  ⟨t.at_, t.jb.trans h.jbe, h.keeps.trans t.keeps (fun _ h => h) (fun k hk hS => absurd (h.at_.low k hS) (by have := h.le; omega)), h.le⟩
def QLDone (W w : World) (B q jb : Nat) (X : QX) (r : FS × JS × Int) (e : Ending) (w' : World) : Prop := e = .returned (.int .i64 r.2.2) ∧ ∃ X', QLJ W w' B q jb X' r.1 r.2.1 ∧ QTurn w w' B q X X' r.1 r.2.1
theorem qlappend {W w : World} {B q jb : Nat} {X : QX} {s : FS} {j : JS} {m : Nat} (h : QLJ W w B q jb X s j) (ok : JOk j) (rm : JRm s m)
    (kind : Int) {A : Option Addr} {k cap : Nat} {body : List Int} (hb : Bs w A k cap body) (hk : k ≤ 1000000) :
    Calls Tryz.prog 64 #[.pointer (some ⟨jb, 0, none⟩), .int .i64 kind, .slice A k cap] w (QLDone W w B q jb X (appF s j kind body)) := by
 rw [← h.jbe]
 exact (rjappend_any B q X s j kind A k cap body w h.at_ ok hb hk (by have := rm.st; omega)).mono fun e w' ⟨h1, X', t⟩ => ⟨h1, X', h.jbe ▸ h.next t, t⟩
theorem qlcompact {W w : World} {B q jb : Nat} {X : QX} {s : FS} {j : JS} {m : Nat} (h : QLJ W w B q jb X s j) (ok : JOk j) (hn : 2 ≤ s.er.length) (rm : JRm s (m + 1625))
    {A : Option Addr} {k cap : Nat} {rs : List RV} {P : Nat → Prop} (hr : Rws w A k cap rs) (hb : Bds w P rs) (hk : k ≤ 100000) (hbl : ∀ r ∈ rs, r.b.length ≤ 1000000) :
    Calls Tryz.prog 65 #[.pointer (some ⟨jb, 0, none⟩), .slice A k cap] w (QLDone W w B q jb X (cmpF s j (rs.map RV.r))) := by
 rw [← h.jbe]
 exact (rjcompact_any B q X s j A k cap rs P w h.at_ (by have h1 := h.at_.f.el; omega) ok hr hb hk hbl m rm).mono fun e w' ⟨h1, X', t⟩ => ⟨h1, X', h.jbe ▸ h.next t, t⟩
theorem ChkV.turnQ {w w' : World} {B q : Nat} {R : Nat → Prop} {X X' : QX} {s' : FS} {j' : JS} {A : Option Addr} {n cap : Nat} {zs : List Int} (h : ChkV w (fun b => B ≤ b ∧ ¬ X.S b ∧ R b) A n cap zs) (t : QTurn w w' B q X X' s' j') : ChkV w' (fun b => B ≤ b ∧ ¬ X'.S b ∧ R b) A n cap zs :=
  ⟨h.b.keeps t.keeps (fun b off hn _ e => (h.p b off hn e).1.2.1), fun g off hn e => ⟨⟨(h.p g off hn e).1.1, fun hS => (t.o g hS).elim (h.p g off hn e).1.2.1 (fun h2 => by have := (h.p g off hn e).2; omega), (h.p g off hn e).1.2.2⟩, Nat.lt_of_lt_of_le (h.p g off hn e).2 t.keeps.size⟩⟩
theorem QTurn.out {w w' : World} {B q lb : Nat} {X X' : QX} {s' : FS} {j' : JS} (t : QTurn w w' B q X X' s' j') (hl : ¬ X.S lb) (hw : lb < w.heap.size) : ¬ X'.S lb := fun hS => (t.o lb hS).elim hl (fun h => by omega)
theorem QLJ.keepsG {W w w' : World} {B q jb : Nat} {X : QX} {s : FS} {j : JS} {S : Nat → Prop} (h : QLJ W w B q jb X s j) (k : Keeps S w w') (h1 : ∀ b, X.S b → ¬ S b) (h2 : ∀ b, b < W.heap.size → ¬ S b) : QLJ W w' B q jb X s j :=
  ⟨h.at_.keeps k h1, h.jbe, h.keeps.trans k (fun _ h => h) (fun b hb hs => absurd hs (h2 b hb)), h.le⟩
structure RLG (W w : World) (B q lb jb : Nat) (X : QX) (s : FS) (j : JS) (st : St) (A : Option Addr) (n cap : Nat) : Prop where
  lj : QLJ W w B q jb X s j
  l : Blk w lb (st.lcs jb A n cap) 62
  lS : ¬ X.S lb
  lB : B ≤ lb
  m : ChkV w (fun b => B ≤ b ∧ ¬ X.S b ∧ ¬ b = lb) A n cap st.k.mid
  inv : st.inv
theorem RLG.later {W w w' : World} {B q lb jb : Nat} {X : QX} {s : FS} {j : JS} {st : St} {A : Option Addr} {n cap : Nat} (h : RLG W w B q lb jb X s j st A n cap) (k : Keeps None w w') : RLG W w' B q lb jb X s j st A n cap :=
  ⟨h.lj.later k, k.blk h.l (fun h => h), h.lS, h.lB, h.m.later k, h.inv⟩
theorem RLG.turn {W w w' : World} {B q lb jb : Nat} {X X' : QX} {s s' : FS} {j j' : JS} {st : St} {A : Option Addr} {n cap : Nat} (h : RLG W w B q lb jb X s j st A n cap) (t : QTurn w w' B q X X' s' j') : RLG W w' B q lb jb X' s' j' st A n cap :=
  ⟨h.lj.next t, t.keeps.blk h.l h.lS, t.out h.lS h.l.lt, h.lB, h.m.turnQ t, h.inv⟩
structure RLGT (lb : Nat) (X X' : QX) (w w' : World) : Prop where
  keeps : Keeps (fun b => X.S b ∨ b = lb) w w'
  o : ∀ k, X'.S k → X.S k ∨ w.heap.size ≤ k
theorem RLGT.same {lb : Nat} {X : QX} {w w' : World} (k : Keeps None w w') : RLGT lb X X w w' := ⟨k.mono (fun _ _ h => absurd h (fun h => h)), fun _ h => .inl h⟩
theorem RLGT.ahead {lb : Nat} {X X' : QX} {w w1 w' : World} (k : Keeps None w w1) (t : RLGT lb X X' w1 w') : RLGT lb X X' w w' :=
  ⟨k.trans t.keeps (fun _ h => absurd h (fun h => h)) (fun _ _ h => h), fun b h => (t.o b h).imp id (fun h2 => Nat.le_trans k.size h2)⟩
theorem RLGT.jturn {lb q B : Nat} {X X' : QX} {w w' : World} {s' : FS} {j' : JS} (t : QTurn w w' B q X X' s' j') : RLGT lb X X' w w' := ⟨t.keeps.mono (fun _ _ h => .inl h), t.o⟩
theorem RLGT.trans {lb : Nat} {X X1 X2 : QX} {w w1 w2 : World} (t : RLGT lb X X1 w w1) (u : RLGT lb X1 X2 w1 w2) : RLGT lb X X2 w w2 :=
  ⟨t.keeps.trans u.keeps (fun _ h => h) (fun b hb h => h.elim (fun h1 => (t.o b h1).elim .inl (fun h2 => by omega)) .inr), fun b h => (u.o b h).elim (t.o b) (fun h2 => .inr (Nat.le_trans t.keeps.size h2))⟩
theorem RLGT.store {lb : Nat} {X X1 : QX} {w w1 w2 : World} (t : RLGT lb X X1 w w1) (k : Keeps (fun b => b = lb) w1 w2) : RLGT lb X X1 w w2 :=
  ⟨t.keeps.trans k (fun _ h => h) (fun _ _ h => .inr h), t.o⟩
def RLGDone (W w : World) (B q lb jb : Nat) (X0 : QX) (A0 : Option Addr) (n0 : Nat) (r : FS × JS × St × Int) (e : Ending) (w' : World) : Prop :=
  e = .returned (.int .i64 r.2.2.2) ∧ ∃ X A n cap, RLG W w' B q lb jb X r.1 r.2.1 r.2.2.1 A n cap ∧ RLGT lb X0 X w w' ∧ MidT A0 n0 A n w.heap.size
end Go.Proofs.YtobgbilanibodaaGreat
