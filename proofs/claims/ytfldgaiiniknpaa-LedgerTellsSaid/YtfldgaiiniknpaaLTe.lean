
/- LedgerTells: which bytes any commit, any checkpoint has, and which any bytes say, is the reference's. Conditions: none but the law's own. -/
import Derived.Test.YtfldgaiiniknpaaLFo
namespace Go.Proofs.Ytfldgaiiniknpaa
open Go.RowKit Go.ChangeShapes Go.WideShapes Go.Deep

theorem Chk.cs_setmid {k : Chk} (o : k.ok) (A B : Option Addr) (n cap m cap' : Nat) : (k.cs A n cap).set 12 (.slice B m cap') = k.cs B m cap' := by
  unfold Chk.cs
  have h : ∀ (zs : List Value), zs.length = 8 → (zs ++ [Value.slice A n cap]).set 8 (.slice B m cap') = zs ++ [.slice B m cap'] := fun zs hz => by
    rw [List.set_append_right _ _ (by omega), hz]; rfl
  have := h (k.id.map (.int .u8)) (by rw [List.length_map, o.il])
  show _ :: _ :: _ :: _ :: _ = _
  simp only [List.set_cons_succ]
  rw [this]
theorem built_stk {k : Chk} (h : k.ok) (A : Option Addr) (n cap : Nat) : (Try.prog).built 39 #[(2, .agg (k.cs A n cap).toArray)].toList = some ((⟨com0, false, k⟩ : St).cs A n cap).toArray := by
  rw [built_st0]
  show Instr.fill _ _ [(2, .agg (k.cs A n cap).toArray)] = _
  rw [fill_splice (off := 69) (size := 13) (ds := k.cs A n cap) rfl rfl (Chk.cs_len h A n cap) (by rw [St.cs_len stZ_ok]; decide)]
  unfold Instr.fill
  congr 2
  have e : stZ.cs none 0 0 = (com0.cs ++ [.bool false]) ++ chk0.cs none 0 0 := by simp [St.cs, stZ]
  have l69 : (com0.cs ++ [Value.bool false]).length = 69 := by rw [List.length_append, Com.cs_len com0_ok]; rfl
  rw [e]
  simp only [splice]
  rw [List.take_left' l69, Chk.cs_len h, List.drop_eq_nil_of_le (by rw [List.length_append, l69, Chk.cs_len chk0_ok]; decide), List.append_nil]
  simp [St.cs]
set_option maxRecDepth 100000 in
set_option maxHeartbeats 6400000 in
theorem tells23_any (c : Com) (oc : c.ok) (k : Chk) (ok : k.ok) (A : Option Addr) (n cap : Nat) (Ab : Option Addr) (nb cb : Nat) (zs : List Int) (W : World) (hm : Bs W A n cap k.mid) (hb : Bs W Ab nb cb zs) :
    Calls Try.prog 3 #[c.v, k.v A n cap, .slice Ab nb cb] W fun e W' => e = .returned (.bool true) ∧ Below W.heap.size W W' := by
  have y0 := hm.le
  have x0 := hm.max
  have y1 := hb.le
  have x1 := hb.max
  have OC := Lib.hid oc
  have OK := Lib.hid ok
  have HM := Lib.hid hm
  have HB := Lib.hid hb
  have LM := Lib.hid hm.len
  have LB := Lib.hid hb.len
  obtain ⟨w0, hw0⟩ : ∃ x, (W.alloc (.cells c.cs.toArray 25)).alloc (.cells (k.cs A n cap).toArray 29) = x := ⟨_, rfl⟩
  have CB0 : Hid (Blk w0 W.heap.size c.cs 25) := by rw [← hw0]; exact (Blk.new W c.cs 25).alloc _
  have KB0 : Hid (Blk w0 (W.heap.size + 1) (k.cs A n cap) 29) := by
    rw [← hw0]
    have h := Blk.new (W.alloc (.cells c.cs.toArray 25)) (k.cs A n cap) 29
    rw [show (W.alloc (.cells c.cs.toArray 25)).heap.size = W.heap.size + 1 by simp] at h
    exact h
  have K0 : Hid (Keeps None W w0) := by rw [← hw0]; exact ((Keeps.refl None W).alloc _).alloc _
  have AL := Lib.hid (alive23_any w0)
  unfold Com.v Chk.v
  obtain ⟨VC, hVC⟩ : ∃ V, c.cs.toArray = V := ⟨_, rfl⟩
  obtain ⟨VK, hVK⟩ : ∃ V, (k.cs A n cap).toArray = V := ⟨_, rfl⟩
  rw [hVC, hVK] at hw0 ⊢
  have HVC := Lib.hid hVC
  have HVK := Lib.hid hVK
  clear hm hb oc ok hVC hVK
  go_enter Try.func3, Try.ntmps3
  go_wp2_with fail
  refine AL.out.mono ?_
  rintro e w1 ⟨rfl, k1⟩
  have K1 := Lib.hid (K0.out.trans k1 (T := None) (fun _ h => h) (fun _ _ h => h))
  have CB1 := Lib.hid (k1.blk CB0.out (fun h => h))
  have KB1 := Lib.hid (k1.blk KB0.out (fun h => h))
  have s12 := KB1.out.cellD 12 _ (Chk.cs_mid OK.out A n cap)
  clear k1 CB0 KB0 K0 hw0 AL
  by_cases g1 : 300 < n
  · have d1 : decide (300 < (n : Int)) = true := decide_eq_true (by omega)
    go_wp2
    go_ret
    exact ⟨rfl, K1.out.below (fun _ _ h => h)⟩
  have d1 : decide (300 < (n : Int)) = false := decide_eq_false (by omega)
  by_cases g2 : 300 < nb
  · have d2 : decide (300 < (nb : Int)) = true := decide_eq_true (by omega)
    go_wp2
    go_ret
    exact ⟨rfl, K1.out.below (fun _ _ h => h)⟩
  have d2 : decide (300 < (nb : Int)) = false := decide_eq_false (by omega)
  have GN : Hid (n ≤ 300 ∧ nb ≤ 300) := ⟨by omega, by omega⟩
  clear g1 g2
  have NBx := Lib.hid (Blk.new w1 (chk0.cs none 0 0) 29)
  have KNx : Hid (Keeps None w1 (w1.alloc (.cells (chk0.cs none 0 0).toArray 29))) := (Keeps.refl None w1).alloc _
  rw [← chk_zero] at NBx KNx
  go_wp2_with (first | (refine wpList_load_blk (b := W.heap.size + 1) (o := 0) (ds := k.cs A n cap) KB1.out (fun j v hv => by rw [Nat.zero_add]; exact hv) rfl rfl rfl Try.underlying29 rfl (by rw [Chk.cs_len OK.out]; exact chk_size) ?_) | (refine wpList_store_blk (b := w1.heap.size) (o := 0) (ds := k.cs A n cap) NBx.out (by rw [Chk.cs_len OK.out]; decide) (Chk.cs_one _ _ _ _) rfl rfl rfl rfl (by rw [Chk.cs_len OK.out]; exact chk_size) ?_))
  intro w2 bx kx
  rw [splice_all (by rw [Chk.cs_len OK.out]; rfl)] at bx
  have MB2 := Lib.hid bx
  have X2 := Lib.hid (KNx.out.trans kx (T := None) (fun _ h => h) (fun b hb e => absurd e (by omega)))
  have t12 := (X2.out.blk KB1.out (fun h => h)).cellD 12 _ (Chk.cs_mid OK.out A n cap)
  have M2 := Lib.hid ((HM.out.keeps K1.out (fun _ _ _ _ _ h => h)).keeps X2.out (fun _ _ _ _ _ h => h))
  obtain ⟨bm, hbm⟩ : ∃ x, w1.heap.size = x := ⟨_, rfl⟩
  have BM := Lib.hid hbm
  rw [hbm] at MB2 ⊢
  clear bx kx NBx KNx s12 hbm
  go_wp2_with (at_builtin; refine Hid.out ?_)
  refine Lib.hid ?_
  refine wpList_append_bs (Own.nil _ _) M2.out (by have := GN.out.1; simp; omega) (Nat.le_refl _) rfl rfl rfl rfl rfl ?_
  intro v3 w3 o3 k3
  rw [List.nil_append] at o3
  obtain ⟨A3, c3, rfl, b3, -⟩ := o3.shape
  have q3 := b3.le
  have q4 := b3.max
  rw [LM.out] at o3 b3 q3 ⊢
  have X3 : Hid (Keeps None w1 w3) := X2.out.trans k3 (fun _ h => h) (fun i hi e => by simp [Value.ownBlock] at e)
  have K23 : Keeps None w2 w3 := k3.mono (fun i hi e => by simp [Value.ownBlock] at e)
  have MB3 := Lib.hid (K23.blk MB2.out (fun h => h))
  have MV3 : Hid (ChkV w3 (fun b => w2.heap.size ≤ b) A3 n c3 k.mid) := chkV_own o3
  have m12 := MB3.out.cellD 12 _ (Chk.cs_mid OK.out A n cap)
  have f12 := MB3.out.frozen 12
  have L2 := MB2.out.lt
  have MB4 := Lib.hid (MB3.out.set 12 (.slice A3 n c3))
  rw [Chk.cs_setmid OK.out] at MB4
  have K34 : Hid (Keeps (fun b => b = bm) w3 (w3.setCell ⟨bm, 12, none⟩ (.slice A3 n c3))) := (Keeps.refl (fun b => b = bm) w3).setCell _ _ (fun _ => rfl)
  obtain ⟨w4, hw4⟩ : ∃ x, w3.setCell ⟨bm, 12, none⟩ (.slice A3 n c3) = x := ⟨_, rfl⟩
  rw [hw4] at MB4 K34
  have X4 : Hid (Keeps None w1 w4) := X3.out.trans K34.out (fun _ h => h) (fun b hb e => absurd e (by have := BM.out; omega))
  have MV4 := Lib.hid (MV3.out.keeps K34.out (fun b hb e => by omega))
  have HW4 := Lib.hid hw4
  clear o3 b3 k3 K23 MB2 MB3 MV3 M2 X2 X3 hw4 t12 K34
  have GC1 := Lib.hid (fun w (k : Keeps None W w) A2 c2 (h : Bs w A2 nb c2 zs) => lggetc_any A2 nb c2 zs w h)
  have GC2 := Lib.hid (fun w (k : Keeps None W w) => rggetc_any Ab nb cb zs w (HB.out.keeps k (fun _ _ _ _ _ h => h)))
  have GK1 := Lib.hid (fun w (k : Keeps None W w) A2 c2 (h : Bs w A2 nb c2 zs) => lggetk_any A2 nb c2 zs w h)
  have GK2 := Lib.hid (fun w (k : Keeps None W w) => rggetk_any Ab nb cb zs w (HB.out.keeps k (fun _ _ _ _ _ h => h)))
  have OG : Hid ((getCom zs).1.ok) := by
    show (getCom zs).1.ok
    unfold getCom
    split
    · rename_i h; exact comP_ok HB.out.byte h.1
    · exact com0_ok
  have OH : Hid ((getChk zs).1.ok) := by
    show (getChk zs).1.ok
    unfold getChk
    split
    · rename_i h; exact chkP_ok HB.out.byte h.1
    · exact chk0_ok
  unfold GotChk at GK1 GK2
  obtain ⟨G, hG⟩ : ∃ G, (getCom zs).1 = G := ⟨_, rfl⟩
  obtain ⟨gb, hgb⟩ : ∃ b, (getCom zs).2 = b := ⟨_, rfl⟩
  obtain ⟨H, hH⟩ : ∃ G, (getChk zs).1 = G := ⟨_, rfl⟩
  obtain ⟨hbo, hhb⟩ : ∃ b, (getChk zs).2 = b := ⟨_, rfl⟩
  rw [hG, hgb] at GC1 GC2
  rw [hH, hhb] at GK1 GK2
  rw [hG] at OG
  rw [hH] at OH
  unfold Com.v at GC1 GC2
  unfold Chk.v at GK1 GK2
  clear hG hgb hH hhb
  go_wp2_with (at_builtin; refine Hid.out ?_)
  rw [HW4.out]
  have KW4 : Hid (Keeps None W w4) := K1.out.trans X4.out (fun _ h => h) (fun _ _ h => h)
  have Y4 := Lib.hid (Keeps.refl None w4)
  have CB4 := Lib.hid (X4.out.blk CB1.out (fun h => h))
  have KB4 := Lib.hid (X4.out.blk KB1.out (fun h => h))
  have HM4 := Lib.hid (HM.out.keeps KW4.out (fun _ _ _ _ _ h => h))
  clear HW4 BM m12 f12 L2 X4 CB1 KB1 HM
  -- the bytes copied: 4 the world ahead's mark, 5 behind, Z5 their fact
  refine Lib.hid ?_
  refine wpList_append_bs (Own.nil _ _) (HB.out.keeps (KW4.out.trans Y4.out (T := None) (fun _ h => h) (fun _ _ h => h)) (fun _ _ _ _ _ h => h)) (by have := GN.out.2; simp; omega) (Nat.le_refl _) rfl rfl rfl rfl rfl ?_
  intro v5 w5 o5 k5
  rw [List.nil_append] at o5
  obtain ⟨A5, c5, rfl, b5, -⟩ := o5.shape
  have q5 := b5.le
  have r5 := b5.max
  rw [LB.out] at b5 q5 ⊢
  have Z5 := Lib.hid b5
  have kz := k5.mono (T := None) (fun i hi e => by simp [Value.ownBlock] at e)
  have Y5 := Lib.hid (Y4.out.trans kz (T := None) (fun _ h => h) (fun _ _ h => h))
  try have T5 := Lib.hid (T4.out.trans kz (T := None) (fun _ h => h) (fun _ _ h => h))
  try have U5 := Lib.hid (U4.out.trans kz (T := None) (fun _ h => h) (fun _ _ h => h))
  try have V5 := Lib.hid (V4.out.trans kz (T := None) (fun _ h => h) (fun _ _ h => h))
  try clear T4
  try clear U4
  try clear V4
  clear o5 k5 b5 kz
  go_wp2_with fail
  refine (GC1.out _ (KW4.out.trans Y5.out (T := None) (fun _ h => h) (fun _ _ h => h)) _ _ Z5.out).mono ?_
  rintro e w6 ⟨rfl, kz⟩
  have Y6 := Lib.hid (Y5.out.trans kz (T := None) (fun _ h => h) (fun _ _ h => h))
  try have T6 := Lib.hid (T5.out.trans kz (T := None) (fun _ h => h) (fun _ _ h => h))
  try have U6 := Lib.hid (U5.out.trans kz (T := None) (fun _ h => h) (fun _ _ h => h))
  try have V6 := Lib.hid (V5.out.trans kz (T := None) (fun _ h => h) (fun _ _ h => h))
  try clear T5
  try clear U5
  try clear V5
  clear kz GC1 Z5
  -- a commit laid into a new block: 6 the world ahead's mark, 7 the mark behind, p1 the block's name, P7 the block's fact
  have NBx := Lib.hid (Blk.new w6 com0.cs 25)
  have KNx : Hid (Keeps None w6 (w6.alloc (.cells com0.cs.toArray 25))) := (Keeps.refl None w6).alloc _
  rw [← com_zero] at NBx KNx
  go_wp2_with (refine wpList_store_blk (b := w6.heap.size) (o := 0) (ds := G.cs) NBx.out (by rw [Com.cs_len OG.out]; decide) (Com.cs_one _) rfl rfl rfl rfl (by rw [Com.cs_len OG.out]; exact com_size) ?_)
  intro w7 bx kx
  rw [splice_all (by rw [Com.cs_len OG.out]; rfl)] at bx
  have P7 := Lib.hid bx
  have kz := KNx.out.trans kx (T := None) (fun _ h => h) (fun b hb e => absurd e (by omega))
  have Y7 := Lib.hid (Y6.out.trans kz (T := None) (fun _ h => h) (fun _ _ h => h))
  try have T7 := Lib.hid (T6.out.trans kz (T := None) (fun _ h => h) (fun _ _ h => h))
  try have U7 := Lib.hid (U6.out.trans kz (T := None) (fun _ h => h) (fun _ _ h => h))
  try have V7 := Lib.hid (V6.out.trans kz (T := None) (fun _ h => h) (fun _ _ h => h))
  try clear T6
  try clear U6
  try clear V6
  obtain ⟨p1, hpx⟩ : ∃ x, w6.heap.size = x := ⟨_, rfl⟩
  rw [hpx] at P7 ⊢
  clear bx kx kz NBx KNx hpx
  have T7 := Lib.hid (Keeps.refl None w7)
  go_wp2_with fail
  refine (GC2.out _ (KW4.out.trans Y7.out (T := None) (fun _ h => h) (fun _ _ h => h))).mono ?_
  rintro e w8 ⟨rfl, kz⟩
  have Y8 := Lib.hid (Y7.out.trans kz (T := None) (fun _ h => h) (fun _ _ h => h))
  try have T8 := Lib.hid (T7.out.trans kz (T := None) (fun _ h => h) (fun _ _ h => h))
  try have U8 := Lib.hid (U7.out.trans kz (T := None) (fun _ h => h) (fun _ _ h => h))
  try have V8 := Lib.hid (V7.out.trans kz (T := None) (fun _ h => h) (fun _ _ h => h))
  try clear T7
  try clear U7
  try clear V7
  clear kz GC2
  -- a commit laid into a new block: 8 the world ahead's mark, 9 the mark behind, p2 the block's name, P9 the block's fact
  have NBx := Lib.hid (Blk.new w8 com0.cs 25)
  have KNx : Hid (Keeps None w8 (w8.alloc (.cells com0.cs.toArray 25))) := (Keeps.refl None w8).alloc _
  rw [← com_zero] at NBx KNx
  go_wp2_with (refine wpList_store_blk (b := w8.heap.size) (o := 0) (ds := G.cs) NBx.out (by rw [Com.cs_len OG.out]; decide) (Com.cs_one _) rfl rfl rfl rfl (by rw [Com.cs_len OG.out]; exact com_size) ?_)
  intro w9 bx kx
  rw [splice_all (by rw [Com.cs_len OG.out]; rfl)] at bx
  have P9 := Lib.hid bx
  have kz := KNx.out.trans kx (T := None) (fun _ h => h) (fun b hb e => absurd e (by omega))
  have Y9 := Lib.hid (Y8.out.trans kz (T := None) (fun _ h => h) (fun _ _ h => h))
  try have T9 := Lib.hid (T8.out.trans kz (T := None) (fun _ h => h) (fun _ _ h => h))
  try have U9 := Lib.hid (U8.out.trans kz (T := None) (fun _ h => h) (fun _ _ h => h))
  try have V9 := Lib.hid (V8.out.trans kz (T := None) (fun _ h => h) (fun _ _ h => h))
  try clear T8
  try clear U8
  try clear V8
  obtain ⟨p2, hpx⟩ : ∃ x, w8.heap.size = x := ⟨_, rfl⟩
  rw [hpx] at P9 ⊢
  clear bx kx kz NBx KNx hpx
  have U9 := Lib.hid (Keeps.refl None w9)
  go_wp2_with (at_builtin; refine Hid.out ?_)
  -- the bytes copied: 9 the world ahead's mark, 10 behind, Z10 their fact
  refine Lib.hid ?_
  refine wpList_append_bs (Own.nil _ _) (HB.out.keeps (KW4.out.trans Y9.out (T := None) (fun _ h => h) (fun _ _ h => h)) (fun _ _ _ _ _ h => h)) (by have := GN.out.2; simp; omega) (Nat.le_refl _) rfl rfl rfl rfl rfl ?_
  intro v10 w10 o10 k10
  rw [List.nil_append] at o10
  obtain ⟨A10, c10, rfl, b10, -⟩ := o10.shape
  have q10 := b10.le
  have r10 := b10.max
  rw [LB.out] at b10 q10 ⊢
  have Z10 := Lib.hid b10
  have kz := k10.mono (T := None) (fun i hi e => by simp [Value.ownBlock] at e)
  have Y10 := Lib.hid (Y9.out.trans kz (T := None) (fun _ h => h) (fun _ _ h => h))
  try have T10 := Lib.hid (T9.out.trans kz (T := None) (fun _ h => h) (fun _ _ h => h))
  try have U10 := Lib.hid (U9.out.trans kz (T := None) (fun _ h => h) (fun _ _ h => h))
  try have V10 := Lib.hid (V9.out.trans kz (T := None) (fun _ h => h) (fun _ _ h => h))
  try clear T9
  try clear U9
  try clear V9
  clear o10 k10 b10 kz
  go_wp2_with fail
  refine (GK1.out _ (KW4.out.trans Y10.out (T := None) (fun _ h => h) (fun _ _ h => h)) _ _ Z10.out).mono ?_
  rintro e w11 ⟨A11, n11, c11, rfl, m11, kz⟩
  have M11 := Lib.hid m11
  have Y11 := Lib.hid (Y10.out.trans kz (T := None) (fun _ h => h) (fun _ _ h => h))
  try have T11 := Lib.hid (T10.out.trans kz (T := None) (fun _ h => h) (fun _ _ h => h))
  try have U11 := Lib.hid (U10.out.trans kz (T := None) (fun _ h => h) (fun _ _ h => h))
  try have V11 := Lib.hid (V10.out.trans kz (T := None) (fun _ h => h) (fun _ _ h => h))
  try clear T10
  try clear U10
  try clear V10
  clear kz GK1 Z10 m11
  -- the same of a checkpoint: A11 n11 c11 its slice, M11 its bytes' fact ahead, M12 behind
  have NBx := Lib.hid (Blk.new w11 (chk0.cs none 0 0) 29)
  have KNx : Hid (Keeps None w11 (w11.alloc (.cells (chk0.cs none 0 0).toArray 29))) := (Keeps.refl None w11).alloc _
  rw [← chk_zero] at NBx KNx
  go_wp2_with (refine wpList_store_blk (b := w11.heap.size) (o := 0) (ds := H.cs A11 n11 c11) NBx.out (by rw [Chk.cs_len OH.out]; decide) (Chk.cs_one _ _ _ _) rfl rfl rfl rfl (by rw [Chk.cs_len OH.out]; exact chk_size) ?_)
  intro w12 bx kx
  rw [splice_all (by rw [Chk.cs_len OH.out]; rfl)] at bx
  have P12 := Lib.hid bx
  have kz := KNx.out.trans kx (T := None) (fun _ h => h) (fun b hb e => absurd e (by omega))
  have M12 := Lib.hid (M11.out.later kz)
  have Y12 := Lib.hid (Y11.out.trans kz (T := None) (fun _ h => h) (fun _ _ h => h))
  try have T12 := Lib.hid (T11.out.trans kz (T := None) (fun _ h => h) (fun _ _ h => h))
  try have U12 := Lib.hid (U11.out.trans kz (T := None) (fun _ h => h) (fun _ _ h => h))
  try have V12 := Lib.hid (V11.out.trans kz (T := None) (fun _ h => h) (fun _ _ h => h))
  try clear T11
  try clear U11
  try clear V11
  obtain ⟨p3, hpx⟩ : ∃ x, w11.heap.size = x := ⟨_, rfl⟩
  rw [hpx] at P12 ⊢
  clear bx kx kz NBx KNx hpx
  have V12 := Lib.hid (Keeps.refl None w12)
  go_wp2_with fail
  refine (GK2.out _ (KW4.out.trans Y12.out (T := None) (fun _ h => h) (fun _ _ h => h))).mono ?_
  rintro e w13 ⟨A13, n13, c13, rfl, m13, kz⟩
  have M13 := Lib.hid m13
  have Y13 := Lib.hid (Y12.out.trans kz (T := None) (fun _ h => h) (fun _ _ h => h))
  try have T13 := Lib.hid (T12.out.trans kz (T := None) (fun _ h => h) (fun _ _ h => h))
  try have U13 := Lib.hid (U12.out.trans kz (T := None) (fun _ h => h) (fun _ _ h => h))
  try have V13 := Lib.hid (V12.out.trans kz (T := None) (fun _ h => h) (fun _ _ h => h))
  try clear T12
  try clear U12
  try clear V12
  clear kz GK2 m13
  -- the same of a checkpoint: A13 n13 c13 its slice, M13 its bytes' fact ahead, M14 behind
  have NBx := Lib.hid (Blk.new w13 (chk0.cs none 0 0) 29)
  have KNx : Hid (Keeps None w13 (w13.alloc (.cells (chk0.cs none 0 0).toArray 29))) := (Keeps.refl None w13).alloc _
  rw [← chk_zero] at NBx KNx
  go_wp2_with (refine wpList_store_blk (b := w13.heap.size) (o := 0) (ds := H.cs A13 n13 c13) NBx.out (by rw [Chk.cs_len OH.out]; decide) (Chk.cs_one _ _ _ _) rfl rfl rfl rfl (by rw [Chk.cs_len OH.out]; exact chk_size) ?_)
  intro w14 bx kx
  rw [splice_all (by rw [Chk.cs_len OH.out]; rfl)] at bx
  have P14 := Lib.hid bx
  have kz := KNx.out.trans kx (T := None) (fun _ h => h) (fun b hb e => absurd e (by omega))
  have M14 := Lib.hid (M13.out.later kz)
  have Y14 := Lib.hid (Y13.out.trans kz (T := None) (fun _ h => h) (fun _ _ h => h))
  try have T14 := Lib.hid (T13.out.trans kz (T := None) (fun _ h => h) (fun _ _ h => h))
  try have U14 := Lib.hid (U13.out.trans kz (T := None) (fun _ h => h) (fun _ _ h => h))
  try have V14 := Lib.hid (V13.out.trans kz (T := None) (fun _ h => h) (fun _ _ h => h))
  try clear T13
  try clear U13
  try clear V13
  obtain ⟨p4, hpx⟩ : ∃ x, w13.heap.size = x := ⟨_, rfl⟩
  rw [hpx] at P14 ⊢
  clear bx kx kz NBx KNx hpx
  have CBE := Lib.hid (Y14.out.blk CB4.out (fun h => h))
  have KBE := Lib.hid (Y14.out.blk KB4.out (fun h => h))
  have HME := Lib.hid (HM4.out.keeps Y14.out (fun _ _ _ _ _ h => h))
  have MBE := Lib.hid (Y14.out.blk MB4.out (fun h => h))
  have MVE := Lib.hid (MV4.out.later Y14.out)
  have P1E := Lib.hid (T14.out.blk P7.out (fun h => h))
  have P2E := Lib.hid (U14.out.blk P9.out (fun h => h))
  have P3E := Lib.hid (V14.out.blk P12.out (fun h => h))
  have M3E := Lib.hid (M12.out.later V14.out)
  have KE : Hid (Keeps None W w14) := KW4.out.trans Y14.out (fun _ h => h) (fun _ _ h => h)
  clear CB4 KB4 HM4 MB4 MV4 P7 P9 P12 M12 Y4 Y5 Y6 Y7 Y8 Y9 Y10 Y11 Y12 Y13 Y14 T14 U14 V14 M11 M13 KW4 K1 d1 d2
  obtain ⟨bK, hbK⟩ : ∃ x, W.heap.size + 1 = x := ⟨_, rfl⟩
  rw [hbK] at KBE ⊢
  obtain ⟨bC, hbC⟩ : ∃ x, W.heap.size = x := ⟨_, rfl⟩
  have HBC := Lib.hid hbC
  rw [hbC] at CBE ⊢
  clear hbK hbC
  have LDS : Hid (∀ w', Keeps None w14 w' → (Instr.loadAt 25 (.pointer (some ⟨bC, 0, none⟩))).run Try.prog w' = .ok (.agg VC) w' ∧ (Instr.loadAt 29 (.pointer (some ⟨bm, 0, none⟩))).run Try.prog w' = .ok (.agg (k.cs A3 n c3).toArray) w' ∧ (Instr.loadAt 29 (.pointer (some ⟨bK, 0, none⟩))).run Try.prog w' = .ok (.agg VK) w' ∧ (Instr.loadAt 25 (.pointer (some ⟨p1, 0, none⟩))).run Try.prog w' = .ok (.agg G.cs.toArray) w' ∧ (Instr.loadAt 25 (.pointer (some ⟨p2, 0, none⟩))).run Try.prog w' = .ok (.agg G.cs.toArray) w' ∧ (Instr.loadAt 29 (.pointer (some ⟨p3, 0, none⟩))).run Try.prog w' = .ok (.agg (H.cs A11 n11 c11).toArray) w' ∧ (Instr.loadAt 29 (.pointer (some ⟨p4, 0, none⟩))).run Try.prog w' = .ok (.agg (H.cs A13 n13 c13).toArray) w') := fun w' kk => by
    rw [← HVC.out, ← HVK.out]
    exact ⟨run_load_com (kk.blk CBE.out (fun h => h)) (Com.cs_len OC.out), run_load_chk (kk.blk MBE.out (fun h => h)) (Chk.cs_len OK.out _ _ _), run_load_chk (kk.blk KBE.out (fun h => h)) (Chk.cs_len OK.out _ _ _), run_load_com (kk.blk P1E.out (fun h => h)) (Com.cs_len OG.out), run_load_com (kk.blk P2E.out (fun h => h)) (Com.cs_len OG.out), run_load_chk (kk.blk P3E.out (fun h => h)) (Chk.cs_len OH.out _ _ _), run_load_chk (kk.blk P14.out (fun h => h)) (Chk.cs_len OH.out _ _ _)⟩
  have PC1 := Lib.hid (fun w => lgputc_any c OC.out w)
  have PC2 := Lib.hid (fun w => rgputc_any c OC.out w)
  have PK1 := Lib.hid (fun w h => lgputk_any k OK.out A3 n c3 w h)
  have PK2 := Lib.hid (fun w h => rgputk_any k OK.out A n cap w h)
  unfold Com.v at PC1 PC2
  unfold Chk.v at PK1 PK2
  rw [HVC.out] at PC1 PC2
  rw [HVK.out] at PK2
  have SM := Lib.hid (fun w h1 h2 => rgsame_refl ⟨com0, false, H⟩ ⟨com0, false, H⟩ rfl ⟨com0_ok, OH.out⟩ ⟨com0_ok, OH.out⟩ A11 A13 n11 c11 n13 c13 w h1 h2)
  have EC : Hid (∀ x y w, (do eqGuard .eql 25 x y (.agg G.cs.toArray) (.agg G.cs.toArray); binOp .eql 25 (.agg G.cs.toArray) (.agg G.cs.toArray) : Sem Value).run Try.prog w = .ok (.bool true) w) := fun x y w => by rw [run_eq_com G G OG.out OG.out x y w, eqComB_refl]
  have BU1 := Lib.hid (built_stk OH.out A11 n11 c11)
  have BU2 := Lib.hid (built_stk OH.out A13 n13 c13)
  obtain ⟨sc, hsc⟩ : ∃ x, strOf (comL c) = x := ⟨_, rfl⟩
  obtain ⟨sk, hsk⟩ : ∃ x, strOf (chkL k) = x := ⟨_, rfl⟩
  have HSC := Lib.hid hsc
  have HSK := Lib.hid hsk
  have e1 : (sc.toList == sc.toList) = true := by simp
  have e2 : (sk.toList == sk.toList) = true := by simp
  have e3 : (gb == gb) = true := by simp
  have e4 : (hbo == hbo) = true := by simp
  have KR := Lib.hid (Keeps.refl None w14)
  clear hsc hsk CBE KBE MBE P1E P2E P3E P14 OC OK OG HVC HVK
  go_wp2
  obtain ⟨mS, mh⟩ : ∃ S : World → Prop, ∀ w', S w' ↔ (((Instr.loadAt 25 (.pointer (some ⟨bC, 0, none⟩))).run Try.prog w' = .ok (.agg VC) w') ∧ ((Instr.loadAt 29 (.pointer (some ⟨bm, 0, none⟩))).run Try.prog w' = .ok (.agg (k.cs A3 n c3).toArray) w') ∧ ((Instr.loadAt 29 (.pointer (some ⟨bK, 0, none⟩))).run Try.prog w' = .ok (.agg VK) w') ∧ ((Instr.loadAt 25 (.pointer (some ⟨p1, 0, none⟩))).run Try.prog w' = .ok (.agg G.cs.toArray) w') ∧ ((Instr.loadAt 25 (.pointer (some ⟨p2, 0, none⟩))).run Try.prog w' = .ok (.agg G.cs.toArray) w') ∧ ((Instr.loadAt 29 (.pointer (some ⟨p3, 0, none⟩))).run Try.prog w' = .ok (.agg (H.cs A11 n11 c11).toArray) w') ∧ ((Instr.loadAt 29 (.pointer (some ⟨p4, 0, none⟩))).run Try.prog w' = .ok (.agg (H.cs A13 n13 c13).toArray) w')) := ⟨_, fun _ => Iff.rfl⟩
  have mk0 : ∀ x : Memb mS, (Instr.loadAt 25 (.pointer (some ⟨bC, 0, none⟩))).run Try.prog x.at_ = .ok (.agg VC) x.at_ := fun x => ((mh _).1 x.is).1
  have mk1 : ∀ x : Memb mS, (Instr.loadAt 29 (.pointer (some ⟨bm, 0, none⟩))).run Try.prog x.at_ = .ok (.agg (k.cs A3 n c3).toArray) x.at_ := fun x => ((mh _).1 x.is).2.1
  have mk2 : ∀ x : Memb mS, (Instr.loadAt 29 (.pointer (some ⟨bK, 0, none⟩))).run Try.prog x.at_ = .ok (.agg VK) x.at_ := fun x => ((mh _).1 x.is).2.2.1
  have mk3 : ∀ x : Memb mS, (Instr.loadAt 25 (.pointer (some ⟨p1, 0, none⟩))).run Try.prog x.at_ = .ok (.agg G.cs.toArray) x.at_ := fun x => ((mh _).1 x.is).2.2.2.1
  have mk4 : ∀ x : Memb mS, (Instr.loadAt 25 (.pointer (some ⟨p2, 0, none⟩))).run Try.prog x.at_ = .ok (.agg G.cs.toArray) x.at_ := fun x => ((mh _).1 x.is).2.2.2.2.1
  have mk5 : ∀ x : Memb mS, (Instr.loadAt 29 (.pointer (some ⟨p3, 0, none⟩))).run Try.prog x.at_ = .ok (.agg (H.cs A11 n11 c11).toArray) x.at_ := fun x => ((mh _).1 x.is).2.2.2.2.2.1
  have mk6 : ∀ x : Memb mS, (Instr.loadAt 29 (.pointer (some ⟨p4, 0, none⟩))).run Try.prog x.at_ = .ok (.agg (H.cs A13 n13 c13).toArray) x.at_ := fun x => ((mh _).1 x.is).2.2.2.2.2.2
  have mn : Nonempty (Memb mS) := ⟨⟨(w14).drew, (mh _).2 ⟨(LDS.out _ KR.out.drew).1, (LDS.out _ KR.out.drew).2.1, (LDS.out _ KR.out.drew).2.2.1, (LDS.out _ KR.out.drew).2.2.2.1, (LDS.out _ KR.out.drew).2.2.2.2.1, (LDS.out _ KR.out.drew).2.2.2.2.2.1, (LDS.out _ KR.out.drew).2.2.2.2.2.2⟩⟩⟩
  have mH := Lib.hid mh
  clear mh
  refine wp_region_mix2 [1, 4, 9, 12, 36] (InS mS) (by kernel_rfl) (by kernel_rfl) (InS.mk ((mH.out _).2 ⟨(LDS.out _ KR.out.drew).1, (LDS.out _ KR.out.drew).2.1, (LDS.out _ KR.out.drew).2.2.1, (LDS.out _ KR.out.drew).2.2.2.1, (LDS.out _ KR.out.drew).2.2.2.2.1, (LDS.out _ KR.out.drew).2.2.2.2.2.1, (LDS.out _ KR.out.drew).2.2.2.2.2.2⟩)) ?_
  refine wpMix2_seg 1 (InS mS) (by kernel_rfl) (by decide) (cl_base [] rfl (by kernel_rfl)) ?_
  simp only [List.take_succ_cons, List.take_zero, List.drop_succ_cons, List.drop_zero]
  repeat (first | go_big_quiet_step (fail) | (go_big_quiet_want; first | refine quiet_load mk0 rfl rfl rfl (by simp only [Act.put, List.setIfInBounds_toArray, List.set_cons_succ, List.set_cons_zero]; rfl) ?_; go_big_quiet_on | refine quiet_load mk1 rfl rfl rfl (by simp only [Act.put, List.setIfInBounds_toArray, List.set_cons_succ, List.set_cons_zero]; rfl) ?_; go_big_quiet_on | refine quiet_load mk2 rfl rfl rfl (by simp only [Act.put, List.setIfInBounds_toArray, List.set_cons_succ, List.set_cons_zero]; rfl) ?_; go_big_quiet_on | refine quiet_load mk3 rfl rfl rfl (by simp only [Act.put, List.setIfInBounds_toArray, List.set_cons_succ, List.set_cons_zero]; rfl) ?_; go_big_quiet_on | refine quiet_load mk4 rfl rfl rfl (by simp only [Act.put, List.setIfInBounds_toArray, List.set_cons_succ, List.set_cons_zero]; rfl) ?_; go_big_quiet_on | refine quiet_load mk5 rfl rfl rfl (by simp only [Act.put, List.setIfInBounds_toArray, List.set_cons_succ, List.set_cons_zero]; rfl) ?_; go_big_quiet_on | refine quiet_load mk6 rfl rfl rfl (by simp only [Act.put, List.setIfInBounds_toArray, List.set_cons_succ, List.set_cons_zero]; rfl) ?_; go_big_quiet_on | refine quiet_bin (d := 78) (fun w => EC.out _ _ w) rfl rfl rfl rfl (by simp only [Act.put, List.setIfInBounds_toArray, List.set_cons_succ, List.set_cons_zero]; rfl) ?_; go_big_quiet_on | refine quiet_build (d := 92) BU1.out rfl rfl (by simp [Act.eval]) (by simp only [Act.put, List.setIfInBounds_toArray, List.set_cons_succ, List.set_cons_zero]; rfl) ?_; go_big_quiet_on | refine quiet_build (d := 94) BU2.out rfl rfl (by simp [Act.eval]) (by simp only [Act.put, List.setIfInBounds_toArray, List.set_cons_succ, List.set_cons_zero]; rfl) ?_; go_big_quiet_on))
  refine wpQuiet_nil ?_
  refine wpMix2_eff (by kernel_rfl) ?_
  -- PC1.out _ the contract, KR.out.drew the keeping ahead, a the mark behind, comL c the bytes
  go_wp2_with fail
  refine (PC1.out _).mono ?_
  rintro e wa ⟨va, rfl, oa, ka⟩
  obtain ⟨Aa, ca, rfl, ba, -⟩ := oa.shape
  have qa := ba.le
  have ra := ba.max
  have Ba := Lib.hid ba
  have Ka := Lib.hid ka
  have Xa := Lib.hid (KR.out.drew.trans ka (T := None) (fun _ h => h) (fun _ _ h => h))
  obtain ⟨la, hla⟩ : ∃ x, (comL c).length = x := ⟨_, rfl⟩
  rw [hla] at Ba qa ⊢
  clear oa ka ba hla
  go_wp2
  obtain ⟨mL2S, mL2h⟩ : ∃ S : World → Prop, ∀ w', S w' ↔ (((convert 27 9 (.slice Aa la ca)).run Try.prog w' = .ok (.string sc) w')) := ⟨_, fun _ => Iff.rfl⟩
  have mL2k0 : ∀ x : Memb mL2S, (convert 27 9 (.slice Aa la ca)).run Try.prog x.at_ = .ok (.string sc) x.at_ := fun x => ((mL2h _).1 x.is)
  have mL2n : Nonempty (Memb mL2S) := ⟨⟨_, (mL2h _).2 (HSC.out ▸ run_str Ba.out)⟩⟩
  have mL2H := Lib.hid mL2h
  clear mL2h
  refine MixK2.late (D := InS mL2S) (x := 2) (by kernel_rfl) (cls_cons (InS.mk ((mL2H.out _).2 (HSC.out ▸ run_str Ba.out))) (cls_base (InS.mk ((mH.out _).2 (LDS.out _ Xa.out))))) ?_
  refine wpMix2_seg 1 (InS mL2S) (by kernel_rfl) (by decide) (cl_one rfl) ?_
  simp only [List.take_succ_cons, List.take_zero, List.drop_succ_cons, List.drop_zero]
  repeat (first | go_big_quiet_step (fail) | (go_big_quiet_want; first | refine quiet_load mk0 rfl rfl rfl (by simp only [Act.put, List.setIfInBounds_toArray, List.set_cons_succ, List.set_cons_zero]; rfl) ?_; go_big_quiet_on | refine quiet_load mk1 rfl rfl rfl (by simp only [Act.put, List.setIfInBounds_toArray, List.set_cons_succ, List.set_cons_zero]; rfl) ?_; go_big_quiet_on | refine quiet_load mk2 rfl rfl rfl (by simp only [Act.put, List.setIfInBounds_toArray, List.set_cons_succ, List.set_cons_zero]; rfl) ?_; go_big_quiet_on | refine quiet_load mk3 rfl rfl rfl (by simp only [Act.put, List.setIfInBounds_toArray, List.set_cons_succ, List.set_cons_zero]; rfl) ?_; go_big_quiet_on | refine quiet_load mk4 rfl rfl rfl (by simp only [Act.put, List.setIfInBounds_toArray, List.set_cons_succ, List.set_cons_zero]; rfl) ?_; go_big_quiet_on | refine quiet_load mk5 rfl rfl rfl (by simp only [Act.put, List.setIfInBounds_toArray, List.set_cons_succ, List.set_cons_zero]; rfl) ?_; go_big_quiet_on | refine quiet_load mk6 rfl rfl rfl (by simp only [Act.put, List.setIfInBounds_toArray, List.set_cons_succ, List.set_cons_zero]; rfl) ?_; go_big_quiet_on | refine quiet_bin (d := 78) (fun w => EC.out _ _ w) rfl rfl rfl rfl (by simp only [Act.put, List.setIfInBounds_toArray, List.set_cons_succ, List.set_cons_zero]; rfl) ?_; go_big_quiet_on | refine quiet_build (d := 92) BU1.out rfl rfl (by simp [Act.eval]) (by simp only [Act.put, List.setIfInBounds_toArray, List.set_cons_succ, List.set_cons_zero]; rfl) ?_; go_big_quiet_on | refine quiet_build (d := 94) BU2.out rfl rfl (by simp [Act.eval]) (by simp only [Act.put, List.setIfInBounds_toArray, List.set_cons_succ, List.set_cons_zero]; rfl) ?_; go_big_quiet_on | refine quiet_conv mL2k0 rfl rfl rfl (by simp only [Act.put, List.setIfInBounds_toArray, List.set_cons_succ, List.set_cons_zero]; rfl) ?_; go_big_quiet_on | refine quiet_bin (d := 78) (fun w => EC.out _ _ w) rfl rfl rfl rfl (by simp only [Act.put, List.setIfInBounds_toArray, List.set_cons_succ, List.set_cons_zero]; rfl) ?_; go_big_quiet_on | refine quiet_build (d := 92) BU1.out rfl rfl (by simp [Act.eval]) (by simp only [Act.put, List.setIfInBounds_toArray, List.set_cons_succ, List.set_cons_zero]; rfl) ?_; go_big_quiet_on | refine quiet_build (d := 94) BU2.out rfl rfl (by simp [Act.eval]) (by simp only [Act.put, List.setIfInBounds_toArray, List.set_cons_succ, List.set_cons_zero]; rfl) ?_; go_big_quiet_on))
  refine wpQuiet_nil ?_
  refine wpMix2_seg 1 (InS mS) (by kernel_rfl) (by decide) (cl_base [2] rfl (by kernel_rfl)) ?_
  simp only [List.take_succ_cons, List.take_zero, List.drop_succ_cons, List.drop_zero]
  repeat (first | go_big_quiet_step (fail) | (go_big_quiet_want; first | refine quiet_load mk0 rfl rfl rfl (by simp only [Act.put, List.setIfInBounds_toArray, List.set_cons_succ, List.set_cons_zero]; rfl) ?_; go_big_quiet_on | refine quiet_load mk1 rfl rfl rfl (by simp only [Act.put, List.setIfInBounds_toArray, List.set_cons_succ, List.set_cons_zero]; rfl) ?_; go_big_quiet_on | refine quiet_load mk2 rfl rfl rfl (by simp only [Act.put, List.setIfInBounds_toArray, List.set_cons_succ, List.set_cons_zero]; rfl) ?_; go_big_quiet_on | refine quiet_load mk3 rfl rfl rfl (by simp only [Act.put, List.setIfInBounds_toArray, List.set_cons_succ, List.set_cons_zero]; rfl) ?_; go_big_quiet_on | refine quiet_load mk4 rfl rfl rfl (by simp only [Act.put, List.setIfInBounds_toArray, List.set_cons_succ, List.set_cons_zero]; rfl) ?_; go_big_quiet_on | refine quiet_load mk5 rfl rfl rfl (by simp only [Act.put, List.setIfInBounds_toArray, List.set_cons_succ, List.set_cons_zero]; rfl) ?_; go_big_quiet_on | refine quiet_load mk6 rfl rfl rfl (by simp only [Act.put, List.setIfInBounds_toArray, List.set_cons_succ, List.set_cons_zero]; rfl) ?_; go_big_quiet_on | refine quiet_bin (d := 78) (fun w => EC.out _ _ w) rfl rfl rfl rfl (by simp only [Act.put, List.setIfInBounds_toArray, List.set_cons_succ, List.set_cons_zero]; rfl) ?_; go_big_quiet_on | refine quiet_build (d := 92) BU1.out rfl rfl (by simp [Act.eval]) (by simp only [Act.put, List.setIfInBounds_toArray, List.set_cons_succ, List.set_cons_zero]; rfl) ?_; go_big_quiet_on | refine quiet_build (d := 94) BU2.out rfl rfl (by simp [Act.eval]) (by simp only [Act.put, List.setIfInBounds_toArray, List.set_cons_succ, List.set_cons_zero]; rfl) ?_; go_big_quiet_on | refine quiet_conv mL2k0 rfl rfl rfl (by simp only [Act.put, List.setIfInBounds_toArray, List.set_cons_succ, List.set_cons_zero]; rfl) ?_; go_big_quiet_on | refine quiet_bin (d := 78) (fun w => EC.out _ _ w) rfl rfl rfl rfl (by simp only [Act.put, List.setIfInBounds_toArray, List.set_cons_succ, List.set_cons_zero]; rfl) ?_; go_big_quiet_on | refine quiet_build (d := 92) BU1.out rfl rfl (by simp [Act.eval]) (by simp only [Act.put, List.setIfInBounds_toArray, List.set_cons_succ, List.set_cons_zero]; rfl) ?_; go_big_quiet_on | refine quiet_build (d := 94) BU2.out rfl rfl (by simp [Act.eval]) (by simp only [Act.put, List.setIfInBounds_toArray, List.set_cons_succ, List.set_cons_zero]; rfl) ?_; go_big_quiet_on))
  refine wpQuiet_nil ?_
  refine wpMix2_eff (by kernel_rfl) ?_
  -- PC2.out _ the contract, Xa.out the keeping ahead, j the mark behind, comL c the bytes
  go_wp2_with fail
  refine (PC2.out _).mono ?_
  rintro e wj ⟨vj, rfl, oj, kj⟩
  obtain ⟨Aj, cj, rfl, bj, -⟩ := oj.shape
  have qj := bj.le
  have rj := bj.max
  have Bj := Lib.hid bj
  have Kj := Lib.hid kj
  have Xj := Lib.hid (Xa.out.trans kj (T := None) (fun _ h => h) (fun _ _ h => h))
  obtain ⟨lj, hlj⟩ : ∃ x, (comL c).length = x := ⟨_, rfl⟩
  rw [hlj] at Bj qj ⊢
  clear oj kj bj hlj
  go_wp2
  have Ba1 := Lib.hid (Ba.out.keeps Kj.out (fun _ _ _ _ _ h => h))
  obtain ⟨mL5S, mL5h⟩ : ∃ S : World → Prop, ∀ w', S w' ↔ (((convert 27 9 (.slice Aj lj cj)).run Try.prog w' = .ok (.string sc) w')) := ⟨_, fun _ => Iff.rfl⟩
  have mL5k0 : ∀ x : Memb mL5S, (convert 27 9 (.slice Aj lj cj)).run Try.prog x.at_ = .ok (.string sc) x.at_ := fun x => ((mL5h _).1 x.is)
  have mL5n : Nonempty (Memb mL5S) := ⟨⟨_, (mL5h _).2 (HSC.out ▸ run_str Bj.out)⟩⟩
  have mL5H := Lib.hid mL5h
  clear mL5h
  refine MixK2.late (D := InS mL5S) (x := 5) (by kernel_rfl) (cls_cons (InS.mk ((mL5H.out _).2 (HSC.out ▸ run_str Bj.out))) (cls_cons (InS.mk ((mL2H.out _).2 (HSC.out ▸ run_str Ba1.out))) (cls_base (InS.mk ((mH.out _).2 (LDS.out _ Xj.out)))))) ?_
  refine wpMix2_seg 1 (InS mL5S) (by kernel_rfl) (by decide) (cl_one rfl) ?_
  simp only [List.take_succ_cons, List.take_zero, List.drop_succ_cons, List.drop_zero]
  repeat (first | go_big_quiet_step (fail) | (go_big_quiet_want; first | refine quiet_load mk0 rfl rfl rfl (by simp only [Act.put, List.setIfInBounds_toArray, List.set_cons_succ, List.set_cons_zero]; rfl) ?_; go_big_quiet_on | refine quiet_load mk1 rfl rfl rfl (by simp only [Act.put, List.setIfInBounds_toArray, List.set_cons_succ, List.set_cons_zero]; rfl) ?_; go_big_quiet_on | refine quiet_load mk2 rfl rfl rfl (by simp only [Act.put, List.setIfInBounds_toArray, List.set_cons_succ, List.set_cons_zero]; rfl) ?_; go_big_quiet_on | refine quiet_load mk3 rfl rfl rfl (by simp only [Act.put, List.setIfInBounds_toArray, List.set_cons_succ, List.set_cons_zero]; rfl) ?_; go_big_quiet_on | refine quiet_load mk4 rfl rfl rfl (by simp only [Act.put, List.setIfInBounds_toArray, List.set_cons_succ, List.set_cons_zero]; rfl) ?_; go_big_quiet_on | refine quiet_load mk5 rfl rfl rfl (by simp only [Act.put, List.setIfInBounds_toArray, List.set_cons_succ, List.set_cons_zero]; rfl) ?_; go_big_quiet_on | refine quiet_load mk6 rfl rfl rfl (by simp only [Act.put, List.setIfInBounds_toArray, List.set_cons_succ, List.set_cons_zero]; rfl) ?_; go_big_quiet_on | refine quiet_bin (d := 78) (fun w => EC.out _ _ w) rfl rfl rfl rfl (by simp only [Act.put, List.setIfInBounds_toArray, List.set_cons_succ, List.set_cons_zero]; rfl) ?_; go_big_quiet_on | refine quiet_build (d := 92) BU1.out rfl rfl (by simp [Act.eval]) (by simp only [Act.put, List.setIfInBounds_toArray, List.set_cons_succ, List.set_cons_zero]; rfl) ?_; go_big_quiet_on | refine quiet_build (d := 94) BU2.out rfl rfl (by simp [Act.eval]) (by simp only [Act.put, List.setIfInBounds_toArray, List.set_cons_succ, List.set_cons_zero]; rfl) ?_; go_big_quiet_on | refine quiet_conv mL2k0 rfl rfl rfl (by simp only [Act.put, List.setIfInBounds_toArray, List.set_cons_succ, List.set_cons_zero]; rfl) ?_; go_big_quiet_on | refine quiet_bin (d := 78) (fun w => EC.out _ _ w) rfl rfl rfl rfl (by simp only [Act.put, List.setIfInBounds_toArray, List.set_cons_succ, List.set_cons_zero]; rfl) ?_; go_big_quiet_on | refine quiet_build (d := 92) BU1.out rfl rfl (by simp [Act.eval]) (by simp only [Act.put, List.setIfInBounds_toArray, List.set_cons_succ, List.set_cons_zero]; rfl) ?_; go_big_quiet_on | refine quiet_build (d := 94) BU2.out rfl rfl (by simp [Act.eval]) (by simp only [Act.put, List.setIfInBounds_toArray, List.set_cons_succ, List.set_cons_zero]; rfl) ?_; go_big_quiet_on | refine quiet_conv mL5k0 rfl rfl rfl (by simp only [Act.put, List.setIfInBounds_toArray, List.set_cons_succ, List.set_cons_zero]; rfl) ?_; go_big_quiet_on | refine quiet_bin (d := 78) (fun w => EC.out _ _ w) rfl rfl rfl rfl (by simp only [Act.put, List.setIfInBounds_toArray, List.set_cons_succ, List.set_cons_zero]; rfl) ?_; go_big_quiet_on | refine quiet_build (d := 92) BU1.out rfl rfl (by simp [Act.eval]) (by simp only [Act.put, List.setIfInBounds_toArray, List.set_cons_succ, List.set_cons_zero]; rfl) ?_; go_big_quiet_on | refine quiet_build (d := 94) BU2.out rfl rfl (by simp [Act.eval]) (by simp only [Act.put, List.setIfInBounds_toArray, List.set_cons_succ, List.set_cons_zero]; rfl) ?_; go_big_quiet_on))
  refine wpQuiet_nil ?_
  refine wpMix2_seg 3 (InS mS) (by kernel_rfl) (by decide) (cl_base [5, 2] rfl (by kernel_rfl)) ?_
  simp only [List.take_succ_cons, List.take_zero, List.drop_succ_cons, List.drop_zero]
  repeat (first | go_big_quiet_step (fail) | (go_big_quiet_want; first | refine quiet_load mk0 rfl rfl rfl (by simp only [Act.put, List.setIfInBounds_toArray, List.set_cons_succ, List.set_cons_zero]; rfl) ?_; go_big_quiet_on | refine quiet_load mk1 rfl rfl rfl (by simp only [Act.put, List.setIfInBounds_toArray, List.set_cons_succ, List.set_cons_zero]; rfl) ?_; go_big_quiet_on | refine quiet_load mk2 rfl rfl rfl (by simp only [Act.put, List.setIfInBounds_toArray, List.set_cons_succ, List.set_cons_zero]; rfl) ?_; go_big_quiet_on | refine quiet_load mk3 rfl rfl rfl (by simp only [Act.put, List.setIfInBounds_toArray, List.set_cons_succ, List.set_cons_zero]; rfl) ?_; go_big_quiet_on | refine quiet_load mk4 rfl rfl rfl (by simp only [Act.put, List.setIfInBounds_toArray, List.set_cons_succ, List.set_cons_zero]; rfl) ?_; go_big_quiet_on | refine quiet_load mk5 rfl rfl rfl (by simp only [Act.put, List.setIfInBounds_toArray, List.set_cons_succ, List.set_cons_zero]; rfl) ?_; go_big_quiet_on | refine quiet_load mk6 rfl rfl rfl (by simp only [Act.put, List.setIfInBounds_toArray, List.set_cons_succ, List.set_cons_zero]; rfl) ?_; go_big_quiet_on | refine quiet_bin (d := 78) (fun w => EC.out _ _ w) rfl rfl rfl rfl (by simp only [Act.put, List.setIfInBounds_toArray, List.set_cons_succ, List.set_cons_zero]; rfl) ?_; go_big_quiet_on | refine quiet_build (d := 92) BU1.out rfl rfl (by simp [Act.eval]) (by simp only [Act.put, List.setIfInBounds_toArray, List.set_cons_succ, List.set_cons_zero]; rfl) ?_; go_big_quiet_on | refine quiet_build (d := 94) BU2.out rfl rfl (by simp [Act.eval]) (by simp only [Act.put, List.setIfInBounds_toArray, List.set_cons_succ, List.set_cons_zero]; rfl) ?_; go_big_quiet_on | refine quiet_conv mL2k0 rfl rfl rfl (by simp only [Act.put, List.setIfInBounds_toArray, List.set_cons_succ, List.set_cons_zero]; rfl) ?_; go_big_quiet_on | refine quiet_bin (d := 78) (fun w => EC.out _ _ w) rfl rfl rfl rfl (by simp only [Act.put, List.setIfInBounds_toArray, List.set_cons_succ, List.set_cons_zero]; rfl) ?_; go_big_quiet_on | refine quiet_build (d := 92) BU1.out rfl rfl (by simp [Act.eval]) (by simp only [Act.put, List.setIfInBounds_toArray, List.set_cons_succ, List.set_cons_zero]; rfl) ?_; go_big_quiet_on | refine quiet_build (d := 94) BU2.out rfl rfl (by simp [Act.eval]) (by simp only [Act.put, List.setIfInBounds_toArray, List.set_cons_succ, List.set_cons_zero]; rfl) ?_; go_big_quiet_on | refine quiet_conv mL5k0 rfl rfl rfl (by simp only [Act.put, List.setIfInBounds_toArray, List.set_cons_succ, List.set_cons_zero]; rfl) ?_; go_big_quiet_on | refine quiet_bin (d := 78) (fun w => EC.out _ _ w) rfl rfl rfl rfl (by simp only [Act.put, List.setIfInBounds_toArray, List.set_cons_succ, List.set_cons_zero]; rfl) ?_; go_big_quiet_on | refine quiet_build (d := 92) BU1.out rfl rfl (by simp [Act.eval]) (by simp only [Act.put, List.setIfInBounds_toArray, List.set_cons_succ, List.set_cons_zero]; rfl) ?_; go_big_quiet_on | refine quiet_build (d := 94) BU2.out rfl rfl (by simp [Act.eval]) (by simp only [Act.put, List.setIfInBounds_toArray, List.set_cons_succ, List.set_cons_zero]; rfl) ?_; go_big_quiet_on))
  refine wpQuiet_nil ?_
  refine wpMix2_eff (by kernel_rfl) ?_
  -- PK1.out _ (MVE.out.later Xj.out).b the contract, Xj.out the keeping ahead, z the mark behind, chkL k the bytes
  go_wp2_with fail
  refine (PK1.out _ (MVE.out.later Xj.out).b).mono ?_
  rintro e wz ⟨vz, rfl, oz, kz⟩
  obtain ⟨Az, cz, rfl, bz, -⟩ := oz.shape
  have qz := bz.le
  have rz := bz.max
  have Bz := Lib.hid bz
  have Kz := Lib.hid kz
  have Xz := Lib.hid (Xj.out.trans kz (T := None) (fun _ h => h) (fun _ _ h => h))
  obtain ⟨lz, hlz⟩ : ∃ x, (chkL k).length = x := ⟨_, rfl⟩
  rw [hlz] at Bz qz ⊢
  clear oz kz bz hlz
  go_wp2
  have Ba2 := Lib.hid (Ba1.out.keeps Kz.out (fun _ _ _ _ _ h => h))
  have Bj2 := Lib.hid (Bj.out.keeps Kz.out (fun _ _ _ _ _ h => h))
  obtain ⟨mL10S, mL10h⟩ : ∃ S : World → Prop, ∀ w', S w' ↔ (((convert 27 9 (.slice Az lz cz)).run Try.prog w' = .ok (.string sk) w')) := ⟨_, fun _ => Iff.rfl⟩
  have mL10k0 : ∀ x : Memb mL10S, (convert 27 9 (.slice Az lz cz)).run Try.prog x.at_ = .ok (.string sk) x.at_ := fun x => ((mL10h _).1 x.is)
  have mL10n : Nonempty (Memb mL10S) := ⟨⟨_, (mL10h _).2 (HSK.out ▸ run_str Bz.out)⟩⟩
  have mL10H := Lib.hid mL10h
  clear mL10h
  refine MixK2.late (D := InS mL10S) (x := 10) (by kernel_rfl) (cls_cons (InS.mk ((mL10H.out _).2 (HSK.out ▸ run_str Bz.out))) (cls_cons (InS.mk ((mL5H.out _).2 (HSC.out ▸ run_str Bj2.out))) (cls_cons (InS.mk ((mL2H.out _).2 (HSC.out ▸ run_str Ba2.out))) (cls_base (InS.mk ((mH.out _).2 (LDS.out _ Xz.out))))))) ?_
  refine wpMix2_seg 1 (InS mL10S) (by kernel_rfl) (by decide) (cl_one rfl) ?_
  simp only [List.take_succ_cons, List.take_zero, List.drop_succ_cons, List.drop_zero]
  repeat (first | go_big_quiet_step (fail) | (go_big_quiet_want; first | refine quiet_load mk0 rfl rfl rfl (by simp only [Act.put, List.setIfInBounds_toArray, List.set_cons_succ, List.set_cons_zero]; rfl) ?_; go_big_quiet_on | refine quiet_load mk1 rfl rfl rfl (by simp only [Act.put, List.setIfInBounds_toArray, List.set_cons_succ, List.set_cons_zero]; rfl) ?_; go_big_quiet_on | refine quiet_load mk2 rfl rfl rfl (by simp only [Act.put, List.setIfInBounds_toArray, List.set_cons_succ, List.set_cons_zero]; rfl) ?_; go_big_quiet_on | refine quiet_load mk3 rfl rfl rfl (by simp only [Act.put, List.setIfInBounds_toArray, List.set_cons_succ, List.set_cons_zero]; rfl) ?_; go_big_quiet_on | refine quiet_load mk4 rfl rfl rfl (by simp only [Act.put, List.setIfInBounds_toArray, List.set_cons_succ, List.set_cons_zero]; rfl) ?_; go_big_quiet_on | refine quiet_load mk5 rfl rfl rfl (by simp only [Act.put, List.setIfInBounds_toArray, List.set_cons_succ, List.set_cons_zero]; rfl) ?_; go_big_quiet_on | refine quiet_load mk6 rfl rfl rfl (by simp only [Act.put, List.setIfInBounds_toArray, List.set_cons_succ, List.set_cons_zero]; rfl) ?_; go_big_quiet_on | refine quiet_bin (d := 78) (fun w => EC.out _ _ w) rfl rfl rfl rfl (by simp only [Act.put, List.setIfInBounds_toArray, List.set_cons_succ, List.set_cons_zero]; rfl) ?_; go_big_quiet_on | refine quiet_build (d := 92) BU1.out rfl rfl (by simp [Act.eval]) (by simp only [Act.put, List.setIfInBounds_toArray, List.set_cons_succ, List.set_cons_zero]; rfl) ?_; go_big_quiet_on | refine quiet_build (d := 94) BU2.out rfl rfl (by simp [Act.eval]) (by simp only [Act.put, List.setIfInBounds_toArray, List.set_cons_succ, List.set_cons_zero]; rfl) ?_; go_big_quiet_on | refine quiet_conv mL2k0 rfl rfl rfl (by simp only [Act.put, List.setIfInBounds_toArray, List.set_cons_succ, List.set_cons_zero]; rfl) ?_; go_big_quiet_on | refine quiet_bin (d := 78) (fun w => EC.out _ _ w) rfl rfl rfl rfl (by simp only [Act.put, List.setIfInBounds_toArray, List.set_cons_succ, List.set_cons_zero]; rfl) ?_; go_big_quiet_on | refine quiet_build (d := 92) BU1.out rfl rfl (by simp [Act.eval]) (by simp only [Act.put, List.setIfInBounds_toArray, List.set_cons_succ, List.set_cons_zero]; rfl) ?_; go_big_quiet_on | refine quiet_build (d := 94) BU2.out rfl rfl (by simp [Act.eval]) (by simp only [Act.put, List.setIfInBounds_toArray, List.set_cons_succ, List.set_cons_zero]; rfl) ?_; go_big_quiet_on | refine quiet_conv mL5k0 rfl rfl rfl (by simp only [Act.put, List.setIfInBounds_toArray, List.set_cons_succ, List.set_cons_zero]; rfl) ?_; go_big_quiet_on | refine quiet_bin (d := 78) (fun w => EC.out _ _ w) rfl rfl rfl rfl (by simp only [Act.put, List.setIfInBounds_toArray, List.set_cons_succ, List.set_cons_zero]; rfl) ?_; go_big_quiet_on | refine quiet_build (d := 92) BU1.out rfl rfl (by simp [Act.eval]) (by simp only [Act.put, List.setIfInBounds_toArray, List.set_cons_succ, List.set_cons_zero]; rfl) ?_; go_big_quiet_on | refine quiet_build (d := 94) BU2.out rfl rfl (by simp [Act.eval]) (by simp only [Act.put, List.setIfInBounds_toArray, List.set_cons_succ, List.set_cons_zero]; rfl) ?_; go_big_quiet_on | refine quiet_conv mL10k0 rfl rfl rfl (by simp only [Act.put, List.setIfInBounds_toArray, List.set_cons_succ, List.set_cons_zero]; rfl) ?_; go_big_quiet_on | refine quiet_bin (d := 78) (fun w => EC.out _ _ w) rfl rfl rfl rfl (by simp only [Act.put, List.setIfInBounds_toArray, List.set_cons_succ, List.set_cons_zero]; rfl) ?_; go_big_quiet_on | refine quiet_build (d := 92) BU1.out rfl rfl (by simp [Act.eval]) (by simp only [Act.put, List.setIfInBounds_toArray, List.set_cons_succ, List.set_cons_zero]; rfl) ?_; go_big_quiet_on | refine quiet_build (d := 94) BU2.out rfl rfl (by simp [Act.eval]) (by simp only [Act.put, List.setIfInBounds_toArray, List.set_cons_succ, List.set_cons_zero]; rfl) ?_; go_big_quiet_on))
  refine wpQuiet_nil ?_
  refine wpMix2_seg 1 (InS mS) (by kernel_rfl) (by decide) (cl_base [10, 5, 2] rfl (by kernel_rfl)) ?_
  simp only [List.take_succ_cons, List.take_zero, List.drop_succ_cons, List.drop_zero]
  repeat (first | go_big_quiet_step (fail) | (go_big_quiet_want; first | refine quiet_load mk0 rfl rfl rfl (by simp only [Act.put, List.setIfInBounds_toArray, List.set_cons_succ, List.set_cons_zero]; rfl) ?_; go_big_quiet_on | refine quiet_load mk1 rfl rfl rfl (by simp only [Act.put, List.setIfInBounds_toArray, List.set_cons_succ, List.set_cons_zero]; rfl) ?_; go_big_quiet_on | refine quiet_load mk2 rfl rfl rfl (by simp only [Act.put, List.setIfInBounds_toArray, List.set_cons_succ, List.set_cons_zero]; rfl) ?_; go_big_quiet_on | refine quiet_load mk3 rfl rfl rfl (by simp only [Act.put, List.setIfInBounds_toArray, List.set_cons_succ, List.set_cons_zero]; rfl) ?_; go_big_quiet_on | refine quiet_load mk4 rfl rfl rfl (by simp only [Act.put, List.setIfInBounds_toArray, List.set_cons_succ, List.set_cons_zero]; rfl) ?_; go_big_quiet_on | refine quiet_load mk5 rfl rfl rfl (by simp only [Act.put, List.setIfInBounds_toArray, List.set_cons_succ, List.set_cons_zero]; rfl) ?_; go_big_quiet_on | refine quiet_load mk6 rfl rfl rfl (by simp only [Act.put, List.setIfInBounds_toArray, List.set_cons_succ, List.set_cons_zero]; rfl) ?_; go_big_quiet_on | refine quiet_bin (d := 78) (fun w => EC.out _ _ w) rfl rfl rfl rfl (by simp only [Act.put, List.setIfInBounds_toArray, List.set_cons_succ, List.set_cons_zero]; rfl) ?_; go_big_quiet_on | refine quiet_build (d := 92) BU1.out rfl rfl (by simp [Act.eval]) (by simp only [Act.put, List.setIfInBounds_toArray, List.set_cons_succ, List.set_cons_zero]; rfl) ?_; go_big_quiet_on | refine quiet_build (d := 94) BU2.out rfl rfl (by simp [Act.eval]) (by simp only [Act.put, List.setIfInBounds_toArray, List.set_cons_succ, List.set_cons_zero]; rfl) ?_; go_big_quiet_on | refine quiet_conv mL2k0 rfl rfl rfl (by simp only [Act.put, List.setIfInBounds_toArray, List.set_cons_succ, List.set_cons_zero]; rfl) ?_; go_big_quiet_on | refine quiet_bin (d := 78) (fun w => EC.out _ _ w) rfl rfl rfl rfl (by simp only [Act.put, List.setIfInBounds_toArray, List.set_cons_succ, List.set_cons_zero]; rfl) ?_; go_big_quiet_on | refine quiet_build (d := 92) BU1.out rfl rfl (by simp [Act.eval]) (by simp only [Act.put, List.setIfInBounds_toArray, List.set_cons_succ, List.set_cons_zero]; rfl) ?_; go_big_quiet_on | refine quiet_build (d := 94) BU2.out rfl rfl (by simp [Act.eval]) (by simp only [Act.put, List.setIfInBounds_toArray, List.set_cons_succ, List.set_cons_zero]; rfl) ?_; go_big_quiet_on | refine quiet_conv mL5k0 rfl rfl rfl (by simp only [Act.put, List.setIfInBounds_toArray, List.set_cons_succ, List.set_cons_zero]; rfl) ?_; go_big_quiet_on | refine quiet_bin (d := 78) (fun w => EC.out _ _ w) rfl rfl rfl rfl (by simp only [Act.put, List.setIfInBounds_toArray, List.set_cons_succ, List.set_cons_zero]; rfl) ?_; go_big_quiet_on | refine quiet_build (d := 92) BU1.out rfl rfl (by simp [Act.eval]) (by simp only [Act.put, List.setIfInBounds_toArray, List.set_cons_succ, List.set_cons_zero]; rfl) ?_; go_big_quiet_on | refine quiet_build (d := 94) BU2.out rfl rfl (by simp [Act.eval]) (by simp only [Act.put, List.setIfInBounds_toArray, List.set_cons_succ, List.set_cons_zero]; rfl) ?_; go_big_quiet_on | refine quiet_conv mL10k0 rfl rfl rfl (by simp only [Act.put, List.setIfInBounds_toArray, List.set_cons_succ, List.set_cons_zero]; rfl) ?_; go_big_quiet_on | refine quiet_bin (d := 78) (fun w => EC.out _ _ w) rfl rfl rfl rfl (by simp only [Act.put, List.setIfInBounds_toArray, List.set_cons_succ, List.set_cons_zero]; rfl) ?_; go_big_quiet_on | refine quiet_build (d := 92) BU1.out rfl rfl (by simp [Act.eval]) (by simp only [Act.put, List.setIfInBounds_toArray, List.set_cons_succ, List.set_cons_zero]; rfl) ?_; go_big_quiet_on | refine quiet_build (d := 94) BU2.out rfl rfl (by simp [Act.eval]) (by simp only [Act.put, List.setIfInBounds_toArray, List.set_cons_succ, List.set_cons_zero]; rfl) ?_; go_big_quiet_on))
  refine wpQuiet_nil ?_
  refine wpMix2_eff (by kernel_rfl) ?_
  -- PK2.out _ (HME.out.keeps Xz.out (fun _ _ _ _ _ h => h)) the contract, Xz.out the keeping ahead, u the mark behind, chkL k the bytes
  go_wp2_with fail
  refine (PK2.out _ (HME.out.keeps Xz.out (fun _ _ _ _ _ h => h))).mono ?_
  rintro e wu ⟨vu, rfl, ou, ku⟩
  obtain ⟨Au, cu, rfl, bu, -⟩ := ou.shape
  have qu := bu.le
  have ru := bu.max
  have Bu := Lib.hid bu
  have Ku := Lib.hid ku
  have Xu := Lib.hid (Xz.out.trans ku (T := None) (fun _ h => h) (fun _ _ h => h))
  obtain ⟨lu, hlu⟩ : ∃ x, (chkL k).length = x := ⟨_, rfl⟩
  rw [hlu] at Bu qu ⊢
  clear ou ku bu hlu
  go_wp2
  have Ba3 := Lib.hid (Ba2.out.keeps Ku.out (fun _ _ _ _ _ h => h))
  have Bj3 := Lib.hid (Bj2.out.keeps Ku.out (fun _ _ _ _ _ h => h))
  have Bz3 := Lib.hid (Bz.out.keeps Ku.out (fun _ _ _ _ _ h => h))
  obtain ⟨mL13S, mL13h⟩ : ∃ S : World → Prop, ∀ w', S w' ↔ (((convert 27 9 (.slice Au lu cu)).run Try.prog w' = .ok (.string sk) w')) := ⟨_, fun _ => Iff.rfl⟩
  have mL13k0 : ∀ x : Memb mL13S, (convert 27 9 (.slice Au lu cu)).run Try.prog x.at_ = .ok (.string sk) x.at_ := fun x => ((mL13h _).1 x.is)
  have mL13n : Nonempty (Memb mL13S) := ⟨⟨_, (mL13h _).2 (HSK.out ▸ run_str Bu.out)⟩⟩
  have mL13H := Lib.hid mL13h
  clear mL13h
  refine MixK2.late (D := InS mL13S) (x := 13) (by kernel_rfl) (cls_cons (InS.mk ((mL13H.out _).2 (HSK.out ▸ run_str Bu.out))) (cls_cons (InS.mk ((mL10H.out _).2 (HSK.out ▸ run_str Bz3.out))) (cls_cons (InS.mk ((mL5H.out _).2 (HSC.out ▸ run_str Bj3.out))) (cls_cons (InS.mk ((mL2H.out _).2 (HSC.out ▸ run_str Ba3.out))) (cls_base (InS.mk ((mH.out _).2 (LDS.out _ Xu.out)))))))) ?_
  refine wpMix2_seg 1 (InS mL13S) (by kernel_rfl) (by decide) (cl_one rfl) ?_
  simp only [List.take_succ_cons, List.take_zero, List.drop_succ_cons, List.drop_zero]
  repeat (first | go_big_quiet_step (fail) | (go_big_quiet_want; first | refine quiet_load mk0 rfl rfl rfl (by simp only [Act.put, List.setIfInBounds_toArray, List.set_cons_succ, List.set_cons_zero]; rfl) ?_; go_big_quiet_on | refine quiet_load mk1 rfl rfl rfl (by simp only [Act.put, List.setIfInBounds_toArray, List.set_cons_succ, List.set_cons_zero]; rfl) ?_; go_big_quiet_on | refine quiet_load mk2 rfl rfl rfl (by simp only [Act.put, List.setIfInBounds_toArray, List.set_cons_succ, List.set_cons_zero]; rfl) ?_; go_big_quiet_on | refine quiet_load mk3 rfl rfl rfl (by simp only [Act.put, List.setIfInBounds_toArray, List.set_cons_succ, List.set_cons_zero]; rfl) ?_; go_big_quiet_on | refine quiet_load mk4 rfl rfl rfl (by simp only [Act.put, List.setIfInBounds_toArray, List.set_cons_succ, List.set_cons_zero]; rfl) ?_; go_big_quiet_on | refine quiet_load mk5 rfl rfl rfl (by simp only [Act.put, List.setIfInBounds_toArray, List.set_cons_succ, List.set_cons_zero]; rfl) ?_; go_big_quiet_on | refine quiet_load mk6 rfl rfl rfl (by simp only [Act.put, List.setIfInBounds_toArray, List.set_cons_succ, List.set_cons_zero]; rfl) ?_; go_big_quiet_on | refine quiet_bin (d := 78) (fun w => EC.out _ _ w) rfl rfl rfl rfl (by simp only [Act.put, List.setIfInBounds_toArray, List.set_cons_succ, List.set_cons_zero]; rfl) ?_; go_big_quiet_on | refine quiet_build (d := 92) BU1.out rfl rfl (by simp [Act.eval]) (by simp only [Act.put, List.setIfInBounds_toArray, List.set_cons_succ, List.set_cons_zero]; rfl) ?_; go_big_quiet_on | refine quiet_build (d := 94) BU2.out rfl rfl (by simp [Act.eval]) (by simp only [Act.put, List.setIfInBounds_toArray, List.set_cons_succ, List.set_cons_zero]; rfl) ?_; go_big_quiet_on | refine quiet_conv mL2k0 rfl rfl rfl (by simp only [Act.put, List.setIfInBounds_toArray, List.set_cons_succ, List.set_cons_zero]; rfl) ?_; go_big_quiet_on | refine quiet_bin (d := 78) (fun w => EC.out _ _ w) rfl rfl rfl rfl (by simp only [Act.put, List.setIfInBounds_toArray, List.set_cons_succ, List.set_cons_zero]; rfl) ?_; go_big_quiet_on | refine quiet_build (d := 92) BU1.out rfl rfl (by simp [Act.eval]) (by simp only [Act.put, List.setIfInBounds_toArray, List.set_cons_succ, List.set_cons_zero]; rfl) ?_; go_big_quiet_on | refine quiet_build (d := 94) BU2.out rfl rfl (by simp [Act.eval]) (by simp only [Act.put, List.setIfInBounds_toArray, List.set_cons_succ, List.set_cons_zero]; rfl) ?_; go_big_quiet_on | refine quiet_conv mL5k0 rfl rfl rfl (by simp only [Act.put, List.setIfInBounds_toArray, List.set_cons_succ, List.set_cons_zero]; rfl) ?_; go_big_quiet_on | refine quiet_bin (d := 78) (fun w => EC.out _ _ w) rfl rfl rfl rfl (by simp only [Act.put, List.setIfInBounds_toArray, List.set_cons_succ, List.set_cons_zero]; rfl) ?_; go_big_quiet_on | refine quiet_build (d := 92) BU1.out rfl rfl (by simp [Act.eval]) (by simp only [Act.put, List.setIfInBounds_toArray, List.set_cons_succ, List.set_cons_zero]; rfl) ?_; go_big_quiet_on | refine quiet_build (d := 94) BU2.out rfl rfl (by simp [Act.eval]) (by simp only [Act.put, List.setIfInBounds_toArray, List.set_cons_succ, List.set_cons_zero]; rfl) ?_; go_big_quiet_on | refine quiet_conv mL10k0 rfl rfl rfl (by simp only [Act.put, List.setIfInBounds_toArray, List.set_cons_succ, List.set_cons_zero]; rfl) ?_; go_big_quiet_on | refine quiet_bin (d := 78) (fun w => EC.out _ _ w) rfl rfl rfl rfl (by simp only [Act.put, List.setIfInBounds_toArray, List.set_cons_succ, List.set_cons_zero]; rfl) ?_; go_big_quiet_on | refine quiet_build (d := 92) BU1.out rfl rfl (by simp [Act.eval]) (by simp only [Act.put, List.setIfInBounds_toArray, List.set_cons_succ, List.set_cons_zero]; rfl) ?_; go_big_quiet_on | refine quiet_build (d := 94) BU2.out rfl rfl (by simp [Act.eval]) (by simp only [Act.put, List.setIfInBounds_toArray, List.set_cons_succ, List.set_cons_zero]; rfl) ?_; go_big_quiet_on | refine quiet_conv mL13k0 rfl rfl rfl (by simp only [Act.put, List.setIfInBounds_toArray, List.set_cons_succ, List.set_cons_zero]; rfl) ?_; go_big_quiet_on | refine quiet_bin (d := 78) (fun w => EC.out _ _ w) rfl rfl rfl rfl (by simp only [Act.put, List.setIfInBounds_toArray, List.set_cons_succ, List.set_cons_zero]; rfl) ?_; go_big_quiet_on | refine quiet_build (d := 92) BU1.out rfl rfl (by simp [Act.eval]) (by simp only [Act.put, List.setIfInBounds_toArray, List.set_cons_succ, List.set_cons_zero]; rfl) ?_; go_big_quiet_on | refine quiet_build (d := 94) BU2.out rfl rfl (by simp [Act.eval]) (by simp only [Act.put, List.setIfInBounds_toArray, List.set_cons_succ, List.set_cons_zero]; rfl) ?_; go_big_quiet_on))
  refine wpQuiet_nil ?_
  refine wpMix2_seg 22 (InS mS) (by kernel_rfl) (by decide) (cl_base [13, 10, 5, 2] rfl (by kernel_rfl)) ?_
  simp only [List.take_succ_cons, List.take_zero, List.drop_succ_cons, List.drop_zero]
  repeat (first | go_big_quiet_step (fail) | (go_big_quiet_want; first | refine quiet_load mk0 rfl rfl rfl (by simp only [Act.put, List.setIfInBounds_toArray, List.set_cons_succ, List.set_cons_zero]; rfl) ?_; go_big_quiet_on | refine quiet_load mk1 rfl rfl rfl (by simp only [Act.put, List.setIfInBounds_toArray, List.set_cons_succ, List.set_cons_zero]; rfl) ?_; go_big_quiet_on | refine quiet_load mk2 rfl rfl rfl (by simp only [Act.put, List.setIfInBounds_toArray, List.set_cons_succ, List.set_cons_zero]; rfl) ?_; go_big_quiet_on | refine quiet_load mk3 rfl rfl rfl (by simp only [Act.put, List.setIfInBounds_toArray, List.set_cons_succ, List.set_cons_zero]; rfl) ?_; go_big_quiet_on | refine quiet_load mk4 rfl rfl rfl (by simp only [Act.put, List.setIfInBounds_toArray, List.set_cons_succ, List.set_cons_zero]; rfl) ?_; go_big_quiet_on | refine quiet_load mk5 rfl rfl rfl (by simp only [Act.put, List.setIfInBounds_toArray, List.set_cons_succ, List.set_cons_zero]; rfl) ?_; go_big_quiet_on | refine quiet_load mk6 rfl rfl rfl (by simp only [Act.put, List.setIfInBounds_toArray, List.set_cons_succ, List.set_cons_zero]; rfl) ?_; go_big_quiet_on | refine quiet_bin (d := 78) (fun w => EC.out _ _ w) rfl rfl rfl rfl (by simp only [Act.put, List.setIfInBounds_toArray, List.set_cons_succ, List.set_cons_zero]; rfl) ?_; go_big_quiet_on | refine quiet_build (d := 92) BU1.out rfl rfl (by simp [Act.eval]) (by simp only [Act.put, List.setIfInBounds_toArray, List.set_cons_succ, List.set_cons_zero]; rfl) ?_; go_big_quiet_on | refine quiet_build (d := 94) BU2.out rfl rfl (by simp [Act.eval]) (by simp only [Act.put, List.setIfInBounds_toArray, List.set_cons_succ, List.set_cons_zero]; rfl) ?_; go_big_quiet_on | refine quiet_conv mL2k0 rfl rfl rfl (by simp only [Act.put, List.setIfInBounds_toArray, List.set_cons_succ, List.set_cons_zero]; rfl) ?_; go_big_quiet_on | refine quiet_bin (d := 78) (fun w => EC.out _ _ w) rfl rfl rfl rfl (by simp only [Act.put, List.setIfInBounds_toArray, List.set_cons_succ, List.set_cons_zero]; rfl) ?_; go_big_quiet_on | refine quiet_build (d := 92) BU1.out rfl rfl (by simp [Act.eval]) (by simp only [Act.put, List.setIfInBounds_toArray, List.set_cons_succ, List.set_cons_zero]; rfl) ?_; go_big_quiet_on | refine quiet_build (d := 94) BU2.out rfl rfl (by simp [Act.eval]) (by simp only [Act.put, List.setIfInBounds_toArray, List.set_cons_succ, List.set_cons_zero]; rfl) ?_; go_big_quiet_on | refine quiet_conv mL5k0 rfl rfl rfl (by simp only [Act.put, List.setIfInBounds_toArray, List.set_cons_succ, List.set_cons_zero]; rfl) ?_; go_big_quiet_on | refine quiet_bin (d := 78) (fun w => EC.out _ _ w) rfl rfl rfl rfl (by simp only [Act.put, List.setIfInBounds_toArray, List.set_cons_succ, List.set_cons_zero]; rfl) ?_; go_big_quiet_on | refine quiet_build (d := 92) BU1.out rfl rfl (by simp [Act.eval]) (by simp only [Act.put, List.setIfInBounds_toArray, List.set_cons_succ, List.set_cons_zero]; rfl) ?_; go_big_quiet_on | refine quiet_build (d := 94) BU2.out rfl rfl (by simp [Act.eval]) (by simp only [Act.put, List.setIfInBounds_toArray, List.set_cons_succ, List.set_cons_zero]; rfl) ?_; go_big_quiet_on | refine quiet_conv mL10k0 rfl rfl rfl (by simp only [Act.put, List.setIfInBounds_toArray, List.set_cons_succ, List.set_cons_zero]; rfl) ?_; go_big_quiet_on | refine quiet_bin (d := 78) (fun w => EC.out _ _ w) rfl rfl rfl rfl (by simp only [Act.put, List.setIfInBounds_toArray, List.set_cons_succ, List.set_cons_zero]; rfl) ?_; go_big_quiet_on | refine quiet_build (d := 92) BU1.out rfl rfl (by simp [Act.eval]) (by simp only [Act.put, List.setIfInBounds_toArray, List.set_cons_succ, List.set_cons_zero]; rfl) ?_; go_big_quiet_on | refine quiet_build (d := 94) BU2.out rfl rfl (by simp [Act.eval]) (by simp only [Act.put, List.setIfInBounds_toArray, List.set_cons_succ, List.set_cons_zero]; rfl) ?_; go_big_quiet_on | refine quiet_conv mL13k0 rfl rfl rfl (by simp only [Act.put, List.setIfInBounds_toArray, List.set_cons_succ, List.set_cons_zero]; rfl) ?_; go_big_quiet_on | refine quiet_bin (d := 78) (fun w => EC.out _ _ w) rfl rfl rfl rfl (by simp only [Act.put, List.setIfInBounds_toArray, List.set_cons_succ, List.set_cons_zero]; rfl) ?_; go_big_quiet_on | refine quiet_build (d := 92) BU1.out rfl rfl (by simp [Act.eval]) (by simp only [Act.put, List.setIfInBounds_toArray, List.set_cons_succ, List.set_cons_zero]; rfl) ?_; go_big_quiet_on | refine quiet_build (d := 94) BU2.out rfl rfl (by simp [Act.eval]) (by simp only [Act.put, List.setIfInBounds_toArray, List.set_cons_succ, List.set_cons_zero]; rfl) ?_; go_big_quiet_on))
  refine wpQuiet_nil ?_
  refine wpMix2_eff (by kernel_rfl) ?_
  go_wp2_with fail
  refine (SM.out _ (M3E.out.later Xu.out).b (M14.out.later Xu.out).b).mono ?_
  rintro e wv ⟨rfl, kv⟩
  have Ba4 := Lib.hid (Ba3.out.keeps kv (fun _ _ _ _ _ h => h))
  have Bj4 := Lib.hid (Bj3.out.keeps kv (fun _ _ _ _ _ h => h))
  have Bz4 := Lib.hid (Bz3.out.keeps kv (fun _ _ _ _ _ h => h))
  have Bu4 := Lib.hid (Bu.out.keeps kv (fun _ _ _ _ _ h => h))
  have Xv := Lib.hid (Xu.out.trans kv (T := None) (fun _ h => h) (fun _ _ h => h))
  clear kv
  go_wp2
  refine MixK2.on (cls_cons (InS.mk ((mL13H.out _).2 (HSK.out ▸ run_str Bu4.out))) (cls_cons (InS.mk ((mL10H.out _).2 (HSK.out ▸ run_str Bz4.out))) (cls_cons (InS.mk ((mL5H.out _).2 (HSC.out ▸ run_str Bj4.out))) (cls_cons (InS.mk ((mL2H.out _).2 (HSC.out ▸ run_str Ba4.out))) (cls_base (InS.mk ((mH.out _).2 (LDS.out _ Xv.out)))))))) ?_
  refine wpMix2_seg 2 (InS mS) (by kernel_rfl) (by decide) (cl_base [13, 10, 5, 2] rfl (by kernel_rfl)) ?_
  simp only [List.take_succ_cons, List.take_zero, List.drop_succ_cons, List.drop_zero]
  repeat (first | go_big_quiet_step (fail) | (go_big_quiet_want; first | refine quiet_load mk0 rfl rfl rfl (by simp only [Act.put, List.setIfInBounds_toArray, List.set_cons_succ, List.set_cons_zero]; rfl) ?_; go_big_quiet_on | refine quiet_load mk1 rfl rfl rfl (by simp only [Act.put, List.setIfInBounds_toArray, List.set_cons_succ, List.set_cons_zero]; rfl) ?_; go_big_quiet_on | refine quiet_load mk2 rfl rfl rfl (by simp only [Act.put, List.setIfInBounds_toArray, List.set_cons_succ, List.set_cons_zero]; rfl) ?_; go_big_quiet_on | refine quiet_load mk3 rfl rfl rfl (by simp only [Act.put, List.setIfInBounds_toArray, List.set_cons_succ, List.set_cons_zero]; rfl) ?_; go_big_quiet_on | refine quiet_load mk4 rfl rfl rfl (by simp only [Act.put, List.setIfInBounds_toArray, List.set_cons_succ, List.set_cons_zero]; rfl) ?_; go_big_quiet_on | refine quiet_load mk5 rfl rfl rfl (by simp only [Act.put, List.setIfInBounds_toArray, List.set_cons_succ, List.set_cons_zero]; rfl) ?_; go_big_quiet_on | refine quiet_load mk6 rfl rfl rfl (by simp only [Act.put, List.setIfInBounds_toArray, List.set_cons_succ, List.set_cons_zero]; rfl) ?_; go_big_quiet_on | refine quiet_bin (d := 78) (fun w => EC.out _ _ w) rfl rfl rfl rfl (by simp only [Act.put, List.setIfInBounds_toArray, List.set_cons_succ, List.set_cons_zero]; rfl) ?_; go_big_quiet_on | refine quiet_build (d := 92) BU1.out rfl rfl (by simp [Act.eval]) (by simp only [Act.put, List.setIfInBounds_toArray, List.set_cons_succ, List.set_cons_zero]; rfl) ?_; go_big_quiet_on | refine quiet_build (d := 94) BU2.out rfl rfl (by simp [Act.eval]) (by simp only [Act.put, List.setIfInBounds_toArray, List.set_cons_succ, List.set_cons_zero]; rfl) ?_; go_big_quiet_on | refine quiet_conv mL2k0 rfl rfl rfl (by simp only [Act.put, List.setIfInBounds_toArray, List.set_cons_succ, List.set_cons_zero]; rfl) ?_; go_big_quiet_on | refine quiet_bin (d := 78) (fun w => EC.out _ _ w) rfl rfl rfl rfl (by simp only [Act.put, List.setIfInBounds_toArray, List.set_cons_succ, List.set_cons_zero]; rfl) ?_; go_big_quiet_on | refine quiet_build (d := 92) BU1.out rfl rfl (by simp [Act.eval]) (by simp only [Act.put, List.setIfInBounds_toArray, List.set_cons_succ, List.set_cons_zero]; rfl) ?_; go_big_quiet_on | refine quiet_build (d := 94) BU2.out rfl rfl (by simp [Act.eval]) (by simp only [Act.put, List.setIfInBounds_toArray, List.set_cons_succ, List.set_cons_zero]; rfl) ?_; go_big_quiet_on | refine quiet_conv mL5k0 rfl rfl rfl (by simp only [Act.put, List.setIfInBounds_toArray, List.set_cons_succ, List.set_cons_zero]; rfl) ?_; go_big_quiet_on | refine quiet_bin (d := 78) (fun w => EC.out _ _ w) rfl rfl rfl rfl (by simp only [Act.put, List.setIfInBounds_toArray, List.set_cons_succ, List.set_cons_zero]; rfl) ?_; go_big_quiet_on | refine quiet_build (d := 92) BU1.out rfl rfl (by simp [Act.eval]) (by simp only [Act.put, List.setIfInBounds_toArray, List.set_cons_succ, List.set_cons_zero]; rfl) ?_; go_big_quiet_on | refine quiet_build (d := 94) BU2.out rfl rfl (by simp [Act.eval]) (by simp only [Act.put, List.setIfInBounds_toArray, List.set_cons_succ, List.set_cons_zero]; rfl) ?_; go_big_quiet_on | refine quiet_conv mL10k0 rfl rfl rfl (by simp only [Act.put, List.setIfInBounds_toArray, List.set_cons_succ, List.set_cons_zero]; rfl) ?_; go_big_quiet_on | refine quiet_bin (d := 78) (fun w => EC.out _ _ w) rfl rfl rfl rfl (by simp only [Act.put, List.setIfInBounds_toArray, List.set_cons_succ, List.set_cons_zero]; rfl) ?_; go_big_quiet_on | refine quiet_build (d := 92) BU1.out rfl rfl (by simp [Act.eval]) (by simp only [Act.put, List.setIfInBounds_toArray, List.set_cons_succ, List.set_cons_zero]; rfl) ?_; go_big_quiet_on | refine quiet_build (d := 94) BU2.out rfl rfl (by simp [Act.eval]) (by simp only [Act.put, List.setIfInBounds_toArray, List.set_cons_succ, List.set_cons_zero]; rfl) ?_; go_big_quiet_on | refine quiet_conv mL13k0 rfl rfl rfl (by simp only [Act.put, List.setIfInBounds_toArray, List.set_cons_succ, List.set_cons_zero]; rfl) ?_; go_big_quiet_on | refine quiet_bin (d := 78) (fun w => EC.out _ _ w) rfl rfl rfl rfl (by simp only [Act.put, List.setIfInBounds_toArray, List.set_cons_succ, List.set_cons_zero]; rfl) ?_; go_big_quiet_on | refine quiet_build (d := 92) BU1.out rfl rfl (by simp [Act.eval]) (by simp only [Act.put, List.setIfInBounds_toArray, List.set_cons_succ, List.set_cons_zero]; rfl) ?_; go_big_quiet_on | refine quiet_build (d := 94) BU2.out rfl rfl (by simp [Act.eval]) (by simp only [Act.put, List.setIfInBounds_toArray, List.set_cons_succ, List.set_cons_zero]; rfl) ?_; go_big_quiet_on))
  refine wpQuiet_nil ?_
  refine wpMix2_nil ?_
  clear mk0 mk1 mk2 mk3 mk4 mk5 mk6 mn mH mL2k0 mL2n mL2H mL5k0 mL5n mL5H mL10k0 mL10n mL10H mL13k0 mL13n mL13H
  go_wp2
  go_ret
  exact ⟨rfl, (KE.out.trans Xv.out (T := None) (fun _ h => h) (fun _ _ h => h)).below (fun _ _ h => h)⟩
set_option maxRecDepth 100000 in
theorem LedgerTells_lifted (os : Os) (started : os.Started) (H : Type) (enc : TypeId × Value → H) :
    ReturnsInHanded {} Try.checked os 3 .any (Rows.ledgerTellsSpec.pre6 enc Try.prog Try.f3 Rows.ledgerTellsRow.domain false) (Rows.ledgerTellsSpec.post enc Try.prog Try.f3 false true false false) := by
  refine returnsInHanded_of_change (C := Try.checked) Try.own started (by kernel_rfl) Try.func3
    (ChangeSpec.witness6 (enc := enc) (C := Try.checked) false ⟨#[], #[com0.v, chk0.v none 0 0, .slice none 0 0], []⟩ 8 (by kernel_rfl) (by kernel_rfl) (by kernel_rfl) (by kernel_rfl)) ?_
  intro W base args ds gs before hval0 hW hcnd _
  have hval : ∀ (j : Nat) t v, Try.f3.params[j]? = some t → args[j]? = some v → Value.okWide Try.prog W .any base t v := hval0
  have hW' := hW
  obtain ⟨p, q, hA0, hV, rfl, hfz, hnd⟩ := hW
  have hA : DataW.TrodAll enc Try.prog W 0 (fun _ => true) true Try.f3.params.toList args.toList ds p := hA0
  rw [Try.params3] at hA hval
  obtain ⟨v0, vs0, d0, ds0, p0, q0, hargs, rfl, rfl, h0, r0⟩ := trodAll_cons hA
  obtain ⟨v1, vs1, d1, ds1, p1, q1, rfl, rfl, rfl, h1, r1⟩ := trodAll_cons r0
  obtain ⟨v2, vs2, d2, ds2, p2, q2, rfl, rfl, rfl, h2, r2⟩ := trodAll_cons r1
  obtain ⟨rfl, rfl, rfl⟩ := trodAll_nil r2
  obtain rfl : args = #[v0, v1, v2] := by cases args; simp_all
  obtain ⟨rfl, rfl⟩ := trodVars_none hV
  have k0 := h0
  have lt0 : ∀ x ∈ p0, x.block < W.heap.size := by obtain ⟨m, hm⟩ := k0; exact DataW.trod_lt m _ _ _ hm
  obtain ⟨c0, s0, rfl⟩ := open_commit (hval 0 25 v0 rfl rfl) h0
  have k1 := h1
  have lt1 : ∀ x ∈ p1, x.block < W.heap.size := by obtain ⟨m, hm⟩ := k1; exact DataW.trod_lt m _ _ _ hm
  obtain ⟨c1, a1, len1, cap1, o1, rfl, s1⟩ := open_check (hval 1 29 v1 rfl rfl) h1
  have k2 := h2
  have lt2 : ∀ x ∈ p2, x.block < W.heap.size := by obtain ⟨m, hm⟩ := k2; exact DataW.trod_lt m _ _ _ hm
  obtain ⟨a2, len2, cap2, rfl⟩ := okWide_slice Try.underlying27 (hval 2 27 v2 rfl rfl)
  obtain ⟨z2, s2⟩ := open_bs h2
  clear hA0 hval0
  refine (tells23_any c0 s0 c1 o1 a1 len1 cap1 a2 len2 cap2 z2 W s1 s2).mono fun e W' ⟨he, bel⟩ => ?_
  subst he
  exact ⟨_, rfl, _, _, _, [], _, [], hW', trodAll_mk1 (shut_bool Try.underlying4 _), (trodAll_cons_mk (Below.trod Try.laidOut (by kernel_rfl) (of_decide_eq_true (by kernel_rfl)) k0 bel lt0) (trodAll_cons_mk (Below.trod Try.laidOut (by kernel_rfl) (of_decide_eq_true (by kernel_rfl)) k1 bel lt1) (trodAll_cons_mk (Below.trod Try.laidOut (by kernel_rfl) (of_decide_eq_true (by kernel_rfl)) k2 bel lt2) trodAll_mk0))), rfl, bel.frame _, fun h => by cases h⟩

set_option maxRecDepth 100000 in
theorem LedgerTells_closed : joinedFacts Try.checked.prog 3 Try.f3 Rows.ledgerTellsSpec Rows.ledgerTellsRow = true := by
  unfold joinedFacts
  rw [closed_laid, closed_maps, closed_heard, closed_plain, closed_mayEnter, closed_lifts, closed_make]
  kernel_rfl

theorem LedgerTells_holds : Rows.LedgerTellsSaid :=
  OpenClaim.holds_of_wide 3 Try.f3 rfl rfl rfl rfl rfl rfl rfl ⟨rfl, rfl, rfl, rfl, rfl⟩ rfl rfl rfl rfl rfl (by kernel_rfl) Try.func3 LedgerTells_closed
    (of_decide_eq_true (by kernel_rfl)) (by unfold Func.isWrapper; first | (rw [if_pos (by decide +kernel)]; kernel_rfl) | (rw [if_neg (by decide +kernel)]; exact ⟨rfl, rfl⟩))
    (fun os started H enc _ => LedgerTells_lifted os started H enc)
#print axioms LedgerTells_holds
end Go.Proofs.Ytfldgaiiniknpaa
