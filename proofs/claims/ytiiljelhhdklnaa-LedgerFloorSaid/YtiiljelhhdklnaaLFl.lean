
/- LedgerFloor: the floor never falls, and a commit ends a checkpoint. -/
import Derived.Test.YtiiljelhhdklnaaLFlXLg14
import Derived.Test.YtiiljelhhdklnaaLFlXJlSized
import Derived.Test.YtiiljelhhdklnaaLFlXLgArg
import Derived.Test.YtiiljelhhdklnaaLFlb
namespace Go.Proofs.Ytiiljelhhdklnaa
open Go.RowKit Go.ChangeShapes Go.WideShapes Go.Deep

theorem byt_map {w : World} {P : Nat → Prop} {rs : List RV} (h : Bds w P rs) : ∀ r ∈ rs.map RV.r, Byt r.b := fun r hr => by
  obtain ⟨x, hx, rfl⟩ := List.mem_map.1 hr
  exact (h.bs x hx).byte
theorem Bds.app {w : World} {P Q : Nat → Prop} {rs ms : List RV} (h : Bds w P rs) (h2 : Bds w Q ms) : Bds w (fun _ => True) (rs ++ ms) :=
  ⟨fun r hr => (List.mem_append.1 hr).elim (h.bs r) (h2.bs r), fun r hr b hb => ⟨trivial, (List.mem_append.1 hr).elim (fun h1 => (h.p r h1 b hb).2) (fun h1 => (h2.p r h1 b hb).2)⟩⟩
set_option maxRecDepth 100000 in
set_option maxHeartbeats 6400000 in
theorem floor_any (A0 A1 : Option Addr) (n0 c0 n1 c1 : Nat) (rs ms : List RV) (c : Com) (oc : c.ok) (W : World) (h0 : Rws W A0 n0 c0 rs) (b0 : Bds W (fun _ => True) rs) (h1 : Rws W A1 n1 c1 ms) (b1 : Bds W (fun _ => True) ms) :
    Calls Try.prog 5 #[.slice A0 n0 c0, .slice A1 n1 c1, c.v] W fun e W' => e = .returned (.bool true) ∧ Below W.heap.size W W' := by
  have y0 := h0.le
  have x0 := h0.max
  have y1 := h1.le
  have x1 := h1.max
  have H0 := Lib.hid h0
  have H1 := Lib.hid h1
  have B0 := Lib.hid b0
  have B1 := Lib.hid b1
  have L0 := Lib.hid h0.len
  have L1 := Lib.hid h1.len
  have CO := Lib.hid oc
  obtain ⟨w0, hw0⟩ : ∃ x, W.alloc (.cells c.cs.toArray 26) = x := ⟨_, rfl⟩
  have CB0 : Hid (Blk w0 W.heap.size c.cs 26) := by rw [← hw0]; exact Blk.new W c.cs 26
  have K0 : Hid (Keeps None W w0) := by rw [← hw0]; exact (Keeps.refl None W).alloc _
  have AL := Lib.hid (alive23_any w0)
  have PUT := Lib.hid (fun w => lgputc_any c oc w)
  unfold Com.v at PUT ⊢
  obtain ⟨V, hV⟩ : ∃ V, c.cs.toArray = V := ⟨_, rfl⟩
  rw [hV] at hw0 ⊢
  have HV := Lib.hid hV
  clear h0 h1 b0 b1 oc hV
  go_enter Try.func5, Try.ntmps5
  go_wp2_with fail
  refine AL.out.mono ?_
  rintro e w1 ⟨rfl, k1⟩
  have K1 := Lib.hid (K0.out.trans k1 (T := None) (fun _ h => h) (fun _ _ h => h))
  have CB := Lib.hid (k1.blk CB0.out (fun h => h))
  clear k1 CB0 K0 hw0 AL
  by_cases g1 : 20 < n0
  · have d1 : decide (20 < (n0 : Int)) = true := decide_eq_true (by omega)
    go_wp2
    go_ret
    exact ⟨rfl, K1.out.below (fun _ _ h => h)⟩
  have d1 : decide (20 < (n0 : Int)) = false := decide_eq_false (by omega)
  by_cases g2 : 20 < n1
  · have d2 : decide (20 < (n1 : Int)) = true := decide_eq_true (by omega)
    go_wp2
    go_ret
    exact ⟨rfl, K1.out.below (fun _ _ h => h)⟩
  have d2 : decide (20 < (n1 : Int)) = false := decide_eq_false (by omega)
  have GG : Hid (n0 ≤ 20 ∧ n1 ≤ 20) := ⟨by omega, by omega⟩
  clear g1 g2
  go_wp2_with (at_builtin; refine Hid.out ?_)
  refine Lib.hid ?_
  refine wpList_append_recs (OwnR.nil w1 w1.heap.size) (H0.out.later K1.out) (by have := GG.out; simp; omega) (Nat.le_refl _) (by rfl) (by rfl) (by rfl) (by rfl) (by rfl) ?_
  intro v2 w2 o2 k2 _
  rw [List.nil_append] at o2
  obtain ⟨A2, c2, rfl, r2, -⟩ := o2.shape
  have q2 := r2.le
  have q3 := r2.max
  rw [L0.out] at o2 q2 ⊢
  have K12 : Hid (Keeps None w1 w2) := k2.mono (fun i hi e => by simp [Value.ownBlock] at e)
  have O2 := Lib.hid o2
  have K2 := Lib.hid (K1.out.trans K12.out (T := None) (fun _ h => h) (fun _ _ h => h))
  clear o2 k2 r2
  go_wp2_with (at_builtin; refine Hid.out ?_)
  refine Lib.hid ?_
  refine wpList_append_recs O2.out (H1.out.later K2.out) (by have := GG.out; have := L0.out; omega) K12.out.size (by rfl) (by rfl) (by rfl) (by rfl) (by rfl) ?_
  intro v3 w3 o3 k3 _
  have W1 := K1.out.size
  have cbw := CB.out.lt
  have K13 : Hid (Keeps None w1 w3) := K12.out.trans k3 (fun _ h => h) (fun b hb e => absurd (O2.out.block e).1 (by omega))
  have K3 := Lib.hid (K1.out.trans K13.out (T := None) (fun _ h => h) (fun _ _ h => h))
  obtain ⟨A3, c3, rfl, r3, -⟩ := o3.shape
  have q4 := r3.le
  have q5 := r3.max
  have LL : Hid ((rs ++ ms).length = n0 + n1) := by show _ = _; rw [List.length_append, L0.out, L1.out]
  have BA : Hid (∀ w, Keeps None W w → Bds w (fun _ => True) (rs ++ ms)) := fun w k => (B0.out.later k).app (B1.out.later k)
  have FA := Lib.hid (fun w (k : Keeps None W w) => lgfold_any _ _ _ _ _ w (H0.out.later k) (B0.out.later k))
  have FB := Lib.hid (fun w (r : Rws w A3 (n0 + n1) c3 (rs ++ ms)) (k : Keeps None W w) => lgfold_any _ _ _ _ _ w r (BA.out w k))
  rw [LL.out] at o3 r3 q4 ⊢
  have HA := Lib.hid (foldS_inv (byt_map B0.out))
  have HB := Lib.hid (foldS_inv (l := (rs ++ ms).map RV.r) (by rw [List.map_append]; intro r hr; exact (List.mem_append.1 hr).elim (byt_map B0.out r) (byt_map B1.out r)))
  have FL1 : (foldS (rs.map RV.r)).c.fl ≤ (foldS ((rs ++ ms).map RV.r)).c.fl := by rw [List.map_append, foldS_append]; exact foldl_floor _ _
  have SL1 : 0 ≤ (foldS (rs.map RV.r)).c.slot → 0 ≤ (foldS ((rs ++ ms).map RV.r)).c.slot := by rw [List.map_append, foldS_append]; exact foldl_slot _ (byt_map B1.out)
  have FDD : Hid (foldS ((rs ++ ms).map RV.r ++ [⟨2, 0, comL c⟩]) = stepS (foldS ((rs ++ ms).map RV.r)) ⟨2, 0, comL c⟩) := by show _ = _; rw [foldS_append, List.foldl_cons, List.foldl_nil]
  have R3 := Lib.hid r3
  have O3 : Hid (OwnR w3 w1.heap.size (.slice A3 (n0 + n1) c3) (rs ++ ms)) := o3
  have OWN : Hid (∀ b, (Value.slice A3 (n0 + n1) c3).ownBlock = some b → w1.heap.size ≤ b ∧ b < w3.heap.size) := fun b e => o3.block e
  obtain ⟨sa, hsa⟩ : ∃ x, foldS (rs.map RV.r) = x := ⟨_, rfl⟩
  obtain ⟨sb, hsb⟩ : ∃ x, foldS ((rs ++ ms).map RV.r) = x := ⟨_, rfl⟩
  rw [hsa] at FA HA FL1 SL1
  rw [hsb] at FB HB FL1 SL1 FDD
  have AO := Lib.hid HA.out.ok
  have BO := Lib.hid HB.out.ok
  have CB3 := Lib.hid (K13.out.blk CB.out (fun h => h))
  clear hsa hsb o3 k3 r3 K12 O2 K2 CB d1 d2
  go_wp2_with fail
  refine (FA.out _ K3.out).mono ?_
  rintro e w4 ⟨A4, n4, c4, rfl, -, k4⟩
  have K4 := Lib.hid (K3.out.trans k4 (T := None) (fun _ h => h) (fun _ _ h => h))
  have R4 := Lib.hid (R3.out.later k4)
  have O4 := Lib.hid (O3.out.later k4)
  have CB4 := Lib.hid (k4.blk CB3.out (fun h => h))
  have S4 := k4.size
  have S3 := K13.out.size
  clear k4 FA K3 R3 O3 CB3
  unfold St.v
  -- a state that Fold gives, put into a block: w4 the world ahead, sa state, A4 n4 c4 its slice, AO its fact, w5 behind
  have NBx := Lib.hid (Blk.new w4 (stZ.cs none 0 0) 32)
  have KNx : Hid (Keeps None w4 ((w4).alloc (.cells (stZ.cs none 0 0).toArray 32))) := (Keeps.refl None w4).alloc _
  rw [← st_zero] at NBx KNx
  go_wp2_with (refine wpList_store_blk (b := (w4).heap.size) (o := 0) (ds := St.cs sa A4 n4 c4) NBx.out (by rw [St.cs_len AO.out, St.cs_len stZ_ok]; decide) (St.cs_one _ _ _ _) rfl rfl rfl rfl (by rw [St.cs_len AO.out]; exact st_size) ?_)
  intro w5 bx kx
  rw [splice_all (by rw [St.cs_len AO.out, St.cs_len stZ_ok])] at bx
  have SBw5 := Lib.hid bx
  have Kw5 := Lib.hid (KNx.out.trans kx (T := None) (fun _ h => h) (fun b hb e => absurd e (by omega)))
  clear bx kx NBx KNx
  have SZ5 := SBw5.out.lt
  have K5 := Lib.hid (K4.out.trans Kw5.out (T := None) (fun _ h => h) (fun _ _ h => h))
  have R5 := Lib.hid (R4.out.later Kw5.out)
  have O5 := Lib.hid (O4.out.later Kw5.out)
  have CB5 := Lib.hid (Kw5.out.blk CB4.out (fun h => h))
  clear K4 R4 O4 CB4
  go_wp2_with fail
  refine (FB.out _ R5.out K5.out).mono ?_
  rintro e w6 ⟨A6, n6, c6, rfl, -, k6⟩
  have K6 := Lib.hid (K5.out.trans k6 (T := None) (fun _ h => h) (fun _ _ h => h))
  have O6 := Lib.hid (O5.out.later k6)
  have SA6 := Lib.hid (k6.blk SBw5.out (fun h => h))
  have CB6 := Lib.hid (k6.blk CB5.out (fun h => h))
  have S6 := k6.size
  clear k6 FB K5 R5 O5 CB5 SBw5 Kw5
  unfold St.v
  -- a state that Fold gives, put into a block: w6 the world ahead, sb state, A6 n6 c6 its slice, BO its fact, w7 behind
  have NBx := Lib.hid (Blk.new w6 (stZ.cs none 0 0) 32)
  have KNx : Hid (Keeps None w6 ((w6).alloc (.cells (stZ.cs none 0 0).toArray 32))) := (Keeps.refl None w6).alloc _
  rw [← st_zero] at NBx KNx
  go_wp2_with (refine wpList_store_blk (b := (w6).heap.size) (o := 0) (ds := St.cs sb A6 n6 c6) NBx.out (by rw [St.cs_len BO.out, St.cs_len stZ_ok]; decide) (St.cs_one _ _ _ _) rfl rfl rfl rfl (by rw [St.cs_len BO.out]; exact st_size) ?_)
  intro w7 bx kx
  rw [splice_all (by rw [St.cs_len BO.out, St.cs_len stZ_ok])] at bx
  have SBw7 := Lib.hid bx
  have Kw7 := Lib.hid (KNx.out.trans kx (T := None) (fun _ h => h) (fun b hb e => absurd e (by omega)))
  clear bx kx NBx KNx
  have K7 := Lib.hid (K6.out.trans Kw7.out (T := None) (fun _ h => h) (fun _ _ h => h))
  have O7 := Lib.hid (O6.out.later Kw7.out)
  have SA7 := Lib.hid (Kw7.out.blk SA6.out (fun h => h))
  have CB7 := Lib.hid (Kw7.out.blk CB6.out (fun h => h))
  clear K6 O6 SA6 CB6
  have a0 := SA7.out.cellD 0 _ (St.cs_com AO.out A4 n4 c4 0 _ rfl)
  have a2 := SA7.out.cellD 2 _ (St.cs_com AO.out A4 n4 c4 2 _ rfl)
  have b0' := SBw7.out.cellD 0 _ (St.cs_com BO.out A6 n6 c6 0 _ rfl)
  have b2' := SBw7.out.cellD 2 _ (St.cs_com BO.out A6 n6 c6 2 _ rfl)
  have f1 : decide ((sb.c.fl : Int) < (sa.c.fl : Int)) = false := decide_eq_false (by omega)
  by_cases gs : 0 ≤ sa.c.slot
  · have f2 : decide (0 ≤ sa.c.slot) = true := decide_eq_true gs
    have f3 : decide (sb.c.slot < 0) = false := decide_eq_false (by have := SL1 gs; omega)
    go_wp2_with (refine wpList_load_blk (b := W.heap.size) (o := 0) (ds := c.cs) CB7.out (fun j v hv => by rw [Nat.zero_add]; exact hv) rfl rfl rfl Try.underlying26 rfl (by rw [Com.cs_len CO.out]; exact com_size) ?_)
    go_wp2_with fail
    refine (PUT.out _).mono ?_
    rintro e w8 ⟨v8, rfl, o8, k8⟩
    obtain ⟨A8, c8, rfl, b8, -⟩ := o8.shape
    have q8 := b8.le
    have q9 := b8.max
    have K8 := Lib.hid (K7.out.trans k8 (T := None) (fun _ h => h) (fun _ _ h => h))
    by_cases hm : c.may
    case neg =>
      have L0' : (comL c).length = 0 := Nat.eq_zero_of_not_pos (fun h => hm (comL_pos.1 h))
      rw [L0']
      clear o8 k8 b8
      go_wp2
      go_ret
      exact ⟨rfl, K8.out.below (fun _ _ h => h)⟩
    have L96 : (comL c).length = 96 := by rw [comL_len hm, CO.out.ml]
    have HL96 := Lib.hid L96
    have O8 := Lib.hid (O7.out.later k8)
    have SB8 := Lib.hid (k8.blk SBw7.out (fun h => h))
    have CB8 := Lib.hid (k8.blk CB7.out (fun h => h))
    have BY8 := Lib.hid (chkV_own o8)
    rw [L96] at b8 q8 BY8 ⊢
    have S8 := k8.size
    have S7 := Kw7.out.size
    clear o8 k8 b8 K7 O7 SBw7 CB7 SA7 a0 a2 b0' b2' L96
    go_wp2_with (at_builtin; refine Hid.out ?_)
    refine Lib.hid ?_
    refine wpList_append_recs (ns := [⟨2, 0, A8, c8, comL c⟩]) (O8.out.later ((Keeps.refl None w8).alloc _)) (Rws.one _ (by
      show Blk _ _ [.int .i64 2, .int .i64 0, .slice A8 (comL c).length c8] _
      rw [HL96.out]
      exact Blk.new w8 [.int .i64 2, .int .i64 0, .slice A8 96 c8] 42)) (by rw [LL.out]; have := GG.out; omega) (by simp; omega) (by rfl) (by rfl) (by rfl) (by rfl) (by rfl) ?_
    intro v9 w9 o9 k9 _
    have K89 := Lib.hid (((Keeps.refl None w8).alloc (.cells #[.int .i64 2, .int .i64 0, .slice A8 96 c8] 42)).trans k9 (T := fun k => (Value.slice A3 (n0 + n1) c3).ownBlock = some k) (fun _ h => absurd h (fun h => h)) (fun _ _ h => h))
    have K9 := Lib.hid (K8.out.trans K89.out (T := None) (fun _ h => h) (fun b hb e => absurd (OWN.out b e).1 (by omega)))
    have SB9 := Lib.hid (K89.out.blk SB8.out (fun e => by have := (OWN.out _ e).2; omega))
    have CB9 := Lib.hid (K89.out.blk CB8.out (fun e => by have := (OWN.out _ e).1; omega))
    have BC9 := Lib.hid (BY8.out.keeps K89.out (fun b hb e => by have := (OWN.out _ e).2; omega))
    obtain ⟨A9, c9, rfl, r9, -⟩ := o9.shape
    have p9 := r9.le
    have p10 := r9.max
    have BD9 : Hid (Bds w9 (fun _ => True) ((rs ++ ms) ++ [⟨2, 0, A8, c8, comL c⟩])) := (BA.out w9 K9.out).app (Q := fun _ => True) ⟨fun r hr => by rw [List.mem_singleton.1 hr]; show Bs w9 A8 (comL c).length c8 _; rw [HL96.out]; exact BC9.out.b, fun r hr b hb => ⟨trivial, by
      rw [List.mem_singleton.1 hr] at hb
      obtain ⟨off, h0, e⟩ := hb
      exact (BC9.out.p b off (by have : 0 < (comL c).length := h0; rw [HL96.out] at this; exact this) e).2⟩⟩
    have FC := Lib.hid (lgfold_any _ _ _ _ _ w9 r9 BD9.out)
    have LN9 : ((rs ++ ms) ++ [(⟨2, 0, A8, c8, comL c⟩ : RV)]).length = n0 + n1 + 1 := by rw [List.length_append, LL.out]; rfl
    rw [List.map_append (l₁ := rs ++ ms), show ([(⟨2, 0, A8, c8, comL c⟩ : RV)]).map RV.r = [⟨2, 0, comL c⟩] from rfl] at FC
    rw [LN9] at FC p9 ⊢
    clear o9 k9 r9 K89 BC9 BD9 SB8 CB8 K8 O8 BY8
    by_cases gm : c.fl < sb.c.fl
    · skip
      -- sb.c.fl the floor behind
      have DE : Hid (foldS ((rs ++ ms).map RV.r ++ [⟨2, 0, comL c⟩]) = ⟨⟨c.slot, c.ver, sb.c.fl, c.len, c.me⟩, false, chk0⟩) := by
        show _ = _
        rw [FDD.out, stepS_com hm CO.out]
        rw [show max c.fl sb.c.fl = sb.c.fl by omega]
      obtain ⟨D, hD⟩ : ∃ D : Com, (⟨c.slot, c.ver, sb.c.fl, c.len, c.me⟩ : Com) = D := ⟨_, rfl⟩
      have DV : Hid (D.ver = c.ver ∧ D.fl = sb.c.fl) := by show _ ∧ _; rw [← hD]; exact ⟨rfl, rfl⟩
      have DO : Hid ((⟨D, false, chk0⟩ : St).ok) := by
        show (⟨D, false, chk0⟩ : St).ok
        rw [← hD]
        exact ⟨⟨CO.out.v, (by have h1 := CO.out.f; have h2 := BO.out.c.f; show sb.c.fl < _; omega), CO.out.ml, CO.out.mb⟩, chk0_ok⟩
      rw [hD] at DE
      clear hD
      rw [DE.out] at FC
      go_wp2_with fail
      refine FC.out.mono ?_
      rintro e wA ⟨AA, nA, cA, rfl, -, kA⟩
      have KA := Lib.hid (K9.out.trans kA (T := None) (fun _ h => h) (fun _ _ h => h))
      have SBA := Lib.hid (kA.blk SB9.out (fun h => h))
      have CBA := Lib.hid (kA.blk CB9.out (fun h => h))
      have SZA := kA.size
      clear kA K9 SB9 CB9 FC
      unfold St.v
      -- a state that Fold gives, put into a block: wA the world ahead, (⟨D, false, chk0⟩ : St) state, AA nA cA its slice, DO its fact, wB behind
      have NBx := Lib.hid (Blk.new wA (stZ.cs none 0 0) 32)
      have KNx : Hid (Keeps None wA ((wA).alloc (.cells (stZ.cs none 0 0).toArray 32))) := (Keeps.refl None wA).alloc _
      rw [← st_zero] at NBx KNx
      go_wp2_with (refine wpList_store_blk (b := (wA).heap.size) (o := 0) (ds := St.cs (⟨D, false, chk0⟩ : St) AA nA cA) NBx.out (by rw [St.cs_len DO.out, St.cs_len stZ_ok]; decide) (St.cs_one _ _ _ _) rfl rfl rfl rfl (by rw [St.cs_len DO.out]; exact st_size) ?_)
      intro wB bx kx
      rw [splice_all (by rw [St.cs_len DO.out, St.cs_len stZ_ok])] at bx
      have SBwB := Lib.hid bx
      have KwB := Lib.hid (KNx.out.trans kx (T := None) (fun _ h => h) (fun b hb e => absurd e (by omega)))
      clear bx kx NBx KNx
      have KB := Lib.hid (KA.out.trans KwB.out (T := None) (fun _ h => h) (fun _ _ h => h))
      have c1' := (KwB.out.blk CBA.out (fun h => h)).cellD 1 _ rfl
      have c2' := (KwB.out.blk CBA.out (fun h => h)).cellD 2 _ rfl
      have b2' := (KwB.out.blk SBA.out (fun h => h)).cellD 2 _ (St.cs_com BO.out A6 n6 c6 2 _ rfl)
      have e68 := SBwB.out.cellD 68 _ (St.cs_has DO.out AA nA cA)
      have e1 := SBwB.out.cellD 1 _ (St.cs_com DO.out AA nA cA 1 _ rfl)
      have e2 := SBwB.out.cellD 2 _ (St.cs_com DO.out AA nA cA 2 _ rfl)
      dsimp only at e68 e1 e2
      rw [DV.out.1] at e1
      rw [DV.out.2] at e2
      have t1 : decide ((c.fl : Int) ≤ ((sb.c.fl : Nat) : Int)) = true := decide_eq_true (by omega)
      have t2 : decide ((sb.c.fl : Int) ≤ ((sb.c.fl : Nat) : Int)) = true := decide_eq_true (by omega)
      clear KA SBA CBA SBwB KwB
      go_wp2
      go_ret
      exact ⟨rfl, KB.out.below (fun _ _ h => h)⟩
    · skip
      -- c.fl the floor behind
      have DE : Hid (foldS ((rs ++ ms).map RV.r ++ [⟨2, 0, comL c⟩]) = ⟨⟨c.slot, c.ver, c.fl, c.len, c.me⟩, false, chk0⟩) := by
        show _ = _
        rw [FDD.out, stepS_com hm CO.out]
        rw [show max c.fl sb.c.fl = c.fl by omega]
      obtain ⟨D, hD⟩ : ∃ D : Com, (⟨c.slot, c.ver, c.fl, c.len, c.me⟩ : Com) = D := ⟨_, rfl⟩
      have DV : Hid (D.ver = c.ver ∧ D.fl = c.fl) := by show _ ∧ _; rw [← hD]; exact ⟨rfl, rfl⟩
      have DO : Hid ((⟨D, false, chk0⟩ : St).ok) := by
        show (⟨D, false, chk0⟩ : St).ok
        rw [← hD]
        exact ⟨⟨CO.out.v, (by have h1 := CO.out.f; have h2 := BO.out.c.f; show c.fl < _; omega), CO.out.ml, CO.out.mb⟩, chk0_ok⟩
      rw [hD] at DE
      clear hD
      rw [DE.out] at FC
      go_wp2_with fail
      refine FC.out.mono ?_
      rintro e wA ⟨AA, nA, cA, rfl, -, kA⟩
      have KA := Lib.hid (K9.out.trans kA (T := None) (fun _ h => h) (fun _ _ h => h))
      have SBA := Lib.hid (kA.blk SB9.out (fun h => h))
      have CBA := Lib.hid (kA.blk CB9.out (fun h => h))
      have SZA := kA.size
      clear kA K9 SB9 CB9 FC
      unfold St.v
      -- a state that Fold gives, put into a block: wA the world ahead, (⟨D, false, chk0⟩ : St) state, AA nA cA its slice, DO its fact, wB behind
      have NBx := Lib.hid (Blk.new wA (stZ.cs none 0 0) 32)
      have KNx : Hid (Keeps None wA ((wA).alloc (.cells (stZ.cs none 0 0).toArray 32))) := (Keeps.refl None wA).alloc _
      rw [← st_zero] at NBx KNx
      go_wp2_with (refine wpList_store_blk (b := (wA).heap.size) (o := 0) (ds := St.cs (⟨D, false, chk0⟩ : St) AA nA cA) NBx.out (by rw [St.cs_len DO.out, St.cs_len stZ_ok]; decide) (St.cs_one _ _ _ _) rfl rfl rfl rfl (by rw [St.cs_len DO.out]; exact st_size) ?_)
      intro wB bx kx
      rw [splice_all (by rw [St.cs_len DO.out, St.cs_len stZ_ok])] at bx
      have SBwB := Lib.hid bx
      have KwB := Lib.hid (KNx.out.trans kx (T := None) (fun _ h => h) (fun b hb e => absurd e (by omega)))
      clear bx kx NBx KNx
      have KB := Lib.hid (KA.out.trans KwB.out (T := None) (fun _ h => h) (fun _ _ h => h))
      have c1' := (KwB.out.blk CBA.out (fun h => h)).cellD 1 _ rfl
      have c2' := (KwB.out.blk CBA.out (fun h => h)).cellD 2 _ rfl
      have b2' := (KwB.out.blk SBA.out (fun h => h)).cellD 2 _ (St.cs_com BO.out A6 n6 c6 2 _ rfl)
      have e68 := SBwB.out.cellD 68 _ (St.cs_has DO.out AA nA cA)
      have e1 := SBwB.out.cellD 1 _ (St.cs_com DO.out AA nA cA 1 _ rfl)
      have e2 := SBwB.out.cellD 2 _ (St.cs_com DO.out AA nA cA 2 _ rfl)
      dsimp only at e68 e1 e2
      rw [DV.out.1] at e1
      rw [DV.out.2] at e2
      have t1 : decide ((c.fl : Int) ≤ ((c.fl : Nat) : Int)) = true := decide_eq_true (by omega)
      have t2 : decide ((sb.c.fl : Int) ≤ ((c.fl : Nat) : Int)) = true := decide_eq_true (by omega)
      clear KA SBA CBA SBwB KwB
      go_wp2
      go_ret
      exact ⟨rfl, KB.out.below (fun _ _ h => h)⟩
  · have f2 : decide (0 ≤ sa.c.slot) = false := decide_eq_false gs
    go_wp2_with (refine wpList_load_blk (b := W.heap.size) (o := 0) (ds := c.cs) CB7.out (fun j v hv => by rw [Nat.zero_add]; exact hv) rfl rfl rfl Try.underlying26 rfl (by rw [Com.cs_len CO.out]; exact com_size) ?_)
    go_wp2_with fail
    refine (PUT.out _).mono ?_
    rintro e w8 ⟨v8, rfl, o8, k8⟩
    obtain ⟨A8, c8, rfl, b8, -⟩ := o8.shape
    have q8 := b8.le
    have q9 := b8.max
    have K8 := Lib.hid (K7.out.trans k8 (T := None) (fun _ h => h) (fun _ _ h => h))
    by_cases hm : c.may
    case neg =>
      have L0' : (comL c).length = 0 := Nat.eq_zero_of_not_pos (fun h => hm (comL_pos.1 h))
      rw [L0']
      clear o8 k8 b8
      go_wp2
      go_ret
      exact ⟨rfl, K8.out.below (fun _ _ h => h)⟩
    have L96 : (comL c).length = 96 := by rw [comL_len hm, CO.out.ml]
    have HL96 := Lib.hid L96
    have O8 := Lib.hid (O7.out.later k8)
    have SB8 := Lib.hid (k8.blk SBw7.out (fun h => h))
    have CB8 := Lib.hid (k8.blk CB7.out (fun h => h))
    have BY8 := Lib.hid (chkV_own o8)
    rw [L96] at b8 q8 BY8 ⊢
    have S8 := k8.size
    have S7 := Kw7.out.size
    clear o8 k8 b8 K7 O7 SBw7 CB7 SA7 a0 a2 b0' b2' L96
    go_wp2_with (at_builtin; refine Hid.out ?_)
    refine Lib.hid ?_
    refine wpList_append_recs (ns := [⟨2, 0, A8, c8, comL c⟩]) (O8.out.later ((Keeps.refl None w8).alloc _)) (Rws.one _ (by
      show Blk _ _ [.int .i64 2, .int .i64 0, .slice A8 (comL c).length c8] _
      rw [HL96.out]
      exact Blk.new w8 [.int .i64 2, .int .i64 0, .slice A8 96 c8] 42)) (by rw [LL.out]; have := GG.out; omega) (by simp; omega) (by rfl) (by rfl) (by rfl) (by rfl) (by rfl) ?_
    intro v9 w9 o9 k9 _
    have K89 := Lib.hid (((Keeps.refl None w8).alloc (.cells #[.int .i64 2, .int .i64 0, .slice A8 96 c8] 42)).trans k9 (T := fun k => (Value.slice A3 (n0 + n1) c3).ownBlock = some k) (fun _ h => absurd h (fun h => h)) (fun _ _ h => h))
    have K9 := Lib.hid (K8.out.trans K89.out (T := None) (fun _ h => h) (fun b hb e => absurd (OWN.out b e).1 (by omega)))
    have SB9 := Lib.hid (K89.out.blk SB8.out (fun e => by have := (OWN.out _ e).2; omega))
    have CB9 := Lib.hid (K89.out.blk CB8.out (fun e => by have := (OWN.out _ e).1; omega))
    have BC9 := Lib.hid (BY8.out.keeps K89.out (fun b hb e => by have := (OWN.out _ e).2; omega))
    obtain ⟨A9, c9, rfl, r9, -⟩ := o9.shape
    have p9 := r9.le
    have p10 := r9.max
    have BD9 : Hid (Bds w9 (fun _ => True) ((rs ++ ms) ++ [⟨2, 0, A8, c8, comL c⟩])) := (BA.out w9 K9.out).app (Q := fun _ => True) ⟨fun r hr => by rw [List.mem_singleton.1 hr]; show Bs w9 A8 (comL c).length c8 _; rw [HL96.out]; exact BC9.out.b, fun r hr b hb => ⟨trivial, by
      rw [List.mem_singleton.1 hr] at hb
      obtain ⟨off, h0, e⟩ := hb
      exact (BC9.out.p b off (by have : 0 < (comL c).length := h0; rw [HL96.out] at this; exact this) e).2⟩⟩
    have FC := Lib.hid (lgfold_any _ _ _ _ _ w9 r9 BD9.out)
    have LN9 : ((rs ++ ms) ++ [(⟨2, 0, A8, c8, comL c⟩ : RV)]).length = n0 + n1 + 1 := by rw [List.length_append, LL.out]; rfl
    rw [List.map_append (l₁ := rs ++ ms), show ([(⟨2, 0, A8, c8, comL c⟩ : RV)]).map RV.r = [⟨2, 0, comL c⟩] from rfl] at FC
    rw [LN9] at FC p9 ⊢
    clear o9 k9 r9 K89 BC9 BD9 SB8 CB8 K8 O8 BY8
    by_cases gm : c.fl < sb.c.fl
    · skip
      -- sb.c.fl the floor behind
      have DE : Hid (foldS ((rs ++ ms).map RV.r ++ [⟨2, 0, comL c⟩]) = ⟨⟨c.slot, c.ver, sb.c.fl, c.len, c.me⟩, false, chk0⟩) := by
        show _ = _
        rw [FDD.out, stepS_com hm CO.out]
        rw [show max c.fl sb.c.fl = sb.c.fl by omega]
      obtain ⟨D, hD⟩ : ∃ D : Com, (⟨c.slot, c.ver, sb.c.fl, c.len, c.me⟩ : Com) = D := ⟨_, rfl⟩
      have DV : Hid (D.ver = c.ver ∧ D.fl = sb.c.fl) := by show _ ∧ _; rw [← hD]; exact ⟨rfl, rfl⟩
      have DO : Hid ((⟨D, false, chk0⟩ : St).ok) := by
        show (⟨D, false, chk0⟩ : St).ok
        rw [← hD]
        exact ⟨⟨CO.out.v, (by have h1 := CO.out.f; have h2 := BO.out.c.f; show sb.c.fl < _; omega), CO.out.ml, CO.out.mb⟩, chk0_ok⟩
      rw [hD] at DE
      clear hD
      rw [DE.out] at FC
      go_wp2_with fail
      refine FC.out.mono ?_
      rintro e wA ⟨AA, nA, cA, rfl, -, kA⟩
      have KA := Lib.hid (K9.out.trans kA (T := None) (fun _ h => h) (fun _ _ h => h))
      have SBA := Lib.hid (kA.blk SB9.out (fun h => h))
      have CBA := Lib.hid (kA.blk CB9.out (fun h => h))
      have SZA := kA.size
      clear kA K9 SB9 CB9 FC
      unfold St.v
      -- a state that Fold gives, put into a block: wA the world ahead, (⟨D, false, chk0⟩ : St) state, AA nA cA its slice, DO its fact, wB behind
      have NBx := Lib.hid (Blk.new wA (stZ.cs none 0 0) 32)
      have KNx : Hid (Keeps None wA ((wA).alloc (.cells (stZ.cs none 0 0).toArray 32))) := (Keeps.refl None wA).alloc _
      rw [← st_zero] at NBx KNx
      go_wp2_with (refine wpList_store_blk (b := (wA).heap.size) (o := 0) (ds := St.cs (⟨D, false, chk0⟩ : St) AA nA cA) NBx.out (by rw [St.cs_len DO.out, St.cs_len stZ_ok]; decide) (St.cs_one _ _ _ _) rfl rfl rfl rfl (by rw [St.cs_len DO.out]; exact st_size) ?_)
      intro wB bx kx
      rw [splice_all (by rw [St.cs_len DO.out, St.cs_len stZ_ok])] at bx
      have SBwB := Lib.hid bx
      have KwB := Lib.hid (KNx.out.trans kx (T := None) (fun _ h => h) (fun b hb e => absurd e (by omega)))
      clear bx kx NBx KNx
      have KB := Lib.hid (KA.out.trans KwB.out (T := None) (fun _ h => h) (fun _ _ h => h))
      have c1' := (KwB.out.blk CBA.out (fun h => h)).cellD 1 _ rfl
      have c2' := (KwB.out.blk CBA.out (fun h => h)).cellD 2 _ rfl
      have b2' := (KwB.out.blk SBA.out (fun h => h)).cellD 2 _ (St.cs_com BO.out A6 n6 c6 2 _ rfl)
      have e68 := SBwB.out.cellD 68 _ (St.cs_has DO.out AA nA cA)
      have e1 := SBwB.out.cellD 1 _ (St.cs_com DO.out AA nA cA 1 _ rfl)
      have e2 := SBwB.out.cellD 2 _ (St.cs_com DO.out AA nA cA 2 _ rfl)
      dsimp only at e68 e1 e2
      rw [DV.out.1] at e1
      rw [DV.out.2] at e2
      have t1 : decide ((c.fl : Int) ≤ ((sb.c.fl : Nat) : Int)) = true := decide_eq_true (by omega)
      have t2 : decide ((sb.c.fl : Int) ≤ ((sb.c.fl : Nat) : Int)) = true := decide_eq_true (by omega)
      clear KA SBA CBA SBwB KwB
      go_wp2
      go_ret
      exact ⟨rfl, KB.out.below (fun _ _ h => h)⟩
    · skip
      -- c.fl the floor behind
      have DE : Hid (foldS ((rs ++ ms).map RV.r ++ [⟨2, 0, comL c⟩]) = ⟨⟨c.slot, c.ver, c.fl, c.len, c.me⟩, false, chk0⟩) := by
        show _ = _
        rw [FDD.out, stepS_com hm CO.out]
        rw [show max c.fl sb.c.fl = c.fl by omega]
      obtain ⟨D, hD⟩ : ∃ D : Com, (⟨c.slot, c.ver, c.fl, c.len, c.me⟩ : Com) = D := ⟨_, rfl⟩
      have DV : Hid (D.ver = c.ver ∧ D.fl = c.fl) := by show _ ∧ _; rw [← hD]; exact ⟨rfl, rfl⟩
      have DO : Hid ((⟨D, false, chk0⟩ : St).ok) := by
        show (⟨D, false, chk0⟩ : St).ok
        rw [← hD]
        exact ⟨⟨CO.out.v, (by have h1 := CO.out.f; have h2 := BO.out.c.f; show c.fl < _; omega), CO.out.ml, CO.out.mb⟩, chk0_ok⟩
      rw [hD] at DE
      clear hD
      rw [DE.out] at FC
      go_wp2_with fail
      refine FC.out.mono ?_
      rintro e wA ⟨AA, nA, cA, rfl, -, kA⟩
      have KA := Lib.hid (K9.out.trans kA (T := None) (fun _ h => h) (fun _ _ h => h))
      have SBA := Lib.hid (kA.blk SB9.out (fun h => h))
      have CBA := Lib.hid (kA.blk CB9.out (fun h => h))
      have SZA := kA.size
      clear kA K9 SB9 CB9 FC
      unfold St.v
      -- a state that Fold gives, put into a block: wA the world ahead, (⟨D, false, chk0⟩ : St) state, AA nA cA its slice, DO its fact, wB behind
      have NBx := Lib.hid (Blk.new wA (stZ.cs none 0 0) 32)
      have KNx : Hid (Keeps None wA ((wA).alloc (.cells (stZ.cs none 0 0).toArray 32))) := (Keeps.refl None wA).alloc _
      rw [← st_zero] at NBx KNx
      go_wp2_with (refine wpList_store_blk (b := (wA).heap.size) (o := 0) (ds := St.cs (⟨D, false, chk0⟩ : St) AA nA cA) NBx.out (by rw [St.cs_len DO.out, St.cs_len stZ_ok]; decide) (St.cs_one _ _ _ _) rfl rfl rfl rfl (by rw [St.cs_len DO.out]; exact st_size) ?_)
      intro wB bx kx
      rw [splice_all (by rw [St.cs_len DO.out, St.cs_len stZ_ok])] at bx
      have SBwB := Lib.hid bx
      have KwB := Lib.hid (KNx.out.trans kx (T := None) (fun _ h => h) (fun b hb e => absurd e (by omega)))
      clear bx kx NBx KNx
      have KB := Lib.hid (KA.out.trans KwB.out (T := None) (fun _ h => h) (fun _ _ h => h))
      have c1' := (KwB.out.blk CBA.out (fun h => h)).cellD 1 _ rfl
      have c2' := (KwB.out.blk CBA.out (fun h => h)).cellD 2 _ rfl
      have b2' := (KwB.out.blk SBA.out (fun h => h)).cellD 2 _ (St.cs_com BO.out A6 n6 c6 2 _ rfl)
      have e68 := SBwB.out.cellD 68 _ (St.cs_has DO.out AA nA cA)
      have e1 := SBwB.out.cellD 1 _ (St.cs_com DO.out AA nA cA 1 _ rfl)
      have e2 := SBwB.out.cellD 2 _ (St.cs_com DO.out AA nA cA 2 _ rfl)
      dsimp only at e68 e1 e2
      rw [DV.out.1] at e1
      rw [DV.out.2] at e2
      have t1 : decide ((c.fl : Int) ≤ ((c.fl : Nat) : Int)) = true := decide_eq_true (by omega)
      have t2 : decide ((sb.c.fl : Int) ≤ ((c.fl : Nat) : Int)) = true := decide_eq_true (by omega)
      clear KA SBA CBA SBwB KwB
      go_wp2
      go_ret
      exact ⟨rfl, KB.out.below (fun _ _ h => h)⟩
set_option maxRecDepth 100000 in
theorem LedgerFloor_lifted (os : Os) (started : os.Started) (H : Type) (enc : TypeId × Value → H) :
    ReturnsInHanded {} Try.checked os 5 .any (Rows.ledgerFloorSpec.pre6 enc Try.prog Try.f5 Rows.ledgerFloorRow.domain false) (Rows.ledgerFloorSpec.post enc Try.prog Try.f5 false true false false) := by
  refine returnsInHanded_of_change_sized (C := Try.checked) Try.own started (by kernel_rfl) Try.func5
    (ChangeSpec.witness6 (enc := enc) (C := Try.checked) false ⟨#[], #[.slice none 0 0, .slice none 0 0, com0.v], []⟩ 8 (by kernel_rfl) (by kernel_rfl) (by kernel_rfl) (by kernel_rfl)) ?_
  intro W base args ds gs before hval0 hW hcnd hsz0 _
  have hsz : (DataW.weightsEach Try.prog (Try.f5.params.toList ++ []) (ds ++ gs)).all (· ≤ reachBytes) = true := hsz0
  have hval : ∀ (j : Nat) t v, Try.f5.params[j]? = some t → args[j]? = some v → Value.okWide Try.prog W .any base t v := hval0
  have hW' := hW
  obtain ⟨p, q, hA0, hV, rfl, hfz, hnd⟩ := hW
  have hA : DataW.TrodAll enc Try.prog W 0 (fun _ => true) true Try.f5.params.toList args.toList ds p := hA0
  rw [Try.params5] at hA hval hsz
  obtain ⟨v0, vs0, d0, ds0, p0, q0, hargs, rfl, rfl, h0, r0⟩ := trodAll_cons hA
  obtain ⟨v1, vs1, d1, ds1, p1, q1, rfl, rfl, rfl, h1, r1⟩ := trodAll_cons r0
  obtain ⟨v2, vs2, d2, ds2, p2, q2, rfl, rfl, rfl, h2, r2⟩ := trodAll_cons r1
  obtain ⟨rfl, rfl, rfl⟩ := trodAll_nil r2
  obtain rfl : args = #[v0, v1, v2] := by cases args; simp_all
  obtain ⟨rfl, rfl⟩ := trodVars_none hV
  have k0 := h0
  have lt0 : ∀ x ∈ p0, x.block < W.heap.size := by obtain ⟨m, hm⟩ := k0; exact DataW.trod_lt m _ _ _ hm
  obtain ⟨a0, len0, cap0, rfl⟩ := okWide_slice Try.underlying22 (hval 0 22 v0 rfl rfl)
  obtain ⟨z0, s0, b0⟩ := open_recs h0
  have bl0 := recs_sized h0 (fun k hk => by have := List.all_eq_true.1 hsz k (DataW.weights_mem_each (j := 0) (t := 22) rfl rfl k hk); simpa using this) s0
  have k1 := h1
  have lt1 : ∀ x ∈ p1, x.block < W.heap.size := by obtain ⟨m, hm⟩ := k1; exact DataW.trod_lt m _ _ _ hm
  obtain ⟨a1, len1, cap1, rfl⟩ := okWide_slice Try.underlying22 (hval 1 22 v1 rfl rfl)
  obtain ⟨z1, s1, b1⟩ := open_recs h1
  have bl1 := recs_sized h1 (fun k hk => by have := List.all_eq_true.1 hsz k (DataW.weights_mem_each (j := 1) (t := 22) rfl rfl k hk); simpa using this) s1
  have k2 := h2
  have lt2 : ∀ x ∈ p2, x.block < W.heap.size := by obtain ⟨m, hm⟩ := k2; exact DataW.trod_lt m _ _ _ hm
  obtain ⟨c2, s2, rfl⟩ := open_commit (hval 2 26 v2 rfl rfl) h2
  clear hA0 hval0 hsz0
  refine (floor_any a0 a1 len0 cap0 len1 cap1 z0 z1 c2 s2 W s0 b0 s1 b1).mono fun e W' ⟨he, bel⟩ => ?_
  subst he
  exact ⟨_, rfl, _, _, _, [], _, [], hW', trodAll_mk1 (shut_bool Try.underlying4 _), (trodAll_cons_mk (Below.trod Try.laidOut (by kernel_rfl) (of_decide_eq_true (by kernel_rfl)) k0 bel lt0) (trodAll_cons_mk (Below.trod Try.laidOut (by kernel_rfl) (of_decide_eq_true (by kernel_rfl)) k1 bel lt1) (trodAll_cons_mk (Below.trod Try.laidOut (by kernel_rfl) (of_decide_eq_true (by kernel_rfl)) k2 bel lt2) trodAll_mk0))), rfl, bel.frame _, fun h => by cases h⟩

set_option maxRecDepth 100000 in
theorem LedgerFloor_closed : joinedFacts Try.checked.prog 5 Try.f5 Rows.ledgerFloorSpec Rows.ledgerFloorRow = true := by
  unfold joinedFacts
  rw [closed_laid, closed_maps, closed_heard, closed_plain, closed_mayEnter, closed_lifts, closed_make]
  kernel_rfl

theorem LedgerFloor_holds : Rows.LedgerFloorSaid :=
  OpenClaim.holds_of_wide 5 Try.f5 rfl rfl rfl rfl rfl rfl rfl ⟨rfl, rfl, rfl, rfl, rfl⟩ rfl rfl rfl rfl rfl (by kernel_rfl) Try.func5 LedgerFloor_closed
    (of_decide_eq_true (by kernel_rfl)) (by unfold Func.isWrapper; first | (rw [if_pos (by decide +kernel)]; kernel_rfl) | (rw [if_neg (by decide +kernel)]; exact ⟨rfl, rfl⟩))
    (fun os started H enc _ => LedgerFloor_lifted os started H enc)
#print axioms LedgerFloor_holds
end Go.Proofs.Ytiiljelhhdklnaa
