
/- The walks of a ledger's State, Open, Commit, Check, Clear. -/
import Derived.Test.YtfldgaiiniknpaaLCuXLg11
namespace Go.Proofs.Ytfldgaiiniknpaa
open Go.RowKit

theorem inv_mid {st : St} (h : st.inv) : st.k.mid.length ≤ 200 := by
  cases e : st.has with
  | true => rw [midOk_len (h.k e).1.2.2]; exact Nat.le_refl _
  | false => rw [h.n e]; exact Nat.zero_le _
theorem St.cs_mid {s : St} (o : s.ok) (A : Option Addr) (n cap : Nat) : (s.cs A n cap)[81]? = some (.slice A n cap) := St.cs_chk o A n cap 12 _ (Chk.cs_mid o.k A n cap)
theorem St.cs_midset {s : St} (o : s.ok) (A A' : Option Addr) (n cap n' cap' : Nat) : (s.cs A n cap).set 81 (.slice A' n' cap') = s.cs A' n' cap' := by
  have l1 := Com.cs_len o.c
  unfold St.cs
  rw [List.set_append_right _ _ (by omega), l1]
  congr 1
  show .bool s.has :: (s.k.cs A n cap).set 12 _ = _
  congr 1
  unfold Chk.cs
  show _ :: _ :: _ :: _ :: (List.map (Value.int .u8) s.k.id ++ [Value.slice A n cap]).set 8 _ = _
  rw [List.set_append_right _ _ (by rw [List.length_map, o.k.il]; exact Nat.le_refl _), List.length_map, o.k.il]
  rfl
set_option maxRecDepth 100000 in
set_option maxHeartbeats 3200000 in
theorem lgstate_any {W w : World} {B q lb jb : Nat} {X : JX} {s : FS} {j : JS} {st : St} {A : Option Addr} {n cap : Nat} (h : LG W w B q lb jb X s j st A n cap) :
    Calls Try.prog 25 #[.pointer (some ⟨lb, 0, none⟩)] w (GotSt w (fun _ => False) st) := by
  have SO := Lib.hid h.inv.ok
  have ML := inv_mid h.inv
  have lbw := h.l.lt
  obtain ⟨w0, hw0⟩ : ∃ x, w.alloc (.cells Try.zeroCells39 39) = x := ⟨_, rfl⟩
  have RB : Hid (Blk w0 w.heap.size (stZ.cs none 0 0) 39) := by rw [← hw0, st_zero]; exact Blk.new w (stZ.cs none 0 0) 39
  have KB : Hid (Keeps None w w0) := by rw [← hw0]; exact (Keeps.refl None w).alloc _
  have S0 : w.heap.size < w0.heap.size := RB.out.lt
  have LB := Lib.hid (KB.out.blk h.l (fun h => h))
  have MM := Lib.hid (h.m.later KB.out)
  have LN := Lib.hid h.m.b.len
  have CLN := Lib.hid (fun w h => clone_any A n cap st.k.mid w h (by have := LN.out; omega))
  have NB1 : Hid (Blk (w0.alloc (.cells Try.zeroCells39 39)) w0.heap.size (stZ.cs none 0 0) 39) := by rw [st_zero]; exact Blk.new w0 (stZ.cs none 0 0) 39
  have KN1 : Hid (Keeps None w0 (w0.alloc (.cells Try.zeroCells39 39))) := (Keeps.refl None w0).alloc _
  clear h
  go_enter Try.func25, Try.ntmps25
  go_wp2_with (first | (refine wpList_load_blk (b := lb) (o := 1) (ds := st.cs A n cap) LB.out (fun j v hv => by rw [Nat.add_comm]; exact hv) rfl rfl rfl Try.underlying39 rfl (by rw [St.cs_len SO.out]; exact st_size) ?_) | (refine wpList_store_blk (b := w0.heap.size) (o := 0) (ds := st.cs A n cap) NB1.out (by rw [St.cs_len SO.out, St.cs_len stZ_ok]; decide) (St.cs_one _ _ _ _) rfl rfl rfl rfl (by rw [St.cs_len SO.out]; exact st_size) ?_))
  intro w2 b2 k2
  rw [splice_all (by rw [St.cs_len SO.out, St.cs_len stZ_ok])] at b2
  have SB := Lib.hid b2
  have K02 := Lib.hid (KN1.out.trans k2 (T := None) (fun _ h => h) (fun b hb e => absurd e (by omega)))
  have RB2 := Lib.hid (K02.out.blk RB.out (fun h => h))
  have M2 := Lib.hid (MM.out.later K02.out)
  have KB2 := Lib.hid (KB.out.trans K02.out (T := None) (fun _ h => h) (fun _ _ h => h))
  obtain ⟨sb, hsb⟩ : ∃ x, w0.heap.size = x := ⟨_, rfl⟩
  rw [hsb] at SB ⊢
  have S2 : w.heap.size < sb := by omega
  have y81 := SB.out.cellD 81 _ (St.cs_mid SO.out A n cap)
  clear b2 k2 NB1 KN1 K02 RB LB MM KB hw0 hsb
  go_wp2_with fail
  refine (CLN.out _ M2.out.b).mono ?_
  rintro e w3 ⟨v3, rfl, o3, k3⟩
  obtain ⟨A3, c3, rfl, -, -⟩ := o3.shape
  rw [LN.out] at o3 ⊢
  have M3 := Lib.hid (chkV_own o3)
  have SB3 := Lib.hid (k3.blk SB.out (fun h => h))
  have RB3 := Lib.hid (k3.blk RB2.out (fun h => h))
  have KB3 := Lib.hid (KB2.out.trans k3 (T := None) (fun _ h => h) (fun _ _ h => h))
  have S3 : sb < w2.heap.size := SB.out.lt
  clear o3 k3 SB RB2 KB2 M2 y81 CLN
  have z81 := SB3.out.cellD 81 _ (St.cs_mid SO.out A n cap)
  have f81 := SB3.out.frozen 81
  have SB4 : Hid (Blk (w3.setCell ⟨sb, 81, none⟩ (.slice A3 n c3)) sb (st.cs A3 n c3) 39) := by
    have h := SB3.out.set 81 (.slice A3 n c3)
    rw [St.cs_midset SO.out] at h
    exact h
  have RB4 := Lib.hid (RB3.out.setOther ⟨sb, 81, none⟩ (.slice A3 n c3) (show ¬ w.heap.size = sb by omega))
  have KB4 := Lib.hid (KB3.out.setCell ⟨sb, 81, none⟩ (.slice A3 n c3) (fun h => absurd (show sb < w.heap.size from h) (by omega)))
  have M4 := Lib.hid (M3.out.keeps ((Keeps.refl (fun k => k = sb) w3).setCell ⟨sb, 81, none⟩ (.slice A3 n c3) (fun _ => rfl)) (fun b hb e => by omega))
  go_wp2_with (first | (refine wpList_load_blk (b := sb) (o := 0) (ds := st.cs A3 n c3) SB4.out (fun j v hv => by rw [Nat.zero_add]; exact hv) rfl rfl rfl Try.underlying39 rfl (by rw [St.cs_len SO.out]; exact st_size) ?_) | (refine wpList_store_blk (b := w.heap.size) (o := 0) (ds := st.cs A3 n c3) RB4.out (by rw [St.cs_len SO.out, St.cs_len stZ_ok]; decide) (St.cs_one _ _ _ _) rfl rfl rfl rfl (by rw [St.cs_len SO.out]; exact st_size) ?_))
  intro wz hbz hkz
  rw [splice_all (by rw [St.cs_len SO.out, St.cs_len stZ_ok])] at hbz
  have HBZ := Lib.hid hbz
  have HKZ := Lib.hid (KB4.out.trans hkz (T := None) (fun _ h => h) (fun b hb e => absurd e (by omega)))
  have HMZ := Lib.hid (M4.out.keeps hkz (fun b hb e => by omega))
  clear hbz hkz z81 f81
  go_wp2
  refine bodyPost_ret (cell_res1 rfl _ HBZ.out Try.underlying39 rfl (by rw [St.cs_len SO.out]; exact st_size) rfl) rfl ?_
  exact ⟨A3, n, c3, rfl, HMZ.out.mono (fun b hb => .inr (by omega)), HKZ.out⟩
def commitF (s : FS) (j : JS) (st : St) (c : Com) : FS × JS × St × Int := if c.may then keepF s j st 2 (comL c) else (s, j, st, 1)
set_option maxRecDepth 100000 in
set_option maxHeartbeats 3200000 in
theorem lgcommit_any {W w : World} {B q lb jb : Nat} {X : JX} {s : FS} {j : JS} {st : St} {A : Option Addr} {n cap m : Nat} (h : LG W w B q lb jb X s j st A n cap) (ok : JOk j) (c : Com) (oc : c.ok)
    (ok2 : JOk (appF s j 2 (comL c)).2.1) (hel : 2 ≤ (appF s j 2 (comL c)).1.er.length) (rm : JRm s (m + 3250)) :
    Calls Try.prog 29 #[.pointer (some ⟨lb, 0, none⟩), c.v] w (LGDone W w B q lb jb X (commitF s j st c)) := by
  have G := Lib.hid h
  have CO := Lib.hid oc
  have PUT := Lib.hid (fun w => lgputc_any c oc w)
  unfold Com.v at PUT ⊢
  obtain ⟨w0, hw0⟩ : ∃ x, w.alloc (.cells c.cs.toArray 25) = x := ⟨_, rfl⟩
  have CB : Hid (Blk w0 w.heap.size c.cs 25) := by rw [← hw0]; exact Blk.new w c.cs 25
  have K0 : Hid (Keeps None w w0) := by rw [← hw0]; exact (Keeps.refl None w).alloc _
  have KP := Lib.hid (fun (w' : World) (A' : Option Addr) (n' c' : Nat) (g : LG W w' B q lb jb X s j st A n cap) (hb : Bs w' A' n' c' (comL c)) (hn : n' ≤ 600) (hS : ∀ b off, 0 < n' → A' = some ⟨b, off, none⟩ → ¬ X.S b) => lgkeep_any g ok 2 hb hn hS ok2 hel rm)
  obtain ⟨V, hV⟩ : ∃ V, c.cs.toArray = V := ⟨_, rfl⟩
  rw [hV] at hw0 ⊢
  have HV := Lib.hid hV
  clear h ok oc ok2 hel rm hV
  go_enter Try.func29, Try.ntmps29
  go_wp2_with (refine wpList_load_blk (b := w.heap.size) (o := 0) (ds := c.cs) CB.out (fun j v hv => by rw [Nat.zero_add]; exact hv) rfl rfl rfl Try.underlying25 rfl (by rw [Com.cs_len CO.out]; exact com_size) ?_)
  go_wp2_with fail
  refine (PUT.out _).mono ?_
  rintro e w1 ⟨v1, rfl, o1, k1⟩
  obtain ⟨A1, c1, rfl, b1, -⟩ := o1.shape
  have K1 := Lib.hid (K0.out.trans k1 (T := None) (fun _ h => h) (fun _ _ h => h))
  have G1 := Lib.hid (G.out.later K1.out)
  have q1 := b1.le
  have q2 := b1.max
  have B1 := Lib.hid b1
  have NS : Hid (∀ b off, 0 < (comL c).length → A1 = some ⟨b, off, none⟩ → ¬ X.S b) := fun b off hn e hS => by
    have h1 := ((chkV_own o1).p b off hn e).1
    have h2 := G.out.lj.at_.lt b hS
    have h3 := K0.out.size
    omega
  by_cases hm : c.may
  · have L96 : (comL c).length = 96 := by rw [comL_len hm, CO.out.ml]
    rw [L96] at B1 NS q1 ⊢
    have KD := Lib.hid (KP.out w1 A1 96 c1 G1.out B1.out (by decide) NS.out)
    have CF : Hid (commitF s j st c = keepF s j st 2 (comL c)) := if_pos hm
    clear KP NS B1 b1 o1 k1
    go_wp2_with fail
    refine KD.out.mono ?_
    rw [← CF.out]
    rintro e w2 ⟨rfl, X2, A2, n2, c2, g2, t2⟩
    have G2 := Lib.hid g2
    have T2 := Lib.hid (t2.ahead K1.out)
    clear g2 t2
    go_wp2
    go_ret
    exact ⟨rfl, X2, A2, n2, c2, G2.out, T2.out⟩
  · have L0 : (comL c).length = 0 := Nat.eq_zero_of_not_pos (fun h => hm (comL_pos.1 h))
    rw [L0]
    have CF : Hid (commitF s j st c = (s, j, st, 1)) := if_neg hm
    clear KP NS B1 b1 o1 k1
    go_wp2
    go_ret
    rw [CF.out]
    exact ⟨rfl, X, A, n, cap, G1.out, LGT.same K1.out⟩
end Go.Proofs.Ytfldgaiiniknpaa
