
/- Texts put together: Ql1, Ql2, Ql3, Qb, LgEq, LgSame, LgSame2. -/
import Derived.Test.YtobgbilanibodaaGreatLPlk
import Derived.Test.YtobgbilanibodaaGreatLPlh
import Derived.Test.YtobgbilanibodaaGreatLPlg
import Derived.Laws.StructEq
import Derived.ChangeKeysEq
namespace Go.Proofs.YtobgbilanibodaaGreat
open Go.RowKit
theorem tl289 (P : Prop) (h : P := by
 refine wpMix_eff (by kernel_rfl) ?_
 go_wp2_with (refine wpList_store_blk (b := nb) (o := 0) (ds := NX.cs A3 n3 c3) NB.out (by rw [St.cs_len NO.out, St.cs_len stZ_ok]; decide) (St.cs_one _ _ _ _) rfl rfl rfl rfl (by rw [St.cs_len NO.out]; exact st_size) ?_)
 intro w4 b4 k4
 rw [splice_all (by rw [St.cs_len NO.out, St.cs_len stZ_ok])] at b4
 have N4 := Lib.hid b4
 have M4 := Lib.hid (M3.out.keeps k4 (fun b hb e => hb.1 e))
 have TT := Lib.hid (KC.out.trans k4 (T := None) (fun _ h => h) (fun b hb e => absurd e (by have := NBL.out; omega)))
 clear KC
 have KC := TT
 clear TT b4 k4 NB M3
 go_wp2
 refine MixK.on (InS.mk ((mH.out _).2 ⟨(y81.out _ KC.out).1, (y81.out _ KC.out).2.1, (y81.out _ KC.out).2.2.1, (y81.out _ KC.out).2.2.2⟩)) ?_
 refine wpMix_nil ?_
 refine wpPs_nil ?_
 clear mk0 mk1 mk2 mk3 mn mH
 go_wp2
 go_meet
 case rel => exact ⟨nb, A3, n3, c3, rfl, KC.out, N4.out, M4.out, NBL.out⟩) : P := h
set_option maxRecDepth 100000 in
theorem tl288 (P : Prop) (h : P := by
 refine wpPs_cons ?_
 try simp only [tds, Nat.reduceSub]
 refine wpMix_eff (by kernel_rfl) ?_
 go_wp2_with fail
 refine (FD.out _ _ _ _ _ R2.out BD2.out).mono ?_
 rw [List.map_append, HM1.out, show foldS (recsS st ++ List.map RV.r [⟨kind, 0, bA, bc, body⟩]) = NX from HNX.out]
 rintro e wx ⟨A3, n3, c3, rfl, m3, k3⟩
 unfold St.v
 have KS := KC.out.size
 first | have M3 : Hid (ChkV wx (fun b => b ≠ nb ∧ wb.heap.size ≤ b) A3 n3 c3 NX.k.mid) := (m3.lt.mono (fun b hb => by (rcases hb.1 with h | h; exact absurd h (fun h => h); exact ⟨by (have := NB.out.lt; omega), by omega⟩))) | have M3 : Hid (ChkV wx (fun b => b < wx.heap.size ∧ wb.heap.size ≤ b) A3 n3 c3 NX.k.mid) := (m3.lt.mono (fun b hb => by (rcases hb.1 with h | h; exact absurd h (fun h => h); exact ⟨hb.2, by omega⟩)))
 try have TT := Lib.hid (k3.blk NB.out (fun h => h))
 try clear NB
 try have NB := TT
 try clear TT
 try have TT := Lib.hid (KC.out.trans k3 (T := None) (fun _ h => h) (fun _ _ h => h))
 try clear KC
 try have KC := TT
 try clear TT
 clear m3 k3 KS R2 BD2
 go_wp2
 refine MixK.on (InS.mk ((mH.out _).2 ⟨(y81.out _ KC.out).1, (y81.out _ KC.out).2.1, (y81.out _ KC.out).2.2.1, (y81.out _ KC.out).2.2.2⟩)) ?_
 refine wpMix_nil ?_
 refine wpPs_nil ?_
 refine wpT_leaf (ps := [(9, 2)]) (by kernel_rfl) ?_
 refine wpPs_cons ?_
 try simp only [tds, Nat.reduceSub]
 refine wpMix_eff (by kernel_rfl) ?_
 go_wp2
 first | (refine Exists.elim (⟨_, rfl⟩ : ∃ x, wx.heap.size = x) fun nb hnb => ?_; refine Exists.elim (⟨_, rfl⟩ : ∃ x, wx.alloc (.cells Tryz.zeroCells58 58) = x) fun wx hwx => ?_; rw [hwx, hnb]) | (refine Exists.elim (⟨_, rfl⟩ : ∃ x, wb.heap.size = x) fun nb hnb => ?_; refine Exists.elim (⟨_, rfl⟩ : ∃ x, wb.drew.alloc (.cells Tryz.zeroCells58 58) = x) fun wx hwx => ?_; rw [hwx, hnb]) | (refine Exists.elim (⟨_, rfl⟩ : ∃ x, wb.heap.size = x) fun nb hnb => ?_; refine Exists.elim (⟨_, rfl⟩ : ∃ x, (wb.alloc (.cells Tryz.zeroCells58 58)).drew = x) fun wx hwx => ?_; rw [hwx, hnb])
 have NB : Hid (Blk wx nb (stZ.cs none 0 0) 58) := by (show Blk _ _ _ _; rw [← hwx, ← hnb, st_zero]; first | exact Blk.new _ (stZ.cs none 0 0) _ | exact (Blk.new _ (stZ.cs none 0 0) _).drew)
 have NBL : Hid (wb.heap.size ≤ nb) := by (show _ ≤ _; rw [← hnb]; first | exact KC.out.size | exact Nat.le_refl _)
 have KD : Hid (Keeps None wb wx) := by (show Keeps _ _ _; rw [← hwx]; first | exact KC.out.alloc _ | exact ((Keeps.refl None wb).alloc _).drew)
 try have VN := Lib.hid (show ∀ b, (Value.slice A1 rs1.length c1).ownBlock = some b → ¬ b = nb from fun b e h => by have h1 := (CP1.out.o.block e).2; omega)
 try have TT : Hid (Copied wb wx (.slice A1 rs1.length c1) rs1) := by (show Copied wb wx (.slice A1 rs1.length c1) rs1; rw [← hwx]; exact CP1.out.later ((Keeps.refl None _).alloc _))
 try clear CP1
 try have CP1 := TT
 try clear TT
 try have TT : Hid (Blk wx ly [.int .i64 kind, .int .i64 0, .slice bA bn bc] 95) := by (show Blk wx ly [.int .i64 kind, .int .i64 0, .slice bA bn bc] 95; rw [← hwx]; exact LIT.out.alloc _)
 try clear LIT
 try have LIT := TT
 try clear TT
 try have TT : Hid (Rws wx A2 n2 c2 (rs1 ++ [⟨kind, 0, bA, bc, body⟩])) := by (show Rws wx A2 n2 c2 (rs1 ++ [⟨kind, 0, bA, bc, body⟩]); rw [← hwx]; exact R2.out.later ((Keeps.refl None _).alloc _))
 try clear R2
 try have R2 := TT
 try clear TT
 try have TT : Hid (Bds wx (fun _ => True) (rs1 ++ [⟨kind, 0, bA, bc, body⟩])) := by (show Bds wx (fun _ => True) (rs1 ++ [⟨kind, 0, bA, bc, body⟩]); rw [← hwx]; exact BD2.out.later ((Keeps.refl None _).alloc _))
 try clear BD2
 try have BD2 := TT
 try clear TT
 try have TT : Hid (ChkV wx (fun b => b ≠ nb ∧ wb.heap.size ≤ b) A3 n3 c3 NX.k.mid) := by (show ChkV wx (fun b => b ≠ nb ∧ wb.heap.size ≤ b) A3 n3 c3 NX.k.mid; rw [← hwx]; exact (M3.out.mono (fun b h => ⟨by (have := h.1; omega), h.2⟩)).later ((Keeps.refl None _).alloc _))
 try clear M3
 try have M3 := TT
 try clear TT
 clear KC hwx hnb
 have KC := KD
 clear KD
 refine MixK.on (InS.mk ((mH.out _).2 ⟨(y81.out _ KC.out).1, (y81.out _ KC.out).2.1, (y81.out _ KC.out).2.2.1, (y81.out _ KC.out).2.2.2⟩)) ?_
 exact tl289 _) : P := h
set_option maxRecDepth 100000 in
theorem tl291 (P : Prop) (h : P := by
 refine MixK.on (InS.mk ((mH.out _).2 ⟨(y81.out _ KC.out).1, (y81.out _ KC.out).2.1, (y81.out _ KC.out).2.2.1, (y81.out _ KC.out).2.2.2⟩)) ?_
 refine wpMix_nil ?_
 refine wpPs_nil ?_
 refine wpT_leaf (ps := [(8, 1), (10, 1)]) (by kernel_rfl) ?_
 refine wpPs_cons ?_
 try simp only [tds, Nat.reduceSub]
 refine wpMix_eff (by kernel_rfl) ?_
 go_wp2_with fail
 refine (FD.out _ _ _ _ _ R2.out BD2.out).mono ?_
 rw [List.map_append, HM1.out, show foldS (recsS st ++ List.map RV.r [⟨kind, 0, bA, bc, body⟩]) = NX from HNX.out]
 rintro e wx ⟨A3, n3, c3, rfl, m3, k3⟩
 unfold St.v
 have KS := KC.out.size
 first | have M3 : Hid (ChkV wx (fun b => b ≠ nb ∧ wb.heap.size ≤ b) A3 n3 c3 NX.k.mid) := (m3.lt.mono (fun b hb => by (rcases hb.1 with h | h; exact absurd h (fun h => h); exact ⟨by (have := NB.out.lt; omega), by omega⟩))) | have M3 : Hid (ChkV wx (fun b => b < wx.heap.size ∧ wb.heap.size ≤ b) A3 n3 c3 NX.k.mid) := (m3.lt.mono (fun b hb => by (rcases hb.1 with h | h; exact absurd h (fun h => h); exact ⟨hb.2, by omega⟩)))
 try have TT := Lib.hid (k3.blk NB.out (fun h => h))
 try clear NB
 try have NB := TT
 try clear TT
 try have TT := Lib.hid (KC.out.trans k3 (T := None) (fun _ h => h) (fun _ _ h => h))
 try clear KC
 try have KC := TT
 try clear TT
 clear m3 k3 KS R2 BD2
 go_wp2
 refine MixK.on (InS.mk ((mH.out _).2 ⟨(y81.out _ KC.out).1, (y81.out _ KC.out).2.1, (y81.out _ KC.out).2.2.1, (y81.out _ KC.out).2.2.2⟩)) ?_
 refine wpMix_nil ?_
 refine wpPs_cons ?_
 try simp only [tds, Nat.reduceSub]
 exact tl289 _) : P := h
set_option maxRecDepth 100000 in
theorem tl290 (P : Prop) (h : P := by
 refine wpPs_cons ?_
 try simp only [tds, Nat.reduceSub]
 refine wpMix_eff (by kernel_rfl) ?_
 go_wp2
 first | (refine Exists.elim (⟨_, rfl⟩ : ∃ x, wx.heap.size = x) fun nb hnb => ?_; refine Exists.elim (⟨_, rfl⟩ : ∃ x, wx.alloc (.cells Tryz.zeroCells58 58) = x) fun wx hwx => ?_; rw [hwx, hnb]) | (refine Exists.elim (⟨_, rfl⟩ : ∃ x, wb.heap.size = x) fun nb hnb => ?_; refine Exists.elim (⟨_, rfl⟩ : ∃ x, wb.drew.alloc (.cells Tryz.zeroCells58 58) = x) fun wx hwx => ?_; rw [hwx, hnb]) | (refine Exists.elim (⟨_, rfl⟩ : ∃ x, wb.heap.size = x) fun nb hnb => ?_; refine Exists.elim (⟨_, rfl⟩ : ∃ x, (wb.alloc (.cells Tryz.zeroCells58 58)).drew = x) fun wx hwx => ?_; rw [hwx, hnb])
 have NB : Hid (Blk wx nb (stZ.cs none 0 0) 58) := by (show Blk _ _ _ _; rw [← hwx, ← hnb, st_zero]; first | exact Blk.new _ (stZ.cs none 0 0) _ | exact (Blk.new _ (stZ.cs none 0 0) _).drew)
 have NBL : Hid (wb.heap.size ≤ nb) := by (show _ ≤ _; rw [← hnb]; first | exact KC.out.size | exact Nat.le_refl _)
 have KD : Hid (Keeps None wb wx) := by (show Keeps _ _ _; rw [← hwx]; first | exact KC.out.alloc _ | exact ((Keeps.refl None wb).alloc _).drew)
 try have VN := Lib.hid (show ∀ b, (Value.slice A1 rs1.length c1).ownBlock = some b → ¬ b = nb from fun b e h => by have h1 := (CP1.out.o.block e).2; omega)
 try have TT : Hid (Copied wb wx (.slice A1 rs1.length c1) rs1) := by (show Copied wb wx (.slice A1 rs1.length c1) rs1; rw [← hwx]; exact CP1.out.later ((Keeps.refl None _).alloc _))
 try clear CP1
 try have CP1 := TT
 try clear TT
 try have TT : Hid (Blk wx ly [.int .i64 kind, .int .i64 0, .slice bA bn bc] 95) := by (show Blk wx ly [.int .i64 kind, .int .i64 0, .slice bA bn bc] 95; rw [← hwx]; exact LIT.out.alloc _)
 try clear LIT
 try have LIT := TT
 try clear TT
 try have TT : Hid (Rws wx A2 n2 c2 (rs1 ++ [⟨kind, 0, bA, bc, body⟩])) := by (show Rws wx A2 n2 c2 (rs1 ++ [⟨kind, 0, bA, bc, body⟩]); rw [← hwx]; exact R2.out.later ((Keeps.refl None _).alloc _))
 try clear R2
 try have R2 := TT
 try clear TT
 try have TT : Hid (Bds wx (fun _ => True) (rs1 ++ [⟨kind, 0, bA, bc, body⟩])) := by (show Bds wx (fun _ => True) (rs1 ++ [⟨kind, 0, bA, bc, body⟩]); rw [← hwx]; exact BD2.out.later ((Keeps.refl None _).alloc _))
 try clear BD2
 try have BD2 := TT
 try clear TT
 try have TT : Hid (ChkV wx (fun b => b ≠ nb ∧ wb.heap.size ≤ b) A3 n3 c3 NX.k.mid) := by (show ChkV wx (fun b => b ≠ nb ∧ wb.heap.size ≤ b) A3 n3 c3 NX.k.mid; rw [← hwx]; exact (M3.out.mono (fun b h => ⟨by (have := h.1; omega), h.2⟩)).later ((Keeps.refl None _).alloc _))
 try clear M3
 try have M3 := TT
 try clear TT
 clear KC hwx hnb
 have KC := KD
 clear KD
 exact tl291 _) : P := h
set_option maxRecDepth 100000 in
theorem tl287 (P : Prop) (h : P := by
 refine wpPs_cons ?_
 try simp only [tds, Nat.reduceSub]
 refine wpMix_eff (by kernel_rfl) ?_
 go_wp2_with (at_builtin; refine Hid.out ?_)
 refine Lib.hid ?_
 refine wpList_append_recs (ns := [⟨kind, 0, bA, bc, body⟩]) CP1.out.o (Rws.one _ (by (show Blk _ _ [.int .i64 kind, .int .i64 0, .slice bA body.length bc] _; rw [HLN.out]; exact LIT.out))) (by omega) KC.out.size (by rfl) (by rfl) (by rfl) (by rfl) (by rfl) ?_
 intro v2 w2 o2 k2 d2
 obtain ⟨bd2, kk2⟩ := Copied.plus (r := ⟨kind, 0, bA, bc, body⟩) CP1.out (by (show Bs _ bA body.length bc _; rw [HLN.out]; exact BB.out.keeps KC.out (fun _ _ _ _ _ h => h))) BB.out.at_lt k2
 obtain ⟨A2, c2, rfl, r2, -⟩ := o2.shape
 have l2 := r2.le
 have m2 := r2.max
 refine Exists.elim (⟨_, rfl⟩ : ∃ x, (rs1 ++ [(⟨kind, 0, bA, bc, body⟩ : RV)]).length = x) fun n2 hn2 => ?_
 rw [hn2] at r2 l2 ⊢
 clear hn2
 have R2 := Lib.hid r2
 have BD2 := Lib.hid bd2
 try have TT := Lib.hid (k2.blk NB.out (fun e => VN.out _ e rfl))
 try clear NB
 try have NB := TT
 try clear TT
 clear KC
 have KC := Lib.hid kk2
 refine Exists.elim (⟨w2, rfl⟩ : ∃ x, x = w2) fun wx hwx => ?_
 subst hwx
 clear o2 k2 d2 bd2 kk2 r2 LIT CP1
 try clear VN
 go_wp2
 refine MixK.on (InS.mk ((mH.out _).2 ⟨(y81.out _ KC.out).1, (y81.out _ KC.out).2.1, (y81.out _ KC.out).2.2.1, (y81.out _ KC.out).2.2.2⟩)) ?_
 refine wpMix_nil ?_
 refine wpPs_nil ?_
 refine wpT_node2 (us := [(8, 3)]) [(8, 1)] [(9, 2)] [(9, 1)] [(8, 1), (10, 1)] (by kernel_rfl) ?_ ?_
 ·
  exact tl288 _
 ·
  exact tl290 _) : P := h
theorem tl295 (P : Prop) (h : P := by
 refine wpPs_cons ?_
 try simp only [tds, Nat.reduceSub]
 refine wpMix_eff (by kernel_rfl) ?_
 go_wp2_with (at_builtin; refine Hid.out ?_)
 refine Lib.hid ?_
 refine wpList_append_recs (ns := [⟨kind, 0, bA, bc, body⟩]) CP1.out.o (Rws.one _ (by (show Blk _ _ [.int .i64 kind, .int .i64 0, .slice bA body.length bc] _; rw [HLN.out]; exact LIT.out))) (by omega) KC.out.size (by rfl) (by rfl) (by rfl) (by rfl) (by rfl) ?_
 intro v2 w2 o2 k2 d2
 obtain ⟨bd2, kk2⟩ := Copied.plus (r := ⟨kind, 0, bA, bc, body⟩) CP1.out (by (show Bs _ bA body.length bc _; rw [HLN.out]; exact BB.out.keeps KC.out (fun _ _ _ _ _ h => h))) BB.out.at_lt k2
 obtain ⟨A2, c2, rfl, r2, -⟩ := o2.shape
 have l2 := r2.le
 have m2 := r2.max
 refine Exists.elim (⟨_, rfl⟩ : ∃ x, (rs1 ++ [(⟨kind, 0, bA, bc, body⟩ : RV)]).length = x) fun n2 hn2 => ?_
 rw [hn2] at r2 l2 ⊢
 clear hn2
 have R2 := Lib.hid r2
 have BD2 := Lib.hid bd2
 try have TT := Lib.hid (k2.blk NB.out (fun e => VN.out _ e rfl))
 try clear NB
 try have NB := TT
 try clear TT
 clear KC
 have KC := Lib.hid kk2
 refine Exists.elim (⟨w2, rfl⟩ : ∃ x, x = w2) fun wx hwx => ?_
 subst hwx
 clear o2 k2 d2 bd2 kk2 r2 LIT CP1
 try clear VN
 go_wp2
 exact tl291 _) : P := h
theorem tl294 (P : Prop) (h : P := by
 refine MixK.on (InS.mk ((mH.out _).2 ⟨(y81.out _ KC.out).1, (y81.out _ KC.out).2.1, (y81.out _ KC.out).2.2.1, (y81.out _ KC.out).2.2.2⟩)) ?_
 refine wpMix_nil ?_
 refine wpPs_nil ?_
 refine wpT_node1 (us := [(7, 2), (10, 1)]) [(7, 1)] [(8, 1), (10, 1)] (by kernel_rfl) ?_
 ·
  exact tl295 _) : P := h
theorem tl293 (P : Prop) (h : P := by
 have KC := KD
 clear KD
 exact tl294 _) : P := h
set_option maxRecDepth 100000 in
theorem tl292 (P : Prop) (h : P := by
 refine wpPs_cons ?_
 try simp only [tds, Nat.reduceSub]
 refine wpMix_eff (by kernel_rfl) ?_
 go_wp2
 first | (refine Exists.elim (⟨_, rfl⟩ : ∃ x, wx.heap.size = x) fun nb hnb => ?_; refine Exists.elim (⟨_, rfl⟩ : ∃ x, wx.alloc (.cells Tryz.zeroCells58 58) = x) fun wx hwx => ?_; rw [hwx, hnb]) | (refine Exists.elim (⟨_, rfl⟩ : ∃ x, wb.heap.size = x) fun nb hnb => ?_; refine Exists.elim (⟨_, rfl⟩ : ∃ x, wb.drew.alloc (.cells Tryz.zeroCells58 58) = x) fun wx hwx => ?_; rw [hwx, hnb]) | (refine Exists.elim (⟨_, rfl⟩ : ∃ x, wb.heap.size = x) fun nb hnb => ?_; refine Exists.elim (⟨_, rfl⟩ : ∃ x, (wb.alloc (.cells Tryz.zeroCells58 58)).drew = x) fun wx hwx => ?_; rw [hwx, hnb])
 have NB : Hid (Blk wx nb (stZ.cs none 0 0) 58) := by (show Blk _ _ _ _; rw [← hwx, ← hnb, st_zero]; first | exact Blk.new _ (stZ.cs none 0 0) _ | exact (Blk.new _ (stZ.cs none 0 0) _).drew)
 have NBL : Hid (wb.heap.size ≤ nb) := by (show _ ≤ _; rw [← hnb]; first | exact KC.out.size | exact Nat.le_refl _)
 have KD : Hid (Keeps None wb wx) := by (show Keeps _ _ _; rw [← hwx]; first | exact KC.out.alloc _ | exact ((Keeps.refl None wb).alloc _).drew)
 try have VN := Lib.hid (show ∀ b, (Value.slice A1 rs1.length c1).ownBlock = some b → ¬ b = nb from fun b e h => by have h1 := (CP1.out.o.block e).2; omega)
 try have TT : Hid (Copied wb wx (.slice A1 rs1.length c1) rs1) := by (show Copied wb wx (.slice A1 rs1.length c1) rs1; rw [← hwx]; exact CP1.out.later ((Keeps.refl None _).alloc _))
 try clear CP1
 try have CP1 := TT
 try clear TT
 try have TT : Hid (Blk wx ly [.int .i64 kind, .int .i64 0, .slice bA bn bc] 95) := by (show Blk wx ly [.int .i64 kind, .int .i64 0, .slice bA bn bc] 95; rw [← hwx]; exact LIT.out.alloc _)
 try clear LIT
 try have LIT := TT
 try clear TT
 try have TT : Hid (Rws wx A2 n2 c2 (rs1 ++ [⟨kind, 0, bA, bc, body⟩])) := by (show Rws wx A2 n2 c2 (rs1 ++ [⟨kind, 0, bA, bc, body⟩]); rw [← hwx]; exact R2.out.later ((Keeps.refl None _).alloc _))
 try clear R2
 try have R2 := TT
 try clear TT
 try have TT : Hid (Bds wx (fun _ => True) (rs1 ++ [⟨kind, 0, bA, bc, body⟩])) := by (show Bds wx (fun _ => True) (rs1 ++ [⟨kind, 0, bA, bc, body⟩]); rw [← hwx]; exact BD2.out.later ((Keeps.refl None _).alloc _))
 try clear BD2
 try have BD2 := TT
 try clear TT
 try have TT : Hid (ChkV wx (fun b => b ≠ nb ∧ wb.heap.size ≤ b) A3 n3 c3 NX.k.mid) := by (show ChkV wx (fun b => b ≠ nb ∧ wb.heap.size ≤ b) A3 n3 c3 NX.k.mid; rw [← hwx]; exact (M3.out.mono (fun b h => ⟨by (have := h.1; omega), h.2⟩)).later ((Keeps.refl None _).alloc _))
 try clear M3
 try have M3 := TT
 try clear TT
 clear KC hwx hnb
 exact tl293 _) : P := h
theorem tl286 (P : Prop) (h : P := by
 refine MixK.on (InS.mk ((mH.out _).2 ⟨(y81.out _ KC.out).1, (y81.out _ KC.out).2.1, (y81.out _ KC.out).2.2.1, (y81.out _ KC.out).2.2.2⟩)) ?_
 refine wpMix_nil ?_
 refine wpPs_nil ?_
 refine wpT_node2 (us := [(7, 4)]) [(7, 1)] [(8, 3)] [(9, 1)] [(7, 2), (10, 1)] (by kernel_rfl) ?_ ?_
 ·
  exact tl287 _
 ·
  exact tl292 _) : P := h
set_option maxRecDepth 100000 in
theorem tl297 (P : Prop) (h : P := by
 refine wpPs_cons ?_
 try simp only [tds, Nat.reduceSub]
 refine wpMix_seg 1 (by kernel_rfl) (by decide) ?_
 simp only [tds, Nat.reduceSub]
 repeat (first | go_big_quiet_step (fail) | (go_big_quiet_want; first | refine quiet_load mk0 rfl rfl rfl aput ?_; go_big_quiet_on))
 refine wpQuiet_nil ?_
 refine wpMix_eff (by kernel_rfl) ?_
 go_wp2
 first | (refine Exists.elim (⟨_, rfl⟩ : ∃ x, wx.heap.size = x) fun ly hly => ?_; refine Exists.elim (⟨_, rfl⟩ : ∃ x, wx.alloc (.cells #[.int .i64 kind, .int .i64 0, .slice bA bn bc] 95) = x) fun wx hwx => ?_; rw [hwx, hly]) | (refine Exists.elim (⟨_, rfl⟩ : ∃ x, wb.heap.size = x) fun ly hly => ?_; refine Exists.elim (⟨_, rfl⟩ : ∃ x, wb.drew.alloc (.cells #[.int .i64 kind, .int .i64 0, .slice bA bn bc] 95) = x) fun wx hwx => ?_; rw [hwx, hly]) | (refine Exists.elim (⟨_, rfl⟩ : ∃ x, wb.heap.size = x) fun ly hly => ?_; refine Exists.elim (⟨_, rfl⟩ : ∃ x, (wb.alloc (.cells #[.int .i64 kind, .int .i64 0, .slice bA bn bc] 95)).drew = x) fun wx hwx => ?_; rw [hwx, hly])
 have LIT : Hid (Blk wx ly [.int .i64 kind, .int .i64 0, .slice bA bn bc] 95) := by (show Blk _ _ _ _; rw [← hwx, ← hly]; first | exact Blk.new _ [_, _, _] _ | exact (Blk.new _ [_, _, _] _).drew)
 have KD : Hid (Keeps None wb wx) := by (show Keeps _ _ _; rw [← hwx]; first | exact KC.out.alloc _ | exact ((Keeps.refl None wb).alloc _).drew)
 try have TT : Hid (Copied wb wx (.slice A1 rs1.length c1) rs1) := by (show Copied wb wx (.slice A1 rs1.length c1) rs1; rw [← hwx]; exact CP1.out.later ((Keeps.refl None _).alloc _))
 try clear CP1
 try have CP1 := TT
 try clear TT
 try have TT : Hid (Blk wx nb (stZ.cs none 0 0) 58) := by (show Blk wx nb (stZ.cs none 0 0) 58; rw [← hwx]; exact NB.out.alloc _)
 try clear NB
 try have NB := TT
 try clear TT
 clear KC hwx hly
 exact tl293 _) : P := h
theorem tl296 (P : Prop) (h : P := by
 refine MixK.on (InS.mk ((mH.out _).2 ⟨(y81.out _ KC.out).1, (y81.out _ KC.out).2.1, (y81.out _ KC.out).2.2.1, (y81.out _ KC.out).2.2.2⟩)) ?_
 refine wpMix_nil ?_
 refine wpPs_nil ?_
 refine wpT_node1 (us := [(5, 4), (10, 1)]) [(5, 2)] [(7, 2), (10, 1)] (by kernel_rfl) ?_
 ·
  exact tl297 _) : P := h
set_option maxRecDepth 100000 in
theorem tl299 (P : Prop) (h : P := by
 refine wpPs_cons ?_
 try simp only [tds, Nat.reduceSub]
 refine wpMix_seg 4 (by kernel_rfl) (by decide) ?_
 simp only [tds, Nat.reduceSub]
 repeat (first | go_big_quiet_step (fail) | (go_big_quiet_want; first | refine quiet_load mk0 rfl rfl rfl aput ?_; go_big_quiet_on))
 refine wpQuiet_nil ?_
 refine wpMix_eff (by kernel_rfl) ?_
 go_wp2_with fail
 refine (RC.out _ (MB.out.later KC.out)).mono ?_
 rintro e wx ⟨v1, rs1, rfl, cp1, hm1⟩
 obtain ⟨A1, c1, rfl, r1, -⟩ := cp1.o.shape
 have HN1 : rs1.length ≤ 2 := by (have h := congrArg List.length hm1; rw [List.length_map] at h; omega)
 have l1 := r1.le
 have m1 := r1.max
 have k1 := cp1.k
 try have VN := Lib.hid (show ∀ b, (Value.slice A1 rs1.length c1).ownBlock = some b → ¬ b = nb from fun b e h => by have h1 := (cp1.o.block e).1; have h2 := NB.out.lt; omega)
 have CP1 : Hid (Copied wb wx (.slice A1 rs1.length c1) rs1) := ⟨cp1.o.lower KC.out.size, cp1.bd.mono (fun b h _ => ⟨Nat.le_trans KC.out.size h.1, h.2⟩), KC.out.trans k1 (T := None) (fun _ h => h) (fun _ _ h => h)⟩
 have HM1 := Lib.hid hm1
 try have TT := Lib.hid (k1.blk NB.out (fun h => h))
 try clear NB
 try have NB := TT
 try clear TT
 try have TT := Lib.hid (k1.blk LIT.out (fun h => h))
 try clear LIT
 try have LIT := TT
 try clear TT
 try have TT := Lib.hid (KC.out.trans k1 (T := None) (fun _ h => h) (fun _ _ h => h))
 try clear KC
 try have KC := TT
 try clear TT
 clear cp1 hm1 r1 k1
 go_wp2
 exact tl294 _) : P := h
theorem tl298 (P : Prop) (h : P := by
 have KC := KD
 clear KD
 refine MixK.on (InS.mk ((mH.out _).2 ⟨(y81.out _ KC.out).1, (y81.out _ KC.out).2.1, (y81.out _ KC.out).2.2.1, (y81.out _ KC.out).2.2.2⟩)) ?_
 refine wpMix_nil ?_
 refine wpPs_nil ?_
 refine wpT_node1 (us := [(0, 5), (7, 2), (10, 1)]) [(0, 5)] [(7, 2), (10, 1)] (by kernel_rfl) ?_
 ·
  exact tl299 _) : P := h
set_option maxRecDepth 100000 in
set_option maxHeartbeats 3200000 in
theorem rldo_any {W w : World} {B q lb jb : Nat} {X : QX} {s : FS} {j : JS} {st : St} {A : Option Addr} {n cap m : Nat} (h : RLG W w B q lb jb X s j st A n cap) (ok : JOk j) (kind : Int) {bA : Option Addr} {bn bc : Nat} {body : List Int} (hb : Bs w bA bn bc body) (hbn : bn ≤ 600)
    (hbS : ∀ b off, 0 < bn → bA = some ⟨b, off, none⟩ → ¬ X.S b) (ok2 : JOk (appF s j kind body).2.1) (hel : 2 ≤ (appF s j kind body).1.er.length) (rm : JRm s (m + 3250)) :
    Calls Tryz.prog 37 #[.pointer (some ⟨lb, 0, none⟩), .int .i64 kind, .slice bA bn bc] w (RLGDone W w B q lb jb X A n (keepF s j st kind body)) := by
 have G := Lib.hid h
 have OK := Lib.hid ok
 have OK2 := Lib.hid ok2
 have HEL := Lib.hid hel
 have RM := Lib.hid rm
 have RM2 := Lib.hid (JRm.app (m := m + 1625) (rm.less (by omega)) j kind body)
 have HB := Lib.hid hb
 have HLN := Lib.hid hb.len
 have HBS := Lib.hid hbS
 have hle := hb.le
 have hmx := hb.max
 have SO := Lib.hid h.inv.ok
 have NI := Lib.hid (nextS_inv h.inv kind hb.byte)
 have RL := recsS_len st
 have KF : Hid (keepF s j st kind body = keepF s j st kind body) := rfl
 clear h ok ok2 hel rm hb hbS
 obtain ⟨NX, hNX⟩ : ∃ x, nextS st kind body = x := ⟨_, rfl⟩
 obtain ⟨s5, j5, e5, hap⟩ : ∃ s5 j5 e5, appF s j kind body = (s5, j5, e5) := ⟨_, _, _, rfl⟩
 have AP := Lib.hid (fun (w : World) X (h : QLJ W w B q jb X s j) (hb : Bs w bA bn bc body) => qlappend h OK.out RM.out kind hb (by omega))
 rw [hap] at OK2 HEL RM2 AP
 have KE : Hid (keepF s j st kind body = ((if e5 = 14 then cmpF s5 j5 (recsS NX) else (s5, j5, e5)).1, (if e5 = 14 then cmpF s5 j5 (recsS NX) else (s5, j5, e5)).2.1, (if (if e5 = 14 then cmpF s5 j5 (recsS NX) else (s5, j5, e5)).2.2 = 0 then NX else st), (if e5 = 14 then cmpF s5 j5 (recsS NX) else (s5, j5, e5)).2.2)) := by
  show keepF _ _ _ _ _ = _
  unfold keepF
  rw [hap, hNX]
 rw [hNX] at NI
 have HNX := Lib.hid hNX
 clear hap hNX KF RM
 have NO := Lib.hid NI.out.ok
 go_enter Tryz.func37, Tryz.ntmps37
 go_wp2
 obtain ⟨wb, hwb⟩ : ∃ x, w.alloc (.cells #[.int .i64 kind, .int .i64 0, .slice bA bn bc] 95) = x := ⟨_, rfl⟩
 have RB : Hid (Blk wb w.heap.size [.int .i64 kind, .int .i64 0, .slice bA bn bc] 95) := by show Blk _ _ _ _; rw [← hwb]; exact Blk.new w [_, _, _] _
 have KB : Hid (Keeps None w wb) := by show Keeps _ _ _; rw [← hwb]; exact (Keeps.refl None w).alloc _
 rw [hwb]
 clear hwb
 go_cut [8] from 13 (fun pv wx => ∃ nb A3 n3 c3, pv = .pointer (some ⟨nb, 0, none⟩) ∧ Keeps None wb wx ∧ Blk wx nb (NX.cs A3 n3 c3) 58 ∧ ChkV wx (fun b => b ≠ nb ∧ wb.heap.size ≤ b) A3 n3 c3 NX.k.mid ∧ wb.heap.size ≤ nb)
 case first =>
  have y81 : Hid (∀ w', Keeps None wb w' → (Instr.loadAt 58 (.pointer (some ⟨lb, 1, none⟩))).run Tryz.prog w' = .ok (.agg (st.cs A n cap).toArray) w' ∧ w'.cell? ⟨w.heap.size, 0, none⟩ = some (.int .i64 kind) ∧ w'.cell? ⟨w.heap.size, 1, none⟩ = some (.int .i64 0) ∧ w'.cell? ⟨w.heap.size, 2, none⟩ = some (.slice bA bn bc)) := fun w' k =>
   have r := k.blk RB.out (fun h => h)
   ⟨run_loadAt_mid w' lb 1 58 (st.cs A n cap) _ (blk_range ((KB.out.trans k (T := None) (fun _ h => h) (fun _ _ h => h)).blk G.out.l (fun h => h)) (fun j v hv => by rw [Nat.add_comm]; exact hv)) Tryz.underlying58 rfl (by rw [St.cs_len SO.out]; exact st_size), r.cellD 0 _ rfl, r.cellD 1 _ rfl, r.cellD 2 _ rfl⟩
  have RC := Lib.hid (fun w (h : ChkV w (fun b => B ≤ b ∧ ¬ X.S b ∧ ¬ b = lb) A n cap st.k.mid) => rgrecs_any st SO.out A n cap _ w h)
  have MB := Lib.hid (G.out.m.later KB.out)
  have BB := Lib.hid (HB.out.keeps KB.out (fun _ _ _ _ _ h => h))
  unfold St.v at RC
  have KC : Hid (Keeps None wb wb.drew) := (Keeps.refl None wb).drew
  have KR := Lib.hid (Keeps.refl None wb)
  have FD := Lib.hid (fun A n c rs w h1 h2 => rgfold_any A n c rs (fun _ => True) w h1 h2)
  obtain ⟨mS, mh⟩ : ∃ S : World → Prop, ∀ w', S w' ↔ (((Instr.loadAt 58 (.pointer (some ⟨lb, 1, none⟩))).run Tryz.prog w' = .ok (.agg (st.cs A n cap).toArray) w') ∧ w'.cell? ⟨w.heap.size, 0, none⟩ = some (.int .i64 kind) ∧ w'.cell? ⟨w.heap.size, 1, none⟩ = some (.int .i64 0) ∧ w'.cell? ⟨w.heap.size, 2, none⟩ = some (.slice bA bn bc)) := ⟨_, fun _ => Iff.rfl⟩
  have mk0 : ∀ x : Memb mS, (Instr.loadAt 58 (.pointer (some ⟨lb, 1, none⟩))).run Tryz.prog x.at_ = .ok (.agg (st.cs A n cap).toArray) x.at_ := fun x => ((mh _).1 x.is).1
  have mk1 : ∀ x : Memb mS, x.at_.cell? ⟨w.heap.size, 0, none⟩ = some (.int .i64 kind) := fun x => ((mh _).1 x.is).2.1
  have mk2 : ∀ x : Memb mS, x.at_.cell? ⟨w.heap.size, 1, none⟩ = some (.int .i64 0) := fun x => ((mh _).1 x.is).2.2.1
  have mk3 : ∀ x : Memb mS, x.at_.cell? ⟨w.heap.size, 2, none⟩ = some (.slice bA bn bc) := fun x => ((mh _).1 x.is).2.2.2
  have mn : Nonempty (Memb mS) := ⟨⟨(wb).drew, (mh _).2 ⟨(y81.out _ KC.out).1, (y81.out _ KC.out).2.1, (y81.out _ KC.out).2.2.1, (y81.out _ KC.out).2.2.2⟩⟩⟩
  have mH := Lib.hid mh
  clear mh
  refine wp_region_mixT [4, 6, 7, 8, 9, 10] (InS mS) 4 11 (by kernel_rfl) (by kernel_rfl) (by kernel_rfl) (by kernel_rfl) (InS.mk ((mH.out _).2 ⟨(y81.out _ KC.out).1, (y81.out _ KC.out).2.1, (y81.out _ KC.out).2.2.1, (y81.out _ KC.out).2.2.2⟩)) ?_
  refine wpT_node3 (us := [(0, 11)]) [(0, 5)] [(5, 6)] [(5, 2)] [(0, 5), (7, 4)] [(9, 1)] [(0, 9), (10, 1)] (by kernel_rfl) ?_ ?_ ?_
  ·
   refine wpPs_cons ?_
   try simp only [tds, Nat.reduceSub]
   refine wpMix_seg 4 (by kernel_rfl) (by decide) ?_
   simp only [tds, Nat.reduceSub]
   repeat (first | go_big_quiet_step (fail) | (go_big_quiet_want; first | refine quiet_load mk0 rfl rfl rfl aput ?_; go_big_quiet_on))
   refine wpQuiet_nil ?_
   refine wpMix_eff (by kernel_rfl) ?_
   go_wp2_with fail
   refine (RC.out _ (MB.out.later KC.out)).mono ?_
   rintro e wx ⟨v1, rs1, rfl, cp1, hm1⟩
   obtain ⟨A1, c1, rfl, r1, -⟩ := cp1.o.shape
   have HN1 : rs1.length ≤ 2 := by (have h := congrArg List.length hm1; rw [List.length_map] at h; omega)
   have l1 := r1.le
   have m1 := r1.max
   have k1 := cp1.k
   try have VN := Lib.hid (show ∀ b, (Value.slice A1 rs1.length c1).ownBlock = some b → ¬ b = nb from fun b e h => by have h1 := (cp1.o.block e).1; have h2 := NB.out.lt; omega)
   have CP1 : Hid (Copied wb wx (.slice A1 rs1.length c1) rs1) := ⟨cp1.o.lower KC.out.size, cp1.bd.mono (fun b h _ => ⟨Nat.le_trans KC.out.size h.1, h.2⟩), KC.out.trans k1 (T := None) (fun _ h => h) (fun _ _ h => h)⟩
   have HM1 := Lib.hid hm1
   try have TT := Lib.hid (k1.blk NB.out (fun h => h))
   try clear NB
   try have NB := TT
   try clear TT
   try have TT := Lib.hid (k1.blk LIT.out (fun h => h))
   try clear LIT
   try have LIT := TT
   try clear TT
   try have TT := Lib.hid (KC.out.trans k1 (T := None) (fun _ h => h) (fun _ _ h => h))
   try clear KC
   try have KC := TT
   try clear TT
   clear cp1 hm1 r1 k1
   go_wp2
   refine MixK.on (InS.mk ((mH.out _).2 ⟨(y81.out _ KC.out).1, (y81.out _ KC.out).2.1, (y81.out _ KC.out).2.2.1, (y81.out _ KC.out).2.2.2⟩)) ?_
   refine wpMix_nil ?_
   refine wpPs_nil ?_
   refine wpT_node2 (us := [(5, 6)]) [(5, 2)] [(7, 4)] [(9, 1)] [(5, 4), (10, 1)] (by kernel_rfl) ?_ ?_
   ·
    refine wpPs_cons ?_
    try simp only [tds, Nat.reduceSub]
    refine wpMix_seg 1 (by kernel_rfl) (by decide) ?_
    simp only [tds, Nat.reduceSub]
    repeat (first | go_big_quiet_step (fail) | (go_big_quiet_want; first | refine quiet_load mk0 rfl rfl rfl aput ?_; go_big_quiet_on))
    refine wpQuiet_nil ?_
    refine wpMix_eff (by kernel_rfl) ?_
    go_wp2
    first | (refine Exists.elim (⟨_, rfl⟩ : ∃ x, wx.heap.size = x) fun ly hly => ?_; refine Exists.elim (⟨_, rfl⟩ : ∃ x, wx.alloc (.cells #[.int .i64 kind, .int .i64 0, .slice bA bn bc] 95) = x) fun wx hwx => ?_; rw [hwx, hly]) | (refine Exists.elim (⟨_, rfl⟩ : ∃ x, wb.heap.size = x) fun ly hly => ?_; refine Exists.elim (⟨_, rfl⟩ : ∃ x, wb.drew.alloc (.cells #[.int .i64 kind, .int .i64 0, .slice bA bn bc] 95) = x) fun wx hwx => ?_; rw [hwx, hly]) | (refine Exists.elim (⟨_, rfl⟩ : ∃ x, wb.heap.size = x) fun ly hly => ?_; refine Exists.elim (⟨_, rfl⟩ : ∃ x, (wb.alloc (.cells #[.int .i64 kind, .int .i64 0, .slice bA bn bc] 95)).drew = x) fun wx hwx => ?_; rw [hwx, hly])
    have LIT : Hid (Blk wx ly [.int .i64 kind, .int .i64 0, .slice bA bn bc] 95) := by (show Blk _ _ _ _; rw [← hwx, ← hly]; first | exact Blk.new _ [_, _, _] _ | exact (Blk.new _ [_, _, _] _).drew)
    have KD : Hid (Keeps None wb wx) := by (show Keeps _ _ _; rw [← hwx]; first | exact KC.out.alloc _ | exact ((Keeps.refl None wb).alloc _).drew)
    try have TT : Hid (Copied wb wx (.slice A1 rs1.length c1) rs1) := by (show Copied wb wx (.slice A1 rs1.length c1) rs1; rw [← hwx]; exact CP1.out.later ((Keeps.refl None _).alloc _))
    try clear CP1
    try have CP1 := TT
    try clear TT
    try have TT : Hid (Blk wx nb (stZ.cs none 0 0) 58) := by (show Blk wx nb (stZ.cs none 0 0) 58; rw [← hwx]; exact NB.out.alloc _)
    try clear NB
    try have NB := TT
    try clear TT
    clear KC hwx hly
    have KC := KD
    clear KD
    exact tl286 _
   ·
    refine wpPs_cons ?_
    try simp only [tds, Nat.reduceSub]
    refine wpMix_eff (by kernel_rfl) ?_
    go_wp2
    first | (refine Exists.elim (⟨_, rfl⟩ : ∃ x, wx.heap.size = x) fun nb hnb => ?_; refine Exists.elim (⟨_, rfl⟩ : ∃ x, wx.alloc (.cells Tryz.zeroCells58 58) = x) fun wx hwx => ?_; rw [hwx, hnb]) | (refine Exists.elim (⟨_, rfl⟩ : ∃ x, wb.heap.size = x) fun nb hnb => ?_; refine Exists.elim (⟨_, rfl⟩ : ∃ x, wb.drew.alloc (.cells Tryz.zeroCells58 58) = x) fun wx hwx => ?_; rw [hwx, hnb]) | (refine Exists.elim (⟨_, rfl⟩ : ∃ x, wb.heap.size = x) fun nb hnb => ?_; refine Exists.elim (⟨_, rfl⟩ : ∃ x, (wb.alloc (.cells Tryz.zeroCells58 58)).drew = x) fun wx hwx => ?_; rw [hwx, hnb])
    have NB : Hid (Blk wx nb (stZ.cs none 0 0) 58) := by (show Blk _ _ _ _; rw [← hwx, ← hnb, st_zero]; first | exact Blk.new _ (stZ.cs none 0 0) _ | exact (Blk.new _ (stZ.cs none 0 0) _).drew)
    have NBL : Hid (wb.heap.size ≤ nb) := by (show _ ≤ _; rw [← hnb]; first | exact KC.out.size | exact Nat.le_refl _)
    have KD : Hid (Keeps None wb wx) := by (show Keeps _ _ _; rw [← hwx]; first | exact KC.out.alloc _ | exact ((Keeps.refl None wb).alloc _).drew)
    try have VN := Lib.hid (show ∀ b, (Value.slice A1 rs1.length c1).ownBlock = some b → ¬ b = nb from fun b e h => by have h1 := (CP1.out.o.block e).2; omega)
    try have TT : Hid (Copied wb wx (.slice A1 rs1.length c1) rs1) := by (show Copied wb wx (.slice A1 rs1.length c1) rs1; rw [← hwx]; exact CP1.out.later ((Keeps.refl None _).alloc _))
    try clear CP1
    try have CP1 := TT
    try clear TT
    try have TT : Hid (Blk wx ly [.int .i64 kind, .int .i64 0, .slice bA bn bc] 95) := by (show Blk wx ly [.int .i64 kind, .int .i64 0, .slice bA bn bc] 95; rw [← hwx]; exact LIT.out.alloc _)
    try clear LIT
    try have LIT := TT
    try clear TT
    try have TT : Hid (Rws wx A2 n2 c2 (rs1 ++ [⟨kind, 0, bA, bc, body⟩])) := by (show Rws wx A2 n2 c2 (rs1 ++ [⟨kind, 0, bA, bc, body⟩]); rw [← hwx]; exact R2.out.later ((Keeps.refl None _).alloc _))
    try clear R2
    try have R2 := TT
    try clear TT
    try have TT : Hid (Bds wx (fun _ => True) (rs1 ++ [⟨kind, 0, bA, bc, body⟩])) := by (show Bds wx (fun _ => True) (rs1 ++ [⟨kind, 0, bA, bc, body⟩]); rw [← hwx]; exact BD2.out.later ((Keeps.refl None _).alloc _))
    try clear BD2
    try have BD2 := TT
    try clear TT
    try have TT : Hid (ChkV wx (fun b => b ≠ nb ∧ wb.heap.size ≤ b) A3 n3 c3 NX.k.mid) := by (show ChkV wx (fun b => b ≠ nb ∧ wb.heap.size ≤ b) A3 n3 c3 NX.k.mid; rw [← hwx]; exact (M3.out.mono (fun b h => ⟨by (have := h.1; omega), h.2⟩)).later ((Keeps.refl None _).alloc _))
    try clear M3
    try have M3 := TT
    try clear TT
    clear KC hwx hnb
    have KC := KD
    clear KD
    exact tl296 _
  ·
   refine wpPs_cons ?_
   try simp only [tds, Nat.reduceSub]
   refine wpMix_seg 1 (by kernel_rfl) (by decide) ?_
   simp only [tds, Nat.reduceSub]
   repeat (first | go_big_quiet_step (fail) | (go_big_quiet_want; first | refine quiet_load mk0 rfl rfl rfl aput ?_; go_big_quiet_on))
   refine wpQuiet_nil ?_
   refine wpMix_eff (by kernel_rfl) ?_
   go_wp2
   first | (refine Exists.elim (⟨_, rfl⟩ : ∃ x, wx.heap.size = x) fun ly hly => ?_; refine Exists.elim (⟨_, rfl⟩ : ∃ x, wx.alloc (.cells #[.int .i64 kind, .int .i64 0, .slice bA bn bc] 95) = x) fun wx hwx => ?_; rw [hwx, hly]) | (refine Exists.elim (⟨_, rfl⟩ : ∃ x, wb.heap.size = x) fun ly hly => ?_; refine Exists.elim (⟨_, rfl⟩ : ∃ x, wb.drew.alloc (.cells #[.int .i64 kind, .int .i64 0, .slice bA bn bc] 95) = x) fun wx hwx => ?_; rw [hwx, hly]) | (refine Exists.elim (⟨_, rfl⟩ : ∃ x, wb.heap.size = x) fun ly hly => ?_; refine Exists.elim (⟨_, rfl⟩ : ∃ x, (wb.alloc (.cells #[.int .i64 kind, .int .i64 0, .slice bA bn bc] 95)).drew = x) fun wx hwx => ?_; rw [hwx, hly])
   have LIT : Hid (Blk wx ly [.int .i64 kind, .int .i64 0, .slice bA bn bc] 95) := by (show Blk _ _ _ _; rw [← hwx, ← hly]; first | exact Blk.new _ [_, _, _] _ | exact (Blk.new _ [_, _, _] _).drew)
   have KD : Hid (Keeps None wb wx) := by (show Keeps _ _ _; rw [← hwx]; first | exact KC.out.alloc _ | exact ((Keeps.refl None wb).alloc _).drew)
   try have TT : Hid (Copied wb wx (.slice A1 rs1.length c1) rs1) := by (show Copied wb wx (.slice A1 rs1.length c1) rs1; rw [← hwx]; exact CP1.out.later ((Keeps.refl None _).alloc _))
   try clear CP1
   try have CP1 := TT
   try clear TT
   try have TT : Hid (Blk wx nb (stZ.cs none 0 0) 58) := by (show Blk wx nb (stZ.cs none 0 0) 58; rw [← hwx]; exact NB.out.alloc _)
   try clear NB
   try have NB := TT
   try clear TT
   clear KC hwx hly
   have KC := KD
   clear KD
   refine MixK.on (InS.mk ((mH.out _).2 ⟨(y81.out _ KC.out).1, (y81.out _ KC.out).2.1, (y81.out _ KC.out).2.2.1, (y81.out _ KC.out).2.2.2⟩)) ?_
   refine wpMix_nil ?_
   refine wpPs_nil ?_
   refine wpT_node2 (us := [(0, 5), (7, 4)]) [(0, 5)] [(7, 4)] [(9, 1)] [(0, 5), (7, 2), (10, 1)] (by kernel_rfl) ?_ ?_
   ·
    refine wpPs_cons ?_
    try simp only [tds, Nat.reduceSub]
    refine wpMix_seg 4 (by kernel_rfl) (by decide) ?_
    simp only [tds, Nat.reduceSub]
    repeat (first | go_big_quiet_step (fail) | (go_big_quiet_want; first | refine quiet_load mk0 rfl rfl rfl aput ?_; go_big_quiet_on))
    refine wpQuiet_nil ?_
    refine wpMix_eff (by kernel_rfl) ?_
    go_wp2_with fail
    refine (RC.out _ (MB.out.later KC.out)).mono ?_
    rintro e wx ⟨v1, rs1, rfl, cp1, hm1⟩
    obtain ⟨A1, c1, rfl, r1, -⟩ := cp1.o.shape
    have HN1 : rs1.length ≤ 2 := by (have h := congrArg List.length hm1; rw [List.length_map] at h; omega)
    have l1 := r1.le
    have m1 := r1.max
    have k1 := cp1.k
    try have VN := Lib.hid (show ∀ b, (Value.slice A1 rs1.length c1).ownBlock = some b → ¬ b = nb from fun b e h => by have h1 := (cp1.o.block e).1; have h2 := NB.out.lt; omega)
    have CP1 : Hid (Copied wb wx (.slice A1 rs1.length c1) rs1) := ⟨cp1.o.lower KC.out.size, cp1.bd.mono (fun b h _ => ⟨Nat.le_trans KC.out.size h.1, h.2⟩), KC.out.trans k1 (T := None) (fun _ h => h) (fun _ _ h => h)⟩
    have HM1 := Lib.hid hm1
    try have TT := Lib.hid (k1.blk NB.out (fun h => h))
    try clear NB
    try have NB := TT
    try clear TT
    try have TT := Lib.hid (k1.blk LIT.out (fun h => h))
    try clear LIT
    try have LIT := TT
    try clear TT
    try have TT := Lib.hid (KC.out.trans k1 (T := None) (fun _ h => h) (fun _ _ h => h))
    try clear KC
    try have KC := TT
    try clear TT
    clear cp1 hm1 r1 k1
    go_wp2
    exact tl286 _
   ·
    refine wpPs_cons ?_
    try simp only [tds, Nat.reduceSub]
    refine wpMix_eff (by kernel_rfl) ?_
    go_wp2
    first | (refine Exists.elim (⟨_, rfl⟩ : ∃ x, wx.heap.size = x) fun nb hnb => ?_; refine Exists.elim (⟨_, rfl⟩ : ∃ x, wx.alloc (.cells Tryz.zeroCells58 58) = x) fun wx hwx => ?_; rw [hwx, hnb]) | (refine Exists.elim (⟨_, rfl⟩ : ∃ x, wb.heap.size = x) fun nb hnb => ?_; refine Exists.elim (⟨_, rfl⟩ : ∃ x, wb.drew.alloc (.cells Tryz.zeroCells58 58) = x) fun wx hwx => ?_; rw [hwx, hnb]) | (refine Exists.elim (⟨_, rfl⟩ : ∃ x, wb.heap.size = x) fun nb hnb => ?_; refine Exists.elim (⟨_, rfl⟩ : ∃ x, (wb.alloc (.cells Tryz.zeroCells58 58)).drew = x) fun wx hwx => ?_; rw [hwx, hnb])
    have NB : Hid (Blk wx nb (stZ.cs none 0 0) 58) := by (show Blk _ _ _ _; rw [← hwx, ← hnb, st_zero]; first | exact Blk.new _ (stZ.cs none 0 0) _ | exact (Blk.new _ (stZ.cs none 0 0) _).drew)
    have NBL : Hid (wb.heap.size ≤ nb) := by (show _ ≤ _; rw [← hnb]; first | exact KC.out.size | exact Nat.le_refl _)
    have KD : Hid (Keeps None wb wx) := by (show Keeps _ _ _; rw [← hwx]; first | exact KC.out.alloc _ | exact ((Keeps.refl None wb).alloc _).drew)
    try have VN := Lib.hid (show ∀ b, (Value.slice A1 rs1.length c1).ownBlock = some b → ¬ b = nb from fun b e h => by have h1 := (CP1.out.o.block e).2; omega)
    try have TT : Hid (Copied wb wx (.slice A1 rs1.length c1) rs1) := by (show Copied wb wx (.slice A1 rs1.length c1) rs1; rw [← hwx]; exact CP1.out.later ((Keeps.refl None _).alloc _))
    try clear CP1
    try have CP1 := TT
    try clear TT
    try have TT : Hid (Blk wx ly [.int .i64 kind, .int .i64 0, .slice bA bn bc] 95) := by (show Blk wx ly [.int .i64 kind, .int .i64 0, .slice bA bn bc] 95; rw [← hwx]; exact LIT.out.alloc _)
    try clear LIT
    try have LIT := TT
    try clear TT
    try have TT : Hid (Rws wx A2 n2 c2 (rs1 ++ [⟨kind, 0, bA, bc, body⟩])) := by (show Rws wx A2 n2 c2 (rs1 ++ [⟨kind, 0, bA, bc, body⟩]); rw [← hwx]; exact R2.out.later ((Keeps.refl None _).alloc _))
    try clear R2
    try have R2 := TT
    try clear TT
    try have TT : Hid (Bds wx (fun _ => True) (rs1 ++ [⟨kind, 0, bA, bc, body⟩])) := by (show Bds wx (fun _ => True) (rs1 ++ [⟨kind, 0, bA, bc, body⟩]); rw [← hwx]; exact BD2.out.later ((Keeps.refl None _).alloc _))
    try clear BD2
    try have BD2 := TT
    try clear TT
    try have TT : Hid (ChkV wx (fun b => b ≠ nb ∧ wb.heap.size ≤ b) A3 n3 c3 NX.k.mid) := by (show ChkV wx (fun b => b ≠ nb ∧ wb.heap.size ≤ b) A3 n3 c3 NX.k.mid; rw [← hwx]; exact (M3.out.mono (fun b h => ⟨by (have := h.1; omega), h.2⟩)).later ((Keeps.refl None _).alloc _))
    try clear M3
    try have M3 := TT
    try clear TT
    clear KC hwx hnb
    exact tl298 _
  ·
   refine wpPs_cons ?_
   try simp only [tds, Nat.reduceSub]
   refine wpMix_eff (by kernel_rfl) ?_
   go_wp2
   first | (refine Exists.elim (⟨_, rfl⟩ : ∃ x, wx.heap.size = x) fun nb hnb => ?_; refine Exists.elim (⟨_, rfl⟩ : ∃ x, wx.alloc (.cells Tryz.zeroCells58 58) = x) fun wx hwx => ?_; rw [hwx, hnb]) | (refine Exists.elim (⟨_, rfl⟩ : ∃ x, wb.heap.size = x) fun nb hnb => ?_; refine Exists.elim (⟨_, rfl⟩ : ∃ x, wb.drew.alloc (.cells Tryz.zeroCells58 58) = x) fun wx hwx => ?_; rw [hwx, hnb]) | (refine Exists.elim (⟨_, rfl⟩ : ∃ x, wb.heap.size = x) fun nb hnb => ?_; refine Exists.elim (⟨_, rfl⟩ : ∃ x, (wb.alloc (.cells Tryz.zeroCells58 58)).drew = x) fun wx hwx => ?_; rw [hwx, hnb])
   have NB : Hid (Blk wx nb (stZ.cs none 0 0) 58) := by (show Blk _ _ _ _; rw [← hwx, ← hnb, st_zero]; first | exact Blk.new _ (stZ.cs none 0 0) _ | exact (Blk.new _ (stZ.cs none 0 0) _).drew)
   have NBL : Hid (wb.heap.size ≤ nb) := by (show _ ≤ _; rw [← hnb]; first | exact KC.out.size | exact Nat.le_refl _)
   have KD : Hid (Keeps None wb wx) := by (show Keeps _ _ _; rw [← hwx]; first | exact KC.out.alloc _ | exact ((Keeps.refl None wb).alloc _).drew)
   try have VN := Lib.hid (show ∀ b, (Value.slice A1 rs1.length c1).ownBlock = some b → ¬ b = nb from fun b e h => by have h1 := (CP1.out.o.block e).2; omega)
   try have TT : Hid (Copied wb wx (.slice A1 rs1.length c1) rs1) := by (show Copied wb wx (.slice A1 rs1.length c1) rs1; rw [← hwx]; exact CP1.out.later ((Keeps.refl None _).alloc _))
   try clear CP1
   try have CP1 := TT
   try clear TT
   try have TT : Hid (Blk wx ly [.int .i64 kind, .int .i64 0, .slice bA bn bc] 95) := by (show Blk wx ly [.int .i64 kind, .int .i64 0, .slice bA bn bc] 95; rw [← hwx]; exact LIT.out.alloc _)
   try clear LIT
   try have LIT := TT
   try clear TT
   try have TT : Hid (Rws wx A2 n2 c2 (rs1 ++ [⟨kind, 0, bA, bc, body⟩])) := by (show Rws wx A2 n2 c2 (rs1 ++ [⟨kind, 0, bA, bc, body⟩]); rw [← hwx]; exact R2.out.later ((Keeps.refl None _).alloc _))
   try clear R2
   try have R2 := TT
   try clear TT
   try have TT : Hid (Bds wx (fun _ => True) (rs1 ++ [⟨kind, 0, bA, bc, body⟩])) := by (show Bds wx (fun _ => True) (rs1 ++ [⟨kind, 0, bA, bc, body⟩]); rw [← hwx]; exact BD2.out.later ((Keeps.refl None _).alloc _))
   try clear BD2
   try have BD2 := TT
   try clear TT
   try have TT : Hid (ChkV wx (fun b => b ≠ nb ∧ wb.heap.size ≤ b) A3 n3 c3 NX.k.mid) := by (show ChkV wx (fun b => b ≠ nb ∧ wb.heap.size ≤ b) A3 n3 c3 NX.k.mid; rw [← hwx]; exact (M3.out.mono (fun b h => ⟨by (have := h.1; omega), h.2⟩)).later ((Keeps.refl None _).alloc _))
   try clear M3
   try have M3 := TT
   try clear TT
   clear KC hwx hnb
   have KC := KD
   clear KD
   refine MixK.on (InS.mk ((mH.out _).2 ⟨(y81.out _ KC.out).1, (y81.out _ KC.out).2.1, (y81.out _ KC.out).2.2.1, (y81.out _ KC.out).2.2.2⟩)) ?_
   refine wpMix_nil ?_
   refine wpPs_nil ?_
   refine wpT_node2 (us := [(0, 9), (10, 1)]) [(0, 5)] [(5, 4), (10, 1)] [(5, 2)] [(0, 5), (7, 2), (10, 1)] (by kernel_rfl) ?_ ?_
   ·
    refine wpPs_cons ?_
    try simp only [tds, Nat.reduceSub]
    refine wpMix_seg 4 (by kernel_rfl) (by decide) ?_
    simp only [tds, Nat.reduceSub]
    repeat (first | go_big_quiet_step (fail) | (go_big_quiet_want; first | refine quiet_load mk0 rfl rfl rfl aput ?_; go_big_quiet_on))
    refine wpQuiet_nil ?_
    refine wpMix_eff (by kernel_rfl) ?_
    go_wp2_with fail
    refine (RC.out _ (MB.out.later KC.out)).mono ?_
    rintro e wx ⟨v1, rs1, rfl, cp1, hm1⟩
    obtain ⟨A1, c1, rfl, r1, -⟩ := cp1.o.shape
    have HN1 : rs1.length ≤ 2 := by (have h := congrArg List.length hm1; rw [List.length_map] at h; omega)
    have l1 := r1.le
    have m1 := r1.max
    have k1 := cp1.k
    try have VN := Lib.hid (show ∀ b, (Value.slice A1 rs1.length c1).ownBlock = some b → ¬ b = nb from fun b e h => by have h1 := (cp1.o.block e).1; have h2 := NB.out.lt; omega)
    have CP1 : Hid (Copied wb wx (.slice A1 rs1.length c1) rs1) := ⟨cp1.o.lower KC.out.size, cp1.bd.mono (fun b h _ => ⟨Nat.le_trans KC.out.size h.1, h.2⟩), KC.out.trans k1 (T := None) (fun _ h => h) (fun _ _ h => h)⟩
    have HM1 := Lib.hid hm1
    try have TT := Lib.hid (k1.blk NB.out (fun h => h))
    try clear NB
    try have NB := TT
    try clear TT
    try have TT := Lib.hid (k1.blk LIT.out (fun h => h))
    try clear LIT
    try have LIT := TT
    try clear TT
    try have TT := Lib.hid (KC.out.trans k1 (T := None) (fun _ h => h) (fun _ _ h => h))
    try clear KC
    try have KC := TT
    try clear TT
    clear cp1 hm1 r1 k1
    go_wp2
    exact tl296 _
   ·
    refine wpPs_cons ?_
    try simp only [tds, Nat.reduceSub]
    refine wpMix_seg 1 (by kernel_rfl) (by decide) ?_
    simp only [tds, Nat.reduceSub]
    repeat (first | go_big_quiet_step (fail) | (go_big_quiet_want; first | refine quiet_load mk0 rfl rfl rfl aput ?_; go_big_quiet_on))
    refine wpQuiet_nil ?_
    refine wpMix_eff (by kernel_rfl) ?_
    go_wp2
    first | (refine Exists.elim (⟨_, rfl⟩ : ∃ x, wx.heap.size = x) fun ly hly => ?_; refine Exists.elim (⟨_, rfl⟩ : ∃ x, wx.alloc (.cells #[.int .i64 kind, .int .i64 0, .slice bA bn bc] 95) = x) fun wx hwx => ?_; rw [hwx, hly]) | (refine Exists.elim (⟨_, rfl⟩ : ∃ x, wb.heap.size = x) fun ly hly => ?_; refine Exists.elim (⟨_, rfl⟩ : ∃ x, wb.drew.alloc (.cells #[.int .i64 kind, .int .i64 0, .slice bA bn bc] 95) = x) fun wx hwx => ?_; rw [hwx, hly]) | (refine Exists.elim (⟨_, rfl⟩ : ∃ x, wb.heap.size = x) fun ly hly => ?_; refine Exists.elim (⟨_, rfl⟩ : ∃ x, (wb.alloc (.cells #[.int .i64 kind, .int .i64 0, .slice bA bn bc] 95)).drew = x) fun wx hwx => ?_; rw [hwx, hly])
    have LIT : Hid (Blk wx ly [.int .i64 kind, .int .i64 0, .slice bA bn bc] 95) := by (show Blk _ _ _ _; rw [← hwx, ← hly]; first | exact Blk.new _ [_, _, _] _ | exact (Blk.new _ [_, _, _] _).drew)
    have KD : Hid (Keeps None wb wx) := by (show Keeps _ _ _; rw [← hwx]; first | exact KC.out.alloc _ | exact ((Keeps.refl None wb).alloc _).drew)
    try have TT : Hid (Copied wb wx (.slice A1 rs1.length c1) rs1) := by (show Copied wb wx (.slice A1 rs1.length c1) rs1; rw [← hwx]; exact CP1.out.later ((Keeps.refl None _).alloc _))
    try clear CP1
    try have CP1 := TT
    try clear TT
    try have TT : Hid (Blk wx nb (stZ.cs none 0 0) 58) := by (show Blk wx nb (stZ.cs none 0 0) 58; rw [← hwx]; exact NB.out.alloc _)
    try clear NB
    try have NB := TT
    try clear TT
    clear KC hwx hly
    exact tl298 _
 case rest =>
  obtain ⟨nb, A3, n3, c3, rfl, k3, b3, m3, nbl⟩ := hcut
  obtain ⟨w4, rfl⟩ : ∃ x, x = wc := ⟨_, rfl⟩
  have NB4 := Lib.hid b3
  have K4 := Lib.hid (KB.out.trans k3 (T := None) (fun _ h => h) (fun _ _ h => h))
  have G4 := Lib.hid (G.out.later K4.out)
  have lbw := G.out.l.lt
  have lbB := G.out.lB
  have B4 := Lib.hid (HB.out.keeps K4.out (fun _ _ _ _ _ h => h))
  have szb := KB.out.size
  have l3 := m3.b.le
  have q3 := m3.b.max
  have JLT := Lib.hid (fun k hk => G.out.lj.at_.lt k hk)
  have M4 : Hid (ChkV w4 (fun b => B ≤ b ∧ ¬ X.S b ∧ ¬ b = lb ∧ ¬ b = nb ∧ w.heap.size ≤ b) A3 n3 c3 NX.k.mid) := m3.mono (fun b hb => ⟨by have := hb.2; omega, fun hS => by have := JLT.out b hS; have := hb.2; omega, by have := hb.2; omega, hb.1, by have := hb.2; omega⟩)
  have NS4 : Hid (¬ X.S nb) := fun hS => by have := JLT.out nb hS; omega
  have nlb : ¬ nb = lb := by omega
  clear k3 b3 m3 JLT
  have y0 := G4.out.l.cellD 0 _ rfl
  go_wp2_with fail
  refine (AP.out _ _ G4.out.lj B4.out).mono ?_
  rintro e w5 ⟨rfl, X5, h5, t5⟩
  have G5 := Lib.hid (G4.out.turn t5)
  have NB5 := Lib.hid (t5.keeps.blk NB4.out NS4.out)
  have NS5 := Lib.hid (t5.out NS4.out NB4.out.lt)
  have M5 := Lib.hid (M4.out.turnQ t5)
  have T5 : Hid (RLGT lb X X5 w w5) := (RLGT.jturn t5).ahead K4.out
  clear h5 t5 G4 NB4 NS4 M4 y0 B4 AP
  by_cases q14 : e5 = 14
  ·rw [if_pos q14] at KE
   subst q14
   obtain ⟨s7, j7, e7, hcf⟩ : ∃ s7 j7 e7, cmpF s5 j5 (recsS NX) = (s7, j7, e7) := ⟨_, _, _, rfl⟩
   have KE2 : Hid (keepF s j st kind body = (s7, j7, (if e7 = 0 then NX else st), e7)) := by show keepF _ _ _ _ _ = _; rw [KE.out, hcf]
   have RC := Lib.hid (fun wz h => rgrecs_any NX NO.out A3 n3 c3 (fun b => B ≤ b ∧ ¬ X5.S b ∧ ¬ b = lb ∧ ¬ b = nb ∧ w.heap.size ≤ b) wz h)
   unfold St.v at RC
   have CMP := Lib.hid (fun (w : World) (rs : List RV) (A : Option Addr) (k c : Nat) (P : Nat → Prop) (h : QLJ W w B q jb X5 s5 j5) (hr : Rws w A k c rs) (hb : Bds w P rs) (hk : k ≤ 100000) (hm : rs.map RV.r = recsS NX) => qlcompact h OK2.out HEL.out RM2.out hr hb hk (fun r hr => by
    have h1 := recsS_short NI.out r.r (by rw [← hm]; exact List.mem_map_of_mem hr)
    have h1 : r.b.length ≤ 512 := h1
    omega))
   have LS : Hid (∀ w', Keeps X5.S w5 w' → w'.cell? ⟨lb, 0, none⟩ = some (.pointer (some ⟨jb, 0, none⟩)) ∧ (Instr.loadAt 58 (.pointer (some ⟨nb, 0, none⟩))).run Tryz.prog w' = .ok (.agg (NX.cs A3 n3 c3).toArray) w') := fun w' k =>
    ⟨(k.blk G5.out.l G5.out.lS).cellD 0 _ rfl, run_loadAt_mid w' nb 0 58 (NX.cs A3 n3 c3) _ (blk_range (k.blk NB5.out NS5.out) (fun j v hv => by rw [Nat.zero_add]; exact hv)) Tryz.underlying58 rfl (by rw [St.cs_len NO.out]; exact st_size)⟩
   have KR := Lib.hid (Keeps.refl X5.S w5)
   have RLN := recsS_len NX
   clear KE
   go_wp2
   obtain ⟨mS, mh⟩ : ∃ S : World → Prop, ∀ w', S w' ↔ (w'.cell? ⟨lb, 0, none⟩ = some (.pointer (some ⟨jb, 0, none⟩)) ∧ ((Instr.loadAt 58 (.pointer (some ⟨nb, 0, none⟩))).run Tryz.prog w' = .ok (.agg (NX.cs A3 n3 c3).toArray) w')) := ⟨_, fun _ => Iff.rfl⟩
   have mk0 : ∀ x : Memb mS, x.at_.cell? ⟨lb, 0, none⟩ = some (.pointer (some ⟨jb, 0, none⟩)) := fun x => ((mh _).1 x.is).1
   have mk1 : ∀ x : Memb mS, (Instr.loadAt 58 (.pointer (some ⟨nb, 0, none⟩))).run Tryz.prog x.at_ = .ok (.agg (NX.cs A3 n3 c3).toArray) x.at_ := fun x => ((mh _).1 x.is).2
   have mn : Nonempty (Memb mS) := ⟨⟨(w5).drew, (mh _).2 ⟨(LS.out _ KR.out).1, (LS.out _ KR.out.drew).2⟩⟩⟩
   have mH := Lib.hid mh
   clear mh
   refine wp_region_mix [5, 6] (InS mS) (by kernel_rfl) (by kernel_rfl) (InS.mk ((mH.out _).2 ⟨(LS.out _ KR.out).1, (LS.out _ KR.out.drew).2⟩)) ?_
   refine wpMix_seg 5 (by kernel_rfl) (by decide) ?_
   simp only [tds]
   repeat (first | go_big_quiet_step (fail) | (go_big_quiet_want; first | refine quiet_load mk1 rfl rfl rfl aput ?_; go_big_quiet_on))
   refine wpQuiet_nil ?_
   refine wpMix_eff (by kernel_rfl) ?_
   go_wp2_with fail
   refine (RC.out _ (M5.out.later (Keeps.refl None w5).drew)).mono ?_
   rintro e w6 ⟨v6, rs6, rfl, cp6, hm6⟩
   obtain ⟨A6, c6, rfl, r6, -⟩ := cp6.o.shape
   have q6 := r6.le
   have q7 := r6.max
   have R6 := Lib.hid r6
   have BD6 := Lib.hid cp6.bd
   have HM6 := Lib.hid hm6
   have KN6 := Lib.hid ((Keeps.refl None w5).drew.trans cp6.k (T := None) (fun _ h => h) (fun _ _ h => h))
   have KX6 := Lib.hid (KN6.out.mono (T := X5.S) (fun _ _ h => absurd h (fun h => h)))
   have L6 : rs6.length ≤ 2 := by (have h := congrArg List.length hm6; rw [List.length_map] at h; omega)
   clear cp6 hm6 r6
   go_wp2
   refine MixK.on (InS.mk ((mH.out _).2 (⟨(LS.out _ KX6.out).1, (LS.out _ KX6.out).2⟩))) ?_
   refine wpMix_eff (by kernel_rfl) ?_
   go_wp2_with fail
   refine (CMP.out _ _ _ _ _ _ (G5.out.lj.later KN6.out) R6.out BD6.out (by omega) HM6.out).mono ?_
   rw [HM6.out, hcf]
   rintro e w7 ⟨rfl, X7, h7, t7⟩
   have G7 := Lib.hid ((G5.out.later KN6.out).turn t7)
   have NB6 := Lib.hid (KN6.out.blk NB5.out (fun h => h))
   have NB7 := Lib.hid (t7.keeps.blk NB6.out NS5.out)
   have M7 := Lib.hid ((M5.out.later KN6.out).turnQ t7)
   have KX7 := Lib.hid (KX6.out.trans t7.keeps (fun _ h => h) (fun _ _ h => h))
   have T7 : Hid (RLGT lb X X7 w w7) := T5.out.trans ((RLGT.jturn t7).ahead KN6.out)
   clear h7 t7
   go_wp2
   refine MixK.on (InS.mk ((mH.out _).2 (⟨(LS.out _ KX7.out).1, (LS.out _ KX7.out).2⟩))) ?_
   refine wpMix_seg 1 (by kernel_rfl) (by decide) ?_
   simp only [tds]
   repeat (first | go_big_quiet_step (fail) | (go_big_quiet_want; first | refine quiet_load mk1 rfl rfl rfl aput ?_; go_big_quiet_on))
   refine wpQuiet_nil ?_
   refine wpMix_nil ?_
   clear mk0 mk1 mn mH
   clear LS RC CMP M5 NB5 G5 hcf
   by_cases q0 : e7 = 0
   ·have d0 : (e7 == 0) = true := by simpa using q0
    rw [if_pos q0] at KE2
    have SO5 := Lib.hid G7.out.inv.ok
    go_wp2_with (first | (refine wpList_load_blk (b := nb) (o := 0) (ds := NX.cs A3 n3 c3) NB7.out (fun j v hv => by rw [Nat.zero_add]; exact hv) rfl rfl rfl Tryz.underlying58 rfl (by rw [St.cs_len NO.out]; exact st_size) ?_) | (refine wpList_store_blk (b := lb) (o := 1) (ds := NX.cs A3 n3 c3) G7.out.l (by show _ ≤ (St.cs _ _ _ _).length + 1; rw [St.cs_len NO.out, St.cs_len SO5.out]; decide) (St.cs_one _ _ _ _) rfl rfl rfl rfl (by rw [St.cs_len NO.out]; exact st_size) ?_))
    intro w9 b9 k9
    rw [lcs_put SO5.out NO.out] at b9
    have GF : Hid (RLG W w9 B q lb jb X7 s7 j7 NX A3 n3 c3) := ⟨G7.out.lj.keepsG k9 (fun b hS e => G7.out.lS (by rw [← e]; exact hS)) (fun b hb e => by have h1 := G7.out.lB; have h2 := G7.out.lj.le; omega), b9, G7.out.lS, G7.out.lB, (M7.out.keeps k9 (fun b hb e => hb.2.2.1 e)).mono (fun b hb => ⟨hb.1, hb.2.1, hb.2.2.1⟩), NI.out⟩
    exact tl200 _
   ·exact tl201 _
  ·have d14 : (e5 == 14) = false := by simpa using q14
   rw [if_neg q14] at KE
   have KE2 : Hid (keepF s j st kind body = (s5, j5, (if e5 = 0 then NX else st), e5)) := KE.out
   clear KE
   by_cases q0 : e5 = 0
   ·have d0 : (e5 == 0) = true := by simpa using q0
    rw [if_pos q0] at KE2
    have SO5 := Lib.hid G5.out.inv.ok
    go_wp2_with (first | (refine wpList_load_blk (b := nb) (o := 0) (ds := NX.cs A3 n3 c3) NB5.out (fun j v hv => by rw [Nat.zero_add]; exact hv) rfl rfl rfl Tryz.underlying58 rfl (by rw [St.cs_len NO.out]; exact st_size) ?_) | (refine wpList_store_blk (b := lb) (o := 1) (ds := NX.cs A3 n3 c3) G5.out.l (by show _ ≤ (St.cs _ _ _ _).length + 1; rw [St.cs_len NO.out, St.cs_len SO5.out]; decide) (St.cs_one _ _ _ _) rfl rfl rfl rfl (by rw [St.cs_len NO.out]; exact st_size) ?_))
    intro w9 b9 k9
    rw [lcs_put SO5.out NO.out] at b9
    have GF : Hid (RLG W w9 B q lb jb X5 s5 j5 NX A3 n3 c3) := ⟨G5.out.lj.keepsG k9 (fun b hS e => G5.out.lS (by rw [← e]; exact hS)) (fun b hb e => by have h1 := G5.out.lB; have h2 := G5.out.lj.le; omega), b9, G5.out.lS, G5.out.lB, (M5.out.keeps k9 (fun b hb e => hb.2.2.1 e)).mono (fun b hb => ⟨hb.1, hb.2.1, hb.2.2.1⟩), NI.out⟩
    exact tl202 _
   ·exact tl203 _
open Go.RowKit
theorem tl300 (P : Prop) (h : P := by
 clear KP NS B1 b1 o1 k1
 go_wp2
 go_ret
 rw [CF.out]
 exact ⟨rfl, X, A, n, cap, G1.out, RLGT.same K1.out, MidT.refl _ _ _⟩) : P := h
set_option maxRecDepth 100000 in
set_option maxHeartbeats 3200000 in
theorem rlcommit_any {W w : World} {B q lb jb : Nat} {X : QX} {s : FS} {j : JS} {st : St} {A : Option Addr} {n cap m : Nat} (h : RLG W w B q lb jb X s j st A n cap) (ok : JOk j) (c : Com) (oc : c.ok)
    (ok2 : JOk (appF s j 2 (comL c)).2.1) (hel : 2 ≤ (appF s j 2 (comL c)).1.er.length) (rm : JRm s (m + 3250)) :
    Calls Tryz.prog 12 #[.pointer (some ⟨lb, 0, none⟩), c.v] w (RLGDone W w B q lb jb X A n (commitF s j st c)) := by
 have G := Lib.hid h
 have CO := Lib.hid oc
 have PUT := Lib.hid (fun w => rgputc_any c oc w)
 unfold Com.v at PUT ⊢
 obtain ⟨w0, hw0⟩ : ∃ x, w.alloc (.cells c.cs.toArray 41) = x := ⟨_, rfl⟩
 have CB : Hid (Blk w0 w.heap.size c.cs 41) := by rw [← hw0]; exact Blk.new w c.cs 41
 have K0 : Hid (Keeps None w w0) := by rw [← hw0]; exact (Keeps.refl None w).alloc _
 have KP := Lib.hid (fun (w' : World) (A' : Option Addr) (n' c' : Nat) (g : RLG W w' B q lb jb X s j st A n cap) (hb : Bs w' A' n' c' (comL c)) (hn : n' ≤ 600) (hS : ∀ b off, 0 < n' → A' = some ⟨b, off, none⟩ → ¬ X.S b) => rldo_any g ok 2 hb hn hS ok2 hel rm)
 obtain ⟨V, hV⟩ : ∃ V, c.cs.toArray = V := ⟨_, rfl⟩
 rw [hV] at hw0 ⊢
 have HV := Lib.hid hV
 clear h ok oc ok2 hel rm hV
 go_enter Tryz.func12, Tryz.ntmps12
 go_wp2_with (refine wpList_load_blk (b := w.heap.size) (o := 0) (ds := c.cs) CB.out (fun j v hv => by rw [Nat.zero_add]; exact hv) rfl rfl rfl Tryz.underlying41 rfl (by rw [Com.cs_len CO.out]; exact com_size) ?_)
 go_wp2_with fail
 refine (PUT.out _).mono ?_
 rintro e w1 ⟨v1, rfl, o1, k1⟩
 obtain ⟨A1, c1, rfl, b1, -⟩ := o1.shape
 have K1 := Lib.hid (K0.out.trans k1 (T := None) (fun _ h => h) (fun _ _ h => h))
 have G1 := Lib.hid (G.out.later K1.out)
 have q1 := b1.le
 have q2 := b1.max
 have B1 := Lib.hid b1
 have NS : Hid (∀ b off, 0 < (comL c).length → A1 = some ⟨b, off, none⟩ → ¬ X.S b) := fun b off hn e hS => by
  have h1 := ((chkV_own o1).p b off hn e).1
  have h2 := G.out.lj.at_.lt b hS
  have h3 := K0.out.size
  omega
 by_cases hm : c.may
 ·exact tl204 _
 ·have L0 : (comL c).length = 0 := Nat.eq_zero_of_not_pos (fun h => hm (comL_pos.1 h))
  rw [L0]
  have CF : Hid (commitF s j st c = (s, j, st, 1)) := if_neg hm
  exact tl300 _
set_option maxRecDepth 100000 in
set_option maxHeartbeats 3200000 in
theorem rlcheck_any {W w : World} {B q lb jb : Nat} {X : QX} {s : FS} {j : JS} {st : St} {A : Option Addr} {n cap m : Nat} (h : RLG W w B q lb jb X s j st A n cap) (ok : JOk j) (c : Chk) (oc : c.ok) {kA : Option Addr} {kn kc : Nat} (hm : Bs w kA kn kc c.mid)
    (ok2 : JOk (appF s j 3 (chkL c)).2.1) (hel : 2 ≤ (appF s j 3 (chkL c)).1.er.length) (rm : JRm s (m + 3250)) :
    Calls Tryz.prog 14 #[.pointer (some ⟨lb, 0, none⟩), c.v kA kn kc] w (RLGDone W w B q lb jb X A n (checkF s j st c)) := by
 have G := Lib.hid h
 have CO := Lib.hid oc
 have PUT := Lib.hid (fun w h => rgputk_any c oc kA kn kc w h)
 have HMD := Lib.hid hm
 unfold Chk.v at PUT ⊢
 obtain ⟨w0, hw0⟩ : ∃ x, w.alloc (.cells (c.cs kA kn kc).toArray 44) = x := ⟨_, rfl⟩
 have CB : Hid (Blk w0 w.heap.size (c.cs kA kn kc) 44) := by rw [← hw0]; exact Blk.new w (c.cs kA kn kc) 44
 have K0 : Hid (Keeps None w w0) := by rw [← hw0]; exact (Keeps.refl None w).alloc _
 have KP := Lib.hid (fun (w' : World) (A' : Option Addr) (n' c' : Nat) (g : RLG W w' B q lb jb X s j st A n cap) (hb : Bs w' A' n' c' (chkL c)) (hn : n' ≤ 600) (hS : ∀ b off, 0 < n' → A' = some ⟨b, off, none⟩ → ¬ X.S b) => rldo_any g ok 3 hb hn hS ok2 hel rm)
 obtain ⟨V, hV⟩ : ∃ V, (c.cs kA kn kc).toArray = V := ⟨_, rfl⟩
 rw [hV] at hw0 ⊢
 have HV := Lib.hid hV
 clear h ok oc ok2 hel rm hV hm
 go_enter Tryz.func14, Tryz.ntmps14
 go_wp2_with (refine wpList_load_blk (b := w.heap.size) (o := 0) (ds := c.cs kA kn kc) CB.out (fun j v hv => by rw [Nat.zero_add]; exact hv) rfl rfl rfl Tryz.underlying44 rfl (by rw [Chk.cs_len CO.out]; exact chk_size) ?_)
 go_wp2_with fail
 refine (PUT.out _ (HMD.out.keeps K0.out (fun _ _ _ _ _ h => h))).mono ?_
 rintro e w1 ⟨v1, rfl, o1, k1⟩
 obtain ⟨A1, c1, rfl, b1, -⟩ := o1.shape
 have K1 := Lib.hid (K0.out.trans k1 (T := None) (fun _ h => h) (fun _ _ h => h))
 have G1 := Lib.hid (G.out.later K1.out)
 have q1 := b1.le
 have q2 := b1.max
 have B1 := Lib.hid b1
 have NS : Hid (∀ b off, 0 < (chkL c).length → A1 = some ⟨b, off, none⟩ → ¬ X.S b) := fun b off hn e hS => by
  have h1 := ((chkV_own o1).p b off hn e).1
  have h2 := G.out.lj.at_.lt b hS
  have h3 := K0.out.size
  omega
 by_cases hmay : c.may
 ·exact tl209 _
 ·have L0 : (chkL c).length = 0 := Nat.eq_zero_of_not_pos (fun h => hmay (chkL_pos.1 h))
  rw [L0]
  have CF : Hid (checkF s j st c = (s, j, st, 1)) := if_neg hmay
  exact tl300 _
set_option maxRecDepth 100000 in
set_option maxHeartbeats 1600000 in
theorem rlclear_any {W w : World} {B q lb jb : Nat} {X : QX} {s : FS} {j : JS} {st : St} {A : Option Addr} {n cap m : Nat} (h : RLG W w B q lb jb X s j st A n cap) (ok : JOk j)
    (ok2 : JOk (appF s j 4 []).2.1) (hel : 2 ≤ (appF s j 4 []).1.er.length) (rm : JRm s (m + 3250)) :
    Calls Tryz.prog 16 #[.pointer (some ⟨lb, 0, none⟩)] w (RLGDone W w B q lb jb X A n (clearF s j st)) := by
 have KD := Lib.hid (rldo_any h ok 4 (bA := none) (bn := 0) (bc := 0) (body := []) ⟨rfl, Nat.le_refl _, by decide, (fun _ => ⟨rfl, rfl⟩), (fun z hz => by cases hz), fun h => absurd h (Nat.lt_irrefl _)⟩ (by decide) (fun b off hn _ => absurd hn (Nat.lt_irrefl _)) ok2 hel rm)
 have x69 : w.cell? ⟨lb, 69, none⟩ = some (.bool st.has) := h.l.cellD 69 _ (St.cs_has h.inv.ok A n cap)
 have G := Lib.hid h
 obtain ⟨hs, hhs⟩ : ∃ b, st.has = b := ⟨_, rfl⟩
 have HHS := Lib.hid hhs
 rw [hhs] at x69
 clear h ok ok2 hel rm hhs
 go_enter Tryz.func16, Tryz.ntmps16
 cases hs with
 | false =>
  have CF : Hid (clearF s j st = (s, j, st, 0)) := if_neg (by rw [HHS.out]; decide)
  go_wp2
  go_ret
  rw [CF.out]
  exact ⟨rfl, X, A, n, cap, G.out, RLGT.same (Keeps.refl None w), MidT.refl _ _ _⟩
 | true =>
  exact tl210 _
open Go.RowKit
def RLGOpen (W w : World) (B q : Nat) (L : RL) (s : FS) (j : JS) (st : St) (e : Ending) (w' : World) : Prop :=
  ∃ (X : QX) (jb lb : Nat) (A : Option Addr) (n cap : Nat), e = .returned (.pointer (some ⟨lb, 0, none⟩)) ∧ RLG W w' B q lb jb X s j st A n cap ∧ (X.L = L ∧ ∀ k, X.S k → L.O k ∨ w.heap.size ≤ k) ∧ Keeps None w w' ∧ w.heap.size ≤ lb ∧ MidT none 0 A n w.heap.size
theorem rbuilt_led0 (parts : List (Nat × Value)) : (Tryz.prog).built 62 parts = Instr.fill (fun x => [(0, 1), (1, 82)].toArray[x]?) (.pointer none :: stZ.cs none 0 0).toArray parts := by kernel_rfl
theorem rbuilt_led {st : St} (o : st.ok) (jb : Nat) (A : Option Addr) (n cap : Nat) : (Tryz.prog).built 62 #[(0, .pointer (some ⟨jb, 0, none⟩)), (1, .agg (st.cs A n cap).toArray)].toList = some (st.lcs jb A n cap).toArray := by
 rw [rbuilt_led0]
 exact tl207 _
set_option maxRecDepth 100000 in
set_option maxHeartbeats 3200000 in
theorem rlopen_any {W w : World} {B q n e : Nat} {c : Int} {l : List Rec} {T : List Int} {L : RL} {s : FS} (h : RAt w B L s) (hq : L.bf = q) (hW : Keeps None W w) (hle : W.heap.size ≤ B) (g : FG s n) (hd : s.dark = false) (hk : Keep s e c l T) :
    Calls Tryz.prog 8 #[.agg #[.pointer (some ⟨q, 0, none⟩), .int .i64 0, .int .i64 2]] w fun e' w' => ∃ lb, e' = .returned (.tuple #[.pointer (some ⟨lb, 0, none⟩), .int .i64 0]) ∧ RLGOpen W w B q L s (keptJ e c l T) (foldS l) (.returned (.pointer (some ⟨lb, 0, none⟩))) w' := by
 have hn : 2 ≤ L.n := by have h1 := h.el; rw [g.el] at h1; have h2 := g.n2; omega
 have OP := Lib.hid (fun w1 (k : Keeps None w w1) => rjopen_any B L s q w1 (h.later k) hq hd hn)
 rw [hk.open g] at OP
 have OK := Lib.hid hk.ok
 have JL := Lib.hid (keptJ_lG hk)
 have BY := Lib.hid (foldS_inv hk.bytG)
 have HK := Lib.hid hW
 have HLE := Lib.hid hle
 clear h
 go_enter Tryz.func8, Tryz.ntmps8
 go_wp2_with fail
 refine (OP.out _ ((Keeps.refl None w).alloc _)).mono ?_
 rintro e w2 ⟨X, rfl, h2, hL, k2, hO⟩
 have KK := Lib.hid (((Keeps.refl None w).alloc (.cells #[.pointer (some ⟨q, 0, none⟩), .int .i64 0, .int .i64 2] 29)).trans k2 (T := None) (fun _ h => h) (fun _ _ h => h))
 have H2 : Hid (QLJ W w2 B q X.jb X s (keptJ _ c l T)) := ⟨h2, rfl, HK.out.trans KK.out (fun _ h => h) (fun _ _ h => h), HLE.out⟩
 have HL := Lib.hid hL
 have HO : Hid (∀ k, X.S k → L.O k ∨ w.heap.size ≤ k) := fun k hk => (hO k hk).imp id (fun h => Nat.le_trans ((Keeps.refl None w).alloc (.cells #[.pointer (some ⟨q, 0, none⟩), .int .i64 0, .int .i64 2] 29)).size h)
 clear h2 hL k2 hO OP
 obtain ⟨jb, hjb⟩ : ∃ x, X.jb = x := ⟨_, rfl⟩
 have HJB := Lib.hid hjb
 rw [hjb] at H2 ⊢
 obtain ⟨A3, c3, hlv, r3, -⟩ := H2.out.at_.l.shape
 have FD := Lib.hid (rgfold_any _ _ _ _ _ w2 r3 H2.out.at_.bd)
 rw [H2.out.at_.recs, JL.out] at FD
 have y3 := H2.out.at_.c.cellD 3 _ rfl
 rw [hlv, hjb] at y3
 have l3 := r3.le
 have m3 := r3.max
 have K3 := KK
 have H3 := H2
 clear r3 hlv hjb
 go_wp2_with fail
 refine FD.out.mono ?_
 rintro e w4 ⟨A4, n4, c4, rfl, m4, k4⟩
 have H4 := Lib.hid (H3.out.later k4)
 have K4 := Lib.hid (K3.out.trans k4 (T := None) (fun _ h => h) (fun _ _ h => h))
 have M4 : Hid (ChkV w4 (fun b => B ≤ b ∧ ¬ X.S b ∧ ¬ b = w4.heap.size) A4 n4 c4 (foldS l).k.mid) := m4.lt.mono (fun b hb => by
  rcases hb.1 with h | h
  ·exact absurd h (fun h => h)
  ·have h1 : B ≤ jb := by have := H3.out.at_.jB; rw [HJB.out] at this; exact this
   have h2 : jb < w2.heap.size := by have := H3.out.at_.c.lt; rw [HJB.out] at this; exact this
   exact ⟨by omega, fun hS => by have := H3.out.at_.lt b hS; omega, by have := hb.2; omega⟩)
 have MT : Hid (MidT none 0 A4 n4 w.heap.size) := MidT.new m4 (fun b hb => hb.elim (fun h => h.elim) (fun h => Nat.le_trans K3.out.size h))
 have BD := Lib.hid (rbuilt_led BY.out.ok jb A4 n4 c4)
 have jBB : B ≤ w4.heap.size := by have h1 := H4.out.at_.jB; have h2 := H4.out.at_.c.lt; omega
 have GL : Hid (RLG W (w4.alloc (.cells ((foldS l).lcs jb A4 n4 c4).toArray 62)) B q w4.heap.size jb X s (keptJ _ c l T) (foldS l) A4 n4 c4) :=
  ⟨H4.out.alloc _, Blk.new w4 ((foldS l).lcs jb A4 n4 c4) 62, fun hS => by have := H4.out.at_.lt _ hS; omega, jBB, M4.out.later ((Keeps.refl None w4).alloc _), BY.out⟩
 have K5 := Lib.hid (K4.out.alloc (.cells ((foldS l).lcs jb A4 n4 c4).toArray 62))
 exact tl208 _
open Go.RowKit
structure Stp (P P' : Nat → Prop) (w w' : World) : Prop where
  keeps : Keeps P w w'
  o : ∀ k, P' k → P k ∨ w.heap.size ≤ k
structure Side (w : World) (b : Nat) (cs : List Value) (T : TypeId) (P Q : Nat → Prop) : Prop where
  blk : Blk w b cs T
  p : ¬ P b
  q : ¬ Q b
theorem Side.later {w w' : World} {b : Nat} {cs : List Value} {T : TypeId} {P Q : Nat → Prop} (h : Side w b cs T P Q) (k : Keeps None w w') : Side w' b cs T P Q := ⟨k.blk h.blk (fun h => h), h.p, h.q⟩
theorem Side.g {w w' : World} {b : Nat} {cs : List Value} {T : TypeId} {P P' Q : Nat → Prop} (h : Side w b cs T P Q) (t : Stp P P' w w') : Side w' b cs T P' Q :=
  ⟨t.keeps.blk h.blk h.p, fun h2 => (t.o b h2).elim h.p (fun h3 => by have := h.blk.lt; omega), h.q⟩
theorem Side.h {w w' : World} {b : Nat} {cs : List Value} {T : TypeId} {P Q Q' : Nat → Prop} (h : Side w b cs T P Q) (t : Stp Q Q' w w') : Side w' b cs T P Q' :=
  ⟨t.keeps.blk h.blk h.q, h.p, fun h2 => (t.o b h2).elim h.q (fun h3 => by have := h.blk.lt; omega)⟩
structure SideB (w : World) (A : Option Addr) (n c : Nat) (zs : List Int) (P Q : Nat → Prop) : Prop where
  b : Bs w A n c zs
  p : ∀ b off, 0 < n → A = some ⟨b, off, none⟩ → ¬ P b ∧ ¬ Q b ∧ b < w.heap.size
theorem SideB.later {w w' : World} {A : Option Addr} {n c : Nat} {zs : List Int} {P Q : Nat → Prop} (h : SideB w A n c zs P Q) (k : Keeps None w w') : SideB w' A n c zs P Q :=
  ⟨h.b.keeps k (fun _ _ _ _ _ h => h), fun b off hn e => ⟨(h.p b off hn e).1, (h.p b off hn e).2.1, Nat.lt_of_lt_of_le (h.p b off hn e).2.2 k.size⟩⟩
def OX (S : Nat → Prop) (lb : Nat) (A : Option Addr) (n : Nat) (k : Nat) : Prop := S k ∨ k = lb ∨ (0 < n ∧ ∃ off, A = some ⟨k, off, none⟩)
theorem ox_next {S S' : Nat → Prop} {lb : Nat} {A A' : Option Addr} {n n' z : Nat} (o : ∀ k, S' k → S k ∨ z ≤ k) (u : MidT A n A' n' z) : ∀ k, OX S' lb A' n' k → OX S lb A n k ∨ z ≤ k := fun k h => by
  rcases h with h | h | ⟨h0, off, h⟩
  · exact (o k h).imp .inl id
  · exact .inl (.inr (.inl h))
  · exact (u k off h0 h).imp (fun h => .inr (.inr h)) id
theorem Stp.lg {lb : Nat} {X X' : JX} {A A' : Option Addr} {n n' : Nat} {w w' : World} (t : LGT lb X X' w w') (u : MidT A n A' n' w.heap.size) : Stp (OX X.S lb A n) (OX X'.S lb A' n') w w' :=
  ⟨t.keeps.mono (fun b _ h => h.elim .inl (fun h => .inr (.inl h))), ox_next t.o u⟩
theorem Stp.rl {lb : Nat} {X X' : QX} {A A' : Option Addr} {n n' : Nat} {w w' : World} (t : RLGT lb X X' w w') (u : MidT A n A' n' w.heap.size) : Stp (OX X.S lb A n) (OX X'.S lb A' n') w w' :=
  ⟨t.keeps.mono (fun b _ h => h.elim .inl (fun h => .inr (.inl h))), ox_next t.o u⟩
section
variable {W w w' : World} {B q lb jb : Nat} {X : JX} {s : FS} {j : JS} {st : St} {A : Option Addr} {n cap : Nat}
theorem LG.keeps {S : Nat → Prop} (h : LG W w B q lb jb X s j st A n cap) (k : Keeps S w w') (hS : ∀ b, OX X.S lb A n b → ¬ S b) (hW : ∀ b, b < W.heap.size → ¬ S b) : LG W w' B q lb jb X s j st A n cap :=
  ⟨h.lj.keepsG k (fun b h => hS b (.inl h)) hW, k.blk h.l (hS lb (.inr (.inl rfl))), h.lS, h.lB,
    ⟨h.m.b.keeps k (fun b off hn _ e => hS b (.inr (.inr ⟨hn, off, e⟩))), fun g off hn e => ⟨(h.m.p g off hn e).1, Nat.lt_of_lt_of_le (h.m.p g off hn e).2 k.size⟩⟩, h.inv⟩
theorem tl301 (P : Prop) (h : P := by
 rcases hk with hk | rfl | ⟨h0, off, e⟩
 ·exact ⟨h.lj.at_.low k hk, h.lj.at_.lt k hk⟩
 ·exact ⟨h.lB, h.l.lt⟩
 ·exact ⟨(h.m.p k off h0 e).1.1, (h.m.p k off h0 e).2⟩) : P := h
theorem LG.ox (h : LG W w B q lb jb X s j st A n cap) {k : Nat} (hk : OX X.S lb A n k) : B ≤ k ∧ k < w.heap.size := by
 exact tl301 _
end
section
variable {W w w' : World} {B q lb jb : Nat} {X : QX} {s : FS} {j : JS} {st : St} {A : Option Addr} {n cap : Nat}
theorem RLG.keeps {S : Nat → Prop} (h : RLG W w B q lb jb X s j st A n cap) (k : Keeps S w w') (hS : ∀ b, OX X.S lb A n b → ¬ S b) (hW : ∀ b, b < W.heap.size → ¬ S b) : RLG W w' B q lb jb X s j st A n cap :=
  ⟨h.lj.keepsG k (fun b h => hS b (.inl h)) hW, k.blk h.l (hS lb (.inr (.inl rfl))), h.lS, h.lB,
    ⟨h.m.b.keeps k (fun b off hn _ e => hS b (.inr (.inr ⟨hn, off, e⟩))), fun g off hn e => ⟨(h.m.p g off hn e).1, Nat.lt_of_lt_of_le (h.m.p g off hn e).2 k.size⟩⟩, h.inv⟩
theorem RLG.ox (h : RLG W w B q lb jb X s j st A n cap) {k : Nat} (hk : OX X.S lb A n k) : B ≤ k ∧ k < w.heap.size := by
 exact tl301 _
theorem RLG.flash {s' : FS} {L' : RL} (h : RLG W w B q lb jb X s j st A n cap) (t : RTurn w w' B X.L L' s') : RLG W w' B q lb jb { X with L := L' } s' j st A n cap ∧ RLGT lb X { X with L := L' } w w' :=
  ⟨h.turn (h.lj.at_.turn t), RLGT.jturn (h.lj.at_.turn t)⟩
end
theorem LG.flash {W w w' : World} {B q lb jb : Nat} {X : JX} {s s' : FS} {j : JS} {st : St} {A : Option Addr} {n cap : Nat} {L' : FL} (h : LG W w B q lb jb X s j st A n cap) (t : Turn w w' B X.L L' s') : LG W w' B q lb jb { X with L := L' } s' j st A n cap ∧ LGT lb X { X with L := L' } w w' :=
  ⟨h.turn (h.lj.at_.turn t), LGT.jturn (h.lj.at_.turn t)⟩
structure LL (W w : World) (B q lb jb : Nat) (X : JX) (A : Option Addr) (n cap : Nat) (s : FS) (j : JS) (st : St) (Br qr lr jr : Nat) (Y : QX) (A2 : Option Addr) (n2 cap2 : Nat) (r : FS) (j2 : JS) (st2 : St) : Prop where
  g : LG W w B q lb jb X s j st A n cap
  h : RLG W w Br qr lr jr Y r j2 st2 A2 n2 cap2
  dj : ∀ k, OX X.S lb A n k → ¬ OX Y.S lr A2 n2 k
section
variable {W w w' : World} {B q lb jb : Nat} {X : JX} {A : Option Addr} {n cap : Nat} {s : FS} {j : JS} {st : St} {Br qr lr jr : Nat} {Y : QX} {A2 : Option Addr} {n2 cap2 : Nat} {r : FS} {j2 : JS} {st2 : St}
theorem LL.later (H : LL W w B q lb jb X A n cap s j st Br qr lr jr Y A2 n2 cap2 r j2 st2) (k : Keeps None w w') : LL W w' B q lb jb X A n cap s j st Br qr lr jr Y A2 n2 cap2 r j2 st2 := ⟨H.g.later k, H.h.later k, H.dj⟩
theorem LL.stepG {X' : JX} {A' : Option Addr} {n' cap' : Nat} {s' : FS} {j' : JS} {st' : St} (H : LL W w B q lb jb X A n cap s j st Br qr lr jr Y A2 n2 cap2 r j2 st2)
    (g' : LG W w' B q lb jb X' s' j' st' A' n' cap') (t : Stp (OX X.S lb A n) (OX X'.S lb A' n') w w') : LL W w' B q lb jb X' A' n' cap' s' j' st' Br qr lr jr Y A2 n2 cap2 r j2 st2 :=
  ⟨g', H.h.keeps t.keeps (fun b hb hs => H.dj b hs hb) (fun b hb hs => by have := (H.g.ox hs).1; have := H.g.lj.le; omega), fun k hk hr => (t.o k hk).elim (fun h1 => H.dj k h1 hr) (fun h2 => by have := (H.h.ox hr).2; omega)⟩
theorem LL.stepH {Y' : QX} {A' : Option Addr} {n' cap' : Nat} {s' : FS} {j' : JS} {st' : St} (H : LL W w B q lb jb X A n cap s j st Br qr lr jr Y A2 n2 cap2 r j2 st2)
    (g' : RLG W w' Br qr lr jr Y' s' j' st' A' n' cap') (t : Stp (OX Y.S lr A2 n2) (OX Y'.S lr A' n') w w') : LL W w' B q lb jb X A n cap s j st Br qr lr jr Y' A' n' cap' s' j' st' :=
  ⟨H.g.keeps t.keeps (fun b hb hs => H.dj b hb hs) (fun b hb hs => by have := (H.h.ox hs).1; have := H.h.lj.le; omega), g', fun k hk hr => (t.o k hr).elim (fun h1 => H.dj k hk h1) (fun h2 => by have := (H.g.ox hk).2; omega)⟩
theorem open_stp {S S' O : Nat → Prop} {lb lb' : Nat} {A A' : Option Addr} {n n' : Nat} (hO : ∀ k, S' k → O k ∨ w.heap.size ≤ k) (hS : ∀ k, O k → S k) (hl : w.heap.size ≤ lb') (u : MidT none 0 A' n' w.heap.size) (k : Keeps None w w') :
    Stp (OX S lb A n) (OX S' lb' A' n') w w' :=
  ⟨k.mono (fun _ _ h => absurd h (fun h => h)), fun b hb => by
    rcases hb with hb | rfl | ⟨h0, off, e⟩
    · exact (hO b hb).imp (fun h => .inl (hS b h)) id
    · exact .inr hl
    · exact (u b off h0 e).elim (fun h => absurd h.1 (Nat.lt_irrefl 0)) .inr⟩
theorem LL.openG {X' : JX} {lb' jb' : Nat} {A' : Option Addr} {n' cap' : Nat} {s' : FS} {j' : JS} {st' : St} (H : LL W w B q lb jb X A n cap s j st Br qr lr jr Y A2 n2 cap2 r j2 st2)
    (g' : LG W w' B q lb' jb' X' s' j' st' A' n' cap') (t : Stp (OX X.S lb A n) (OX X'.S lb' A' n') w w') : LL W w' B q lb' jb' X' A' n' cap' s' j' st' Br qr lr jr Y A2 n2 cap2 r j2 st2 :=
  ⟨g', H.h.keeps t.keeps (fun b hb hs => H.dj b hs hb) (fun b hb hs => by have := (H.g.ox hs).1; have := H.g.lj.le; omega), fun k hk hr => (t.o k hk).elim (fun h1 => H.dj k h1 hr) (fun h2 => by have := (H.h.ox hr).2; omega)⟩
theorem LL.openH {Y' : QX} {lr' jr' : Nat} {A' : Option Addr} {n' cap' : Nat} {s' : FS} {j' : JS} {st' : St} (H : LL W w B q lb jb X A n cap s j st Br qr lr jr Y A2 n2 cap2 r j2 st2)
    (g' : RLG W w' Br qr lr' jr' Y' s' j' st' A' n' cap') (t : Stp (OX Y.S lr A2 n2) (OX Y'.S lr' A' n') w w') : LL W w' B q lb jb X A n cap s j st Br qr lr' jr' Y' A' n' cap' s' j' st' :=
  ⟨H.g.keeps t.keeps (fun b hb hs => H.dj b hb hs) (fun b hb hs => by have := (H.h.ox hs).1; have := H.h.lj.le; omega), g', fun k hk hr => (t.o k hr).elim (fun h1 => H.dj k hk h1) (fun h2 => by have := (H.g.ox hk).2; omega)⟩
theorem LL.first {w0 w1 w2 : World} {L : FL} {Lr : RL} {f f2 : FS} (FRh : LF W w0 B q L f ∧ RAt w0 Br Lr f2 ∧ ∀ k, L.O k → ¬ Lr.O k)
    (h1 : RLG W w1 Br qr lr jr Y r j2 st2 A2 n2 cap2) (o1 : ∀ k, Y.S k → Lr.O k ∨ w0.heap.size ≤ k) (l1 : w0.heap.size ≤ lr) (u1 : MidT none 0 A2 n2 w0.heap.size) (k1 : Keeps None w0 w1)
    (g2 : LG W w2 B q lb jb X s j st A n cap) (o2 : ∀ k, X.S k → L.O k ∨ w1.heap.size ≤ k) (l2 : w1.heap.size ≤ lb) (u2 : MidT none 0 A n w1.heap.size) (k2 : Keeps None w1 w2) : LL W w2 B q lb jb X A n cap s j st Br qr lr jr Y A2 n2 cap2 r j2 st2 :=
  ⟨g2, h1.later k2, fun k hk hr => by
    have a1 : k < w1.heap.size := (h1.ox hr).2
    have a2 : Lr.O k ∨ w0.heap.size ≤ k := by
      rcases hr with hr | rfl | ⟨h0, off, e⟩
      · exact o1 k hr
      · exact .inr l1
      · exact (u1 k off h0 e).elim (fun h => absurd h.1 (Nat.lt_irrefl 0)) .inr
    have a3 : L.O k := by
      rcases hk with hk | rfl | ⟨h0, off, e⟩
      · exact (o2 k hk).elim id (fun h => by omega)
      · omega
      · exact (u2 k off h0 e).elim (fun h => absurd h.1 (Nat.lt_irrefl 0)) (fun h => by omega)
    have a4 := FRh.1.at_.lt k a3
    exact a2.elim (FRh.2.2 k a3) (fun h => by omega)⟩
end
theorem sim_boot_eq {s r : FS} (h : Sim s r) : r.bootF = s.bootF := by
 obtain ⟨l, rfl, -⟩ := h
 rfl
theorem Sim.jrm {s r : FS} (h : Sim s r) {m : Nat} (rm : JRm s m) : JRm r m := ⟨by rw [h.steps]; exact rm.st, by rw [h.er]; exact rm.er⟩
theorem LP.pre {s r : FS} {j : JS} {st : St} {k m : Nat} (h : LP s j st k (m + 2)) (sm : Sim s r) (kind : Int) {body : List Int} (hb : Byt body) :
    (JOk (appF s j kind body).2.1 ∧ 2 ≤ (appF s j kind body).1.er.length ∧ JRm s (1625 * m + 3250)) ∧ JOk (appF r j kind body).2.1 ∧ 2 ≤ (appF r j kind body).1.er.length ∧ JRm r (1625 * m + 3250) := by
 have r1 : JRm s (1625 * m + 3250) := h.rm.less (by omega)
 obtain ⟨a1, a2⟩ := h.appOk kind hb
 obtain ⟨b1, b2⟩ := sm.app (m := 1625 * m + 1625) r1 j kind body
 exact ⟨⟨a1, a2, r1⟩, by rw [b2]; exact a1, by rw [b1.er]; exact a2, sm.jrm r1⟩
theorem RAt.told (B : Nat) (L : RL) (r : FS) {q N : Nat} {zs : List Int} (hq : L.bf = q) (hb : r.b = zs) (hN : zs.length = N) : ∃ gb capb, ∀ w', RAt w' B L r → w'.cell? ⟨q, 0, none⟩ = some (.slice (some ⟨gb, 0, none⟩) N capb) ∧ Bs w' (some ⟨gb, 0, none⟩) N capb zs :=
  ⟨L.gb, L.capb, fun w' h => by
    have hl := h.bl
    rw [hb] at hl
    have e : L.N = N := hl.symm.trans hN
    have c0 := h.f.cellD 0 _ rfl
    have bs := h.bs
    rw [e] at c0 bs
    rw [hb] at bs
    rw [← hq]
    exact ⟨c0, bs⟩⟩
structure PL (W w : World) (B q Br qr sb lb jb : Nat) (X : JX) (A : Option Addr) (n cap lr jr : Nat) (Y : QX) (A2 : Option Addr) (n2 cap2 : Nat) (s r : FS) (j : JS) (st : St) (k m : Nat) : Prop where
  l : LL W w B q lb jb X A n cap s j st Br qr lr jr Y A2 n2 cap2 r j st
  sd : Side w sb [.pointer (some ⟨qr, 0, none⟩), .int .i64 0, .int .i64 2] 29 (OX X.S lb A n) (OX Y.S lr A2 n2)
  sm : Sim s r
  lp : LP s j st k m
theorem PL.later {W w w' : World} {B q Br qr sb lb jb : Nat} {X : JX} {A : Option Addr} {n cap lr jr : Nat} {Y : QX} {A2 : Option Addr} {n2 cap2 : Nat} {s r : FS} {j : JS} {st : St} {k m : Nat} (h : PL W w B q Br qr sb lb jb X A n cap lr jr Y A2 n2 cap2 s r j st k m) (hk : Keeps None w w') : PL W w' B q Br qr sb lb jb X A n cap lr jr Y A2 n2 cap2 s r j st k m :=
  ⟨h.l.later hk, h.sd.later hk, h.sm, h.lp⟩
theorem PL.side {W w : World} {B q Br qr sb lb jb : Nat} {X : JX} {A : Option Addr} {n cap lr jr : Nat} {Y : QX} {A2 : Option Addr} {n2 cap2 : Nat} {s r : FS} {j : JS} {st : St} {k m : Nat} (h : PL W w B q Br qr sb lb jb X A n cap lr jr Y A2 n2 cap2 s r j st k m) {w' : World} {b : Nat} {cs : List Value} {T : TypeId} (hb : Blk w' b cs T) (hw : w.heap.size ≤ b) : Side w' b cs T (OX X.S lb A n) (OX Y.S lr A2 n2) :=
  ⟨hb, fun h2 => by have := (h.l.g.ox h2).2; omega, fun h2 => by have := (h.l.h.ox h2).2; omega⟩
theorem Chk.cs_midset {c : Chk} (o : c.ok) (A A' : Option Addr) (n cap n' cap' : Nat) : (c.cs A n cap).set 12 (.slice A' n' cap') = c.cs A' n' cap' := by
 unfold Chk.cs
 show _ :: _ :: _ :: _ :: (List.map (Value.int .u8) c.id ++ [Value.slice A n cap]).set 8 _ = _
 rw [List.set_append_right _ _ (by rw [List.length_map, o.il]; exact Nat.le_refl _), List.length_map, o.il]
 rfl
open Go.RowKit
theorem part_u8 (zs : List Int) (i : Nat) (hi : i < zs.length) (w : World) : (part 5 (zs.map (Value.int .u8)).toArray i).run Tryz.prog w = .ok (.int .u8 (zs.getD i 0)) w := by
 have ha : ∀ w, (isAgg 5).run Tryz.prog w = .ok false w := fun w => by simp [isAgg, run_underlying Tryz.underlying5]
 have h := map_getD (f := Value.int .u8) 0 hi
 unfold part
 rw [Sem.run_bind, ha]
 simp only [Result.andThen_ok, Bool.false_eq_true, if_false, List.getElem?_toArray, h, Sem.run_pure]
theorem items_u8 (d : Nat) (zs ys : List Int) (n : Nat) (h1 : zs.length = n) (h2 : ys.length = n) (w : World) : ∀ (l : List Nat), (∀ i ∈ l, i < n) →
    (Op.eqItems (d + 1) 5 1 (zs.map (Value.int .u8)).toArray (ys.map (Value.int .u8)).toArray l).run Tryz.prog w = .ok (l.all fun i => zs.getD i 0 == ys.getD i 0) w
  | [], _ => rfl
  | i :: l, h => by
    have hi := h i List.mem_cons_self
    unfold Op.eqItems
    rw [Nat.mul_one, Sem.run_bind, part_u8 zs i (by omega), Result.andThen_ok, Sem.run_bind, part_u8 ys i (by omega), Result.andThen_ok, Sem.run_bind, run_equalIn_int w d 5 .u8 .u8 _ _ Tryz.underlying5, Result.andThen_ok]
    rw [List.all_cons]
    cases hq : (zs.getD i 0 == ys.getD i 0)
    · rfl
    · simp only [Bool.not_true, Bool.false_eq_true, if_false, Bool.true_and]
      exact items_u8 d zs ys n h1 h2 w l (fun j hj => h j (List.mem_cons_of_mem _ hj))
theorem info_u8 : ∃ i, (Tryz.prog).info? 5 = some i := by
 obtain ⟨i, hi, _, _⟩ := info_parts Tryz.info5
 exact ⟨i, hi⟩
theorem eq_u8s {t : TypeId} (d : Nat) (zs ys : List Int) (n : Nat) (hu : (Tryz.prog).underlying t = some (.array n 5)) (h1 : zs.length = n) (h2 : ys.length = n) (w : World) :
    (Op.equalIn (d + 2) t (.agg (zs.map (Value.int .u8)).toArray) (.agg (ys.map (Value.int .u8)).toArray)).run Tryz.prog w = .ok ((List.range n).all fun i => zs.getD i 0 == ys.getD i 0) w := by
 obtain ⟨i, hi⟩ := info_u8
 rw [run_equalIn_array w (d + 1) _ _ hu hi, show (Tryz.prog).cellsOf 5 = 1 by kernel_rfl]
 exact items_u8 d zs ys n h1 h2 w _ (fun j hj => List.mem_range.1 hj)
def eqComB (c e : Com) : Bool := (c.slot == e.slot) && ((c.ver : Int) == (e.ver : Int)) && ((c.fl : Int) == (e.fl : Int)) && (c.len == e.len) && ((List.range 64).all fun i => c.me.getD i 0 == e.me.getD i 0)
theorem eqComB_refl (c : Com) : eqComB c c = true := by simp [eqComB]
set_option maxRecDepth 100000 in
theorem eq_com (d : Nat) (c e : Com) (hc : c.ok) (he : e.ok) (w : World) : (Op.equalIn (d + 3) 41 (.agg c.cs.toArray) (.agg e.cs.toArray)).run Tryz.prog w = .ok (eqComB c e) w := by
 have i1 : ∀ w, (isAgg 3).run Tryz.prog w = .ok false w := fun w => by simp [isAgg, run_underlying Tryz.underlying3]
 have i2 : ∀ w, (isAgg 38).run Tryz.prog w = .ok false w := fun w => by simp [isAgg, run_underlying Tryz.underlying38]
 have i3 : ∀ w, (isAgg 39).run Tryz.prog w = .ok true w := fun w => by simp [isAgg, run_underlying Tryz.underlying39]
 have hs : (Tryz.prog.info? 39).map (·.size) = some 64 := a64_size
 have hz : ∀ w, (sizeOf 39).run Tryz.prog w = .ok 64 w := fun w => by
  cases hq : (Tryz.prog.info? 39) with
  | none => simp [hq] at hs
  | some i => simp [hq] at hs; simp [sizeOf, typeInfo, hq, hs]
 have ea : ∀ c : Com, c.ok → ∀ w, (part 39 c.cs.toArray 4).run Tryz.prog w = .ok (.agg (c.me.map (Value.int .u8)).toArray) w := fun c hc w => by
  have e : (c.cs.drop 4).take 64 = c.me.map (Value.int .u8) := List.take_of_length_le (by show (c.me.map _).length ≤ 64; rw [List.length_map, hc.ml]; exact Nat.le_refl _)
  unfold part
  rw [Sem.run_bind, i3, Result.andThen_ok]
  simp only [if_true, Sem.run_bind, hz, Result.andThen_ok, Sem.run_pure, List.extract_toArray]
  congr 3
 have e0 : ∀ c : Com, ∀ w, (part 3 c.cs.toArray 0).run Tryz.prog w = .ok (.int .i64 c.slot) w := fun c w => by unfold part; rw [Sem.run_bind, i1, Result.andThen_ok]; rfl
 have e1 : ∀ c : Com, ∀ w, (part 38 c.cs.toArray 1).run Tryz.prog w = .ok (.int .u64 (c.ver : Int)) w := fun c w => by unfold part; rw [Sem.run_bind, i2, Result.andThen_ok]; rfl
 have e2 : ∀ c : Com, ∀ w, (part 38 c.cs.toArray 2).run Tryz.prog w = .ok (.int .u64 (c.fl : Int)) w := fun c w => by unfold part; rw [Sem.run_bind, i2, Result.andThen_ok]; rfl
 have e3 : ∀ c : Com, ∀ w, (part 3 c.cs.toArray 3).run Tryz.prog w = .ok (.int .i64 c.len) w := fun c w => by unfold part; rw [Sem.run_bind, i1, Result.andThen_ok]; rfl
 have fo : ((Tryz.prog).fieldsOf 41).toList.map (fun f => (f.name, f.type, f.offset)) = [("Slot", 3, 0), ("Version", 38, 1), ("Floor", 38, 2), ("Length", 3, 3), ("Measure", 39, 4)] := by kernel_rfl
 have key : ∀ fs : List Field, fs.map (fun f => (f.name, f.type, f.offset)) = [("Slot", 3, 0), ("Version", 38, 1), ("Floor", 38, 2), ("Length", 3, 3), ("Measure", 39, 4)] → (Op.eqFields (d + 2) c.cs.toArray e.cs.toArray fs).run Tryz.prog w = .ok (eqComB c e) w := by
  intro fs hf
  have hlen : fs.length = 5 := by have := congrArg List.length hf; simpa using this
  obtain ⟨f0, f1, f2, f3, f4, rfl⟩ : ∃ f0 f1 f2 f3 f4, fs = [f0, f1, f2, f3, f4] := by
   match fs, hlen with
   | [a, b, c, d, e], _ => exact ⟨a, b, c, d, e, rfl⟩
  simp only [List.map_cons, List.map_nil, List.cons.injEq, Prod.mk.injEq, and_true] at hf
  obtain ⟨⟨n0, t0, o0⟩, ⟨n1, t1, o1⟩, ⟨n2, t2, o2⟩, ⟨n3, t3, o3⟩, n4, t4, o4⟩ := hf
  simp only [Op.eqFields, n0, n1, n2, n3, n4, t0, t1, t2, t3, t4, o0, o1, o2, o3, o4]
  rw [if_pos (by decide), if_pos (by decide), if_pos (by decide), if_pos (by decide), if_pos (by decide)]
  unfold eqComB
  rw [Sem.run_bind, e0, Result.andThen_ok, Sem.run_bind, e0, Result.andThen_ok, Sem.run_bind, run_equalIn_int w (d + 1) 3 .i64 .i64 _ _ Tryz.underlying3, Result.andThen_ok]
  cases (c.slot == e.slot)
  ·rfl
  rw [if_neg (by decide), Sem.run_bind, e1, Result.andThen_ok, Sem.run_bind, e1, Result.andThen_ok, Sem.run_bind, run_equalIn_int w (d + 1) 38 .u64 .u64 _ _ Tryz.underlying38, Result.andThen_ok]
  cases ((c.ver : Int) == (e.ver : Int))
  ·rfl
  rw [if_neg (by decide), Sem.run_bind, e2, Result.andThen_ok, Sem.run_bind, e2, Result.andThen_ok, Sem.run_bind, run_equalIn_int w (d + 1) 38 .u64 .u64 _ _ Tryz.underlying38, Result.andThen_ok]
  cases ((c.fl : Int) == (e.fl : Int))
  ·rfl
  rw [if_neg (by decide), Sem.run_bind, e3, Result.andThen_ok, Sem.run_bind, e3, Result.andThen_ok, Sem.run_bind, run_equalIn_int w (d + 1) 3 .i64 .i64 _ _ Tryz.underlying3, Result.andThen_ok]
  cases (c.len == e.len)
  ·rfl
  rw [if_neg (by decide), Sem.run_bind, ea c hc, Result.andThen_ok, Sem.run_bind, ea e he, Result.andThen_ok, Sem.run_bind, eq_u8s d _ _ 64 Tryz.underlying39 hc.ml he.ml, Result.andThen_ok]
  cases ((List.range 64).all fun i => c.me.getD i 0 == e.me.getD i 0) <;> rfl
 rw [run_equalIn_struct w (d + 2) 41 _ _ (by kernel_rfl) (by kernel_rfl)]
 exact key _ fo
section
variable {ops : Array Oper} {rest : List Oper} {op : Oper} {a : Act} {w : World} {Q : Exit → Act → World → Prop}
theorem wpList_bin_g {bo : BinOp} {t t2 : TypeId} {x y : Operand} {vx vy u : Value} (hr : (do eqGuard bo t x y vx vy; binOp bo t vx vy : Sem Value).run Tryz.prog w = .ok u w) (hw : Region.wanted op (yielded ops a.tmps) = true) (ho : op.op = .binOp bo t x y t2) (hx : a.eval x = vx) (hy : a.eval y = vy)
    (hn : wpList Tryz.prog ops Q rest (a.put op.dst u) w) : wpList Tryz.prog ops Q (op :: rest) a w := by
 refine wpList_step fun K hK => ?_
 rw [if_pos hw]
 unfold Oper.wp execOp
 simp only [ho, hx, hy, Sem.run_bind, Sem.run_pure] at hr ⊢
 rw [hr]
 exact hK _ _ hn
end
theorem run_eq_com (c e : Com) (hc : c.ok) (he : e.ok) (x y : Operand) (w : World) : (do eqGuard .eql 41 x y (.agg c.cs.toArray) (.agg e.cs.toArray); binOp .eql 41 (.agg c.cs.toArray) (.agg e.cs.toArray) : Sem Value).run Tryz.prog w = .ok (.bool (eqComB c e)) w := by
 rw [Sem.run_bind, run_eqGuard_agg w .eql 41 x y _ _ (by kernel_rfl), Result.andThen_ok, run_eql_struct, eq_com 9997 c e hc he]
 rfl
theorem run_eq_id (zs ys : List Int) (h1 : zs.length = 8) (h2 : ys.length = 8) (x y : Operand) (w : World) : (do eqGuard .eql 42 x y (.agg (zs.map (Value.int .u8)).toArray) (.agg (ys.map (Value.int .u8)).toArray); binOp .eql 42 (.agg (zs.map (Value.int .u8)).toArray) (.agg (ys.map (Value.int .u8)).toArray) : Sem Value).run Tryz.prog w = .ok (.bool ((List.range 8).all fun i => zs.getD i 0 == ys.getD i 0)) w := by
 rw [Sem.run_bind, run_eqGuard_agg w .eql 42 x y _ _ (by kernel_rfl), Result.andThen_ok, run_eql_struct, eq_u8s 9998 zs ys 8 Tryz.underlying42 h1 h2]
 rfl
theorem St.cs_k {s : St} (o : s.ok) (A : Option Addr) (n cap : Nat) (i : Nat) (hi : i < 8) : (s.cs A n cap)[73 + i]? = some (.int .u8 (s.k.id.getD i 0)) := by
 have h := St.cs_chk o A n cap (4 + i) _ (Chk.cs_id o.k A n cap i hi)
 rw [← Nat.add_assoc] at h
 exact h
open Go.RowKit
section
variable {ops : Array Oper} {rest : List Oper} {op : Oper} {a : Act} {w : World} {Q : Exit → Act → World → Prop}
theorem wpList_want (hw : Region.wanted op (yielded ops a.tmps) = true) (h : ∀ K : Act → World → Prop, (∀ a w, wpList Tryz.prog ops Q rest a w → K a w) → op.wp Tryz.prog a w K Q) : wpList Tryz.prog ops Q (op :: rest) a w := by
 refine wpList_step fun K hK => ?_
 rw [if_pos hw]
 exact h K hK
end
set_option maxRecDepth 100000 in
set_option maxHeartbeats 25600000 in
theorem rgsame_refl (s t : St) (est : s = t) (os : s.ok) (ot : t.ok) (A A' : Option Addr) (n cap n' cap' : Nat) (w : World) (hs : Bs w A n cap s.k.mid) (ht : Bs w A' n' cap' t.k.mid) :
    Calls Tryz.prog 21 #[.agg (s.cs A n cap).toArray, .agg (t.cs A' n' cap').toArray] w fun e w' => e = .returned (.bool true) ∧ Keeps None w w' := by
 have OS := Lib.hid os
 have OT := Lib.hid ot
 obtain ⟨w2, hw2⟩ : ∃ x, (w.alloc (.cells (s.cs A n cap).toArray 58)).alloc (.cells (t.cs A' n' cap').toArray 58) = x := ⟨_, rfl⟩
 have SB : Hid (Blk w2 w.heap.size (s.cs A n cap) 58) := by rw [← hw2]; exact (Blk.new w (s.cs A n cap) 58).alloc _
 have TB : Hid (Blk w2 (w.heap.size + 1) (t.cs A' n' cap') 58) := by
  rw [← hw2]
  have h := Blk.new (w.alloc (.cells (s.cs A n cap).toArray 58)) (t.cs A' n' cap') 58
  rw [show (w.alloc (.cells (s.cs A n cap).toArray 58)).heap.size = w.heap.size + 1 by simp] at h
  exact h
 have KB : Hid (Keeps None w w2) := by rw [← hw2]; exact ((Keeps.refl None w).alloc _).alloc _
 have EC := Lib.hid (fun x y w => run_eq_com s.c t.c os.c ot.c x y w)
 have EI := Lib.hid (fun x y w => run_eq_id s.k.id t.k.id os.k.il ot.k.il x y w)
 have IS : Hid (∀ j v, (s.k.id.map (Value.int .u8))[j]? = some v → (s.cs A n cap)[73 + j]? = some v) := fun j v hv => by
  have hj : j < 8 := by have := (List.getElem?_eq_some_iff.1 hv).1; rw [List.length_map, os.k.il] at this; exact this
  rw [St.cs_k os A n cap j hj, ← hv, map_getD 0 (by rw [os.k.il]; exact hj)]
 have IT : Hid (∀ j v, (t.k.id.map (Value.int .u8))[j]? = some v → (t.cs A' n' cap')[73 + j]? = some v) := fun j v hv => by
  have hj : j < 8 := by have := (List.getElem?_eq_some_iff.1 hv).1; rw [List.length_map, ot.k.il] at this; exact this
  rw [St.cs_k ot A' n' cap' j hj, ← hv, map_getD 0 (by rw [ot.k.il]; exact hj)]
 have S68 := Lib.hid (SB.out.cellD 68 _ (St.cs_has os A n cap))
 have T68 := Lib.hid (TB.out.cellD 68 _ (St.cs_has ot A' n' cap'))
 have S69 := Lib.hid (SB.out.cellD 69 _ (St.cs_chk os A n cap 0 _ rfl))
 have T69 := Lib.hid (TB.out.cellD 69 _ (St.cs_chk ot A' n' cap' 0 _ rfl))
 have S70 := Lib.hid (SB.out.cellD 70 _ (St.cs_chk os A n cap 1 _ rfl))
 have T70 := Lib.hid (TB.out.cellD 70 _ (St.cs_chk ot A' n' cap' 1 _ rfl))
 have S71 := Lib.hid (SB.out.cellD 71 _ (St.cs_chk os A n cap 2 _ rfl))
 have T71 := Lib.hid (TB.out.cellD 71 _ (St.cs_chk ot A' n' cap' 2 _ rfl))
 have S72 := Lib.hid (SB.out.cellD 72 _ (St.cs_chk os A n cap 3 _ rfl))
 have T72 := Lib.hid (TB.out.cellD 72 _ (St.cs_chk ot A' n' cap' 3 _ rfl))
 have S81 := Lib.hid (SB.out.cellD 81 _ (St.cs_mid os A n cap))
 have T81 := Lib.hid (TB.out.cellD 81 _ (St.cs_mid ot A' n' cap'))
 have C1 : (convert 37 9 (.slice A n cap)).run Tryz.prog w2 = .ok (.string (strOf s.k.mid)) w2 := run_str (hs.keeps KB.out (fun _ _ _ _ _ h => h))
 have C2 : (convert 37 9 (.slice A' n' cap')).run Tryz.prog w2 = .ok (.string (strOf t.k.mid)) w2 := run_str (ht.keeps KB.out (fun _ _ _ _ _ h => h))
 have EQ := strOf_beq hs.byte ht.byte
 obtain ⟨ss, hss⟩ : ∃ x, strOf s.k.mid = x := ⟨_, rfl⟩
 obtain ⟨st, hst⟩ : ∃ x, strOf t.k.mid = x := ⟨_, rfl⟩
 rw [hss] at C1 EQ
 rw [hst] at C2 EQ
 have h0 : eqComB s.c t.c = true := by rw [est]; exact eqComB_refl _
 have h6 : ((List.range 8).all fun i => s.k.id.getD i 0 == t.k.id.getD i 0) = true := by rw [est]; simp
 have h7 : decide (s.k.mid = t.k.mid) = true := by rw [est]; simp
 rw [h0] at EC
 rw [h6] at EI
 rw [h7] at EQ
 have q0 : (s.has == t.has) = true := by rw [est]; simp
 have q1 : (s.k.slot == t.k.slot) = true := by rw [est]; simp
 have q2 : (s.k.block == t.k.block) = true := by rw [est]; simp
 have q3 : (s.k.off == t.k.off) = true := by rw [est]; simp
 have q4 : (s.k.dn == t.k.dn) = true := by rw [est]; simp
 obtain ⟨V1, hV1⟩ : ∃ V, (s.cs A n cap).toArray = V := ⟨_, rfl⟩
 obtain ⟨V2, hV2⟩ : ∃ V, (t.cs A' n' cap').toArray = V := ⟨_, rfl⟩
 rw [hV1, hV2] at hw2 ⊢
 clear hV1 hV2 h0 h6 h7 os ot hs ht est
 go_enter Tryz.func21, Tryz.ntmps21
 iterate 16 (first | go_values | go_skip | go_guarded | go_step | go_upon | go_back)
 refine wp_region_lit ?_
 simp only [List.append_eq, List.cons_append, List.nil_append]
 have s68 := S68.out
 have t68 := T68.out
 have s69 := S69.out
 have t69 := T69.out
 have s70 := S70.out
 have t70 := T70.out
 have s71 := S71.out
 have t71 := T71.out
 have s72 := S72.out
 have t72 := T72.out
 have s81 := S81.out
 have t81 := T81.out
 go_wp2_with (first | (show wpList _ _ _ ({ dst := some 6, op := _, type := _, pos := _, after := _, guard := _ } :: _) _ _; refine wpList_load_blk (b := w.heap.size) (o := 0) (ds := s.c.cs) SB.out (fun j v hv => by rw [Nat.zero_add]; exact St.cs_com OS.out A n cap j v hv) rfl rfl rfl Tryz.underlying41 rfl (by rw [Com.cs_len OS.out.c]; exact com_size) ?_) | (show wpList _ _ _ ({ dst := some 8, op := _, type := _, pos := _, after := _, guard := _ } :: _) _ _; refine wpList_load_blk (b := w.heap.size + 1) (o := 0) (ds := t.c.cs) TB.out (fun j v hv => by rw [Nat.zero_add]; exact St.cs_com OT.out A' n' cap' j v hv) rfl rfl rfl Tryz.underlying41 rfl (by rw [Com.cs_len OT.out.c]; exact com_size) ?_) | (show wpList _ _ _ ({ dst := some 9, op := _, type := _, pos := _, after := _, guard := _ } :: _) _ _; refine wpList_bin_g (EC.out _ _ _) rfl rfl rfl rfl ?_) | (show wpList _ _ _ ({ dst := some 56, op := _, type := _, pos := _, after := _, guard := _ } :: _) _ _; refine wpList_load_blk_g (b := w.heap.size) (o := 73) (ds := s.k.id.map (.int .u8)) SB.out IS.out rfl rfl rfl Tryz.underlying42 rfl (by rw [List.length_map, OS.out.k.il]; exact a8_size) ?_) | (show wpList _ _ _ ({ dst := some 59, op := _, type := _, pos := _, after := _, guard := _ } :: _) _ _; refine wpList_load_blk_g (b := w.heap.size + 1) (o := 73) (ds := t.k.id.map (.int .u8)) TB.out IT.out rfl rfl rfl Tryz.underlying42 rfl (by rw [List.length_map, OT.out.k.il]; exact a8_size) ?_) | (show wpList _ _ _ ({ dst := some 60, op := _, type := _, pos := _, after := _, guard := _ } :: _) _ _; refine wpList_bin_g (EI.out _ _ _) rfl rfl rfl rfl ?_) | (show wpList _ _ _ ({ dst := _, op := _, type := _, pos := _, after := _, guard := some _ } :: _) _ _; refine wpList_want (by kernel_rfl) ?_; intro K hK))
 go_ret
 exact ⟨rfl, KB.out⟩
open Go.RowKit
section
variable {ops : Array Oper} {rest : List Oper} {op : Oper} {a : Act} {w : World} {Q : Exit → Act → World → Prop}
end
end Go.Proofs.YtobgbilanibodaaGreat
