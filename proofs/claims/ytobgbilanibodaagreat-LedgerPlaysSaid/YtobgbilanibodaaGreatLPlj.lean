
/- Texts put together: Qj5, LgRef, LgRefPut, LgRefGet. -/
import Derived.Test.YtobgbilanibodaaGreatLPli
import Derived.Test.YtobgbilanibodaaGreatLPlb
import Derived.Test.YtobgbilanibodaaGreatLPlf
import Derived.Test.YtobgbilanibodaaGreatLPld
import Derived.Lib.AppendZerosOnto
namespace Go.Proofs.YtobgbilanibodaaGreat
open Go.RowKit
theorem gread_all {s : FS} (hd : s.dark = false) (hn : 2048 ≤ s.b.length) : s.gread 0 2 0 2048 = (s.b.take 2048, 0) := by
 have h1 : withinB 0 2048 (1024 * 2 : Nat) = true := decide_eq_true (by omega)
 have h2 : withinB 0 2048 s.b.length = true := decide_eq_true (by omega)
 unfold FS.gread FS.readF
 rw [if_neg (by rw [hd]; decide), if_pos h1, if_neg (by rw [hd]; decide)]
 have e : (1024 * ((0 : Nat) : Int) + 0) = 0 := by omega
 rw [e, if_pos h2]
 simp
theorem sec_all {s : FS} {k : Nat} (hk : k < 2) : ((s.b.take 2048).drop (1024 * k)).take 1024 = sec s k := by
 unfold sec
 rw [List.drop_take, List.take_take]
 congr 1
 omega
theorem tl239 (P : Prop) (h : P := by
 rcases h with h1 | h1 | h1 | ⟨r, hr, -⟩
 ·have h2 := HF.out.lt ga h1; have h3 := GW.out; omega
 ·exact GA.out h1
 ·cases h1
 ·cases hr) : P := h
theorem tl242 (P : Prop) (h : P := by
 have K9 : Hid (Keeps None w _) := KZ.out.trans FIN.out.k (T := None) (fun _ h => h) (fun k hk hS => by
  obtain ⟨hS, hO⟩ := hS
  rcases hS with h1 | h1 | h1 | ⟨r, hr, -⟩
  ·exact absurd h1 hO
  ·have h1 : k = jb1 := h1
   have := JBG.out; omega
  ·cases h1
  ·cases hr)
 go_wp2
 go_ret2
 exact ⟨⟨L1, jb1, lv1, rs1⟩, rfl, by rw [OPN.out]; exact FIN.out.at_, FIN.out.l, K9.out, SUBZ.out _ FIN.out.o⟩) : P := h
theorem tl241 (P : Prop) (h : P := by
 obtain ⟨bb, HBB⟩ : ∃ x, Hid (blankB (zs.drop (1024)) = x) := ⟨_, rfl⟩
 rw [HBB.out] at BK
 go_wp2_with fail
 refine (BK.out _ (SL2.out.alloc _)).mono ?_
 rintro e w' ⟨rfl, rfl⟩
 have P6 := Lib.hid (J3.out.at_.put (j' := { j with l := j.l ++ pre, used := (1024), torn := !bb }) 6 (.bool (!bb)) rfl rfl)
 try dsimp only at P6
 have hu : (parseF 64 zs 16).2 = (1024) := PAR2.out.symm.trans (by rw [PE.out])
 have FIN := Lib.hid (J3.out.trans P6.out)
 try dsimp only at FIN
 have OPN : Hid (openS s = { j with l := j.l ++ pre, used := (1024), torn := !bb }) := by
  show openS s = _
  rw [OS.out, hu, ← PAR1.out, PE.out, List.append_nil, ← HJJ.out, HBB.out]; rfl
 exact tl242 _) : P := h
theorem tl240 (P : Prop) (h : P := by
 have y7 := J3.out.at_.c.cellD 7 _ rfl
 have y6 := J3.out.at_.c.cellD 6 _ rfl
 have f6 := J3.out.at_.c.frozen 6
 try dsimp only at y6 y7
 have SL2 := Lib.hid (SLK.out _ (K2.out.mono (fun _ _ h => h.elim)))
 have BK := Lib.hid (fun w' h' => risBlank_any (some ⟨ga, 0, none⟩) (0) (0) (zs.drop (1024)) w' h')
 exact tl241 _) : P := h
set_option maxRecDepth 100000 in
theorem tl243 (P : Prop) (h : P := by
 obtain ⟨rfl, hk1⟩ := hpush
 have hs : getL (zs.drop (u)) = some (k, s', bl2, m) := by
  rcases hg with ⟨-, h2⟩ | ⟨h1, -⟩
  ·exact h2
  ·cases h1
 clear hg
 obtain ⟨hfit, -, hm16, hml, -, -⟩ := get_full hs
 rw [List.length_drop, HL.out] at hml
 obtain ⟨mm, rfl⟩ : ∃ mm : Nat, m = mm := ⟨m.toNat, by omega⟩
 have PS : Hid (parseF (G + 1) zs (u) = (⟨k, s', bl2⟩ :: (parseF G zs ((u) + mm)).1, (parseF G zs ((u) + mm)).2)) := by
  show _ = _
  conv => lhs; unfold parseF
  rw [hs]; simp only [if_neg hk1, Int.toNat_natCast]
 have e1 : (k == 1) = false := by simpa using hk1
 have e1n : (k != 1) = true := by simpa using hk1
 have hrl : rs1.length ≤ 1100 := by
  have e := congrArg List.length T1.out.at_.recs
  rw [List.length_map] at e
  simp only [List.length_append] at e
  omega
 clear hs hk1 hfit
 go_wp2
 obtain ⟨w3, hw3⟩ : ∃ x, w2.alloc (.cells #[.int .i64 k, .int .i64 s', .slice A2 n2 c2] 95) = x := ⟨_, rfl⟩
 obtain ⟨nb, hnb⟩ : ∃ x, w2.heap.size = x := ⟨_, rfl⟩
 have K3 : Hid (Keeps None wv w3) := by show Keeps _ _ _; rw [← hw3]; exact K2.out.alloc _
 have N3 : Hid (Blk w3 nb [.int .i64 k, .int .i64 s', .slice A2 n2 c2] 95) := by show Blk _ _ _ _; rw [← hw3, ← hnb]; exact Blk.new _ [_, _, _] _
 have B3 : Hid (Bs w3 A2 n2 c2 bl2) := by show Bs _ _ _ _ _; rw [← hw3]; exact B2.out.alloc _
 have W23 : Hid (w2.heap.size ≤ w3.heap.size) := by show _ ≤ _; rw [← hw3]; simp
 have NBL : Hid (wv.heap.size ≤ nb) := by show _ ≤ _; rw [← hnb]; exact K2.out.size
 rw [hw3, hnb]
 clear hw3 hnb
 have J3 := Lib.hid (T1.out.at_.later K3.out)
 obtain ⟨A5, c5, hlv, r5, -⟩ := J3.out.l.shape
 dsimp only at hlv r5
 have l5 := r5.le
 have m5 := r5.max
 obtain ⟨rl, HRL⟩ : ∃ x, Hid (rs1.length = x) := ⟨_, rfl⟩
 rw [HRL.out] at hlv l5 hrl
 have HLV := Lib.hid hlv
 clear hlv r5
 have y3 := J3.out.c.cellD 3 _ rfl
 have z7 := J3.out.c.cellD 7 _ rfl
 try dsimp only at y3 z7
 rw [HLV.out] at y3
 have hjn : Hid (jb1 < wv.heap.size) := T1.out.at_.c.lt
 obtain ⟨mmS, mmh⟩ : ∃ S : World → Prop, ∀ w', S w' ↔ (w'.cell? ⟨jb1, 3, none⟩ = some (.slice A5 rl c5) ∧ w'.cell? ⟨nb, 0, none⟩ = some (.int .i64 k) ∧ w'.cell? ⟨nb, 1, none⟩ = some (.int .i64 s') ∧ w'.cell? ⟨nb, 2, none⟩ = some (.slice A2 n2 c2)) := ⟨_, fun _ => Iff.rfl⟩
 have mmk0 : ∀ x : Memb mmS, x.at_.cell? ⟨jb1, 3, none⟩ = some (.slice A5 rl c5) := fun x => ((mmh _).1 x.is).1
 have mmk1 : ∀ x : Memb mmS, x.at_.cell? ⟨nb, 0, none⟩ = some (.int .i64 k) := fun x => ((mmh _).1 x.is).2.1
 have mmk2 : ∀ x : Memb mmS, x.at_.cell? ⟨nb, 1, none⟩ = some (.int .i64 s') := fun x => ((mmh _).1 x.is).2.2.1
 have mmk3 : ∀ x : Memb mmS, x.at_.cell? ⟨nb, 2, none⟩ = some (.slice A2 n2 c2) := fun x => ((mmh _).1 x.is).2.2.2
 have mmn : Nonempty (Memb mmS) := ⟨⟨(w3).drew, (mmh _).2 ⟨y3, N3.out.cellD 0 _ rfl, N3.out.cellD 1 _ rfl, N3.out.cellD 2 _ rfl⟩⟩⟩
 have mmH := Lib.hid mmh
 clear mmh
 refine wp_region_mix [6, 7, 10] (InS mmS) (by kernel_rfl) (by kernel_rfl) (InS.mk ((mmH.out _).2 ⟨y3, N3.out.cellD 0 _ rfl, N3.out.cellD 1 _ rfl, N3.out.cellD 2 _ rfl⟩)) ?_
 refine wpMix_seg 6 (by kernel_rfl) (by decide) ?_
 simp only [tds]
 repeat (go_big_quiet_step (fail))
 refine wpQuiet_nil ?_
 refine wpMix_eff (by kernel_rfl) ?_
 go_wp2
 first | (refine Exists.elim (⟨_, rfl⟩ : ∃ x, (w3.alloc (.cells #[.int .i64 k, .int .i64 s', .slice A2 n2 c2] 95)).drew = x) fun w4 hw4 => ?_; rw [hw4]) | (refine Exists.elim (⟨_, rfl⟩ : ∃ x, w3.drew.alloc (.cells #[.int .i64 k, .int .i64 s', .slice A2 n2 c2] 95) = x) fun w4 hw4 => ?_; rw [hw4])
 have K4 : Hid (Keeps None w3 w4) := by show Keeps _ _ _; rw [← hw4]; first | exact ((Keeps.refl None w3).alloc _).drew | exact (Keeps.refl None w3).drew.alloc _
 have N4 : Hid (Blk w4 w3.heap.size [.int .i64 k, .int .i64 s', .slice A2 n2 c2] 95) := by show Blk _ _ _ _; rw [← hw4]; first | exact (Blk.new _ [_, _, _] _).drew | exact Blk.new w3.drew [_, _, _] _
 have M4 := Lib.hid (K4.out.blk N3.out (fun h => h))
 have J4 := Lib.hid (J3.out.later K4.out)
 have x3 := J4.out.c.cellD 3 _ rfl
 try dsimp only at x3
 rw [HLV.out] at x3
 clear hw4
 refine MixK.on (InS.mk ((mmH.out _).2 (⟨x3, M4.out.cellD 0 _ rfl, M4.out.cellD 1 _ rfl, M4.out.cellD 2 _ rfl⟩))) ?_
 refine wpMix_eff (by kernel_rfl) ?_
 go_wp2_with (at_builtin; refine Hid.out ?_)
 refine Lib.hid ?_
 refine wpList_append_recs (B := B) (rs := rs1) (ns := [⟨k, s', A2, c2, bl2⟩]) (HLV.out ▸ J4.out.l) (Rws.one _ (by show Blk _ _ [_, _, .slice A2 bl2.length c2] _; rw [HN2.out]; exact N4.out)) (by rw [HRL.out]; omega) (Nat.le_of_lt (Nat.lt_of_le_of_lt J4.out.jB J4.out.c.lt)) rfl rfl rfl rfl rfl ?_
 intro v6 w6 o6 k6 hat6
 rw [← HLV.out] at k6 hat6
 obtain ⟨A6, c6, hv6, r6, -⟩ := o6.shape
 have m6 := r6.max
 have l6 := r6.le
 have n6e : (rs1 ++ [(⟨k, s', A2, c2, bl2⟩ : RV)]).length = rl + 1 := by rw [List.length_append, HRL.out]; rfl
 rw [n6e] at hv6 l6
 subst hv6
 have PU := Lib.hid (T1.out.at_.push (K3.out.trans K4.out (T := None) (fun _ h => h) (fun _ _ h => h)) k6 o6 (hat6.imp id (fun h => ⟨_, h, Nat.le_refl _⟩)) ((show Bs w3 A2 bl2.length c2 bl2 from by rw [HN2.out]; exact B3.out).keeps K4.out (fun _ _ _ _ _ h => h)) (fun b ⟨o, h0, e⟩ => by have h1 := I2.out b o e; have h2 := (K3.out.trans K4.out (T := None) (fun _ h => h) (fun _ _ h => h)).size; have h3 := K3.out.size; have h4 := W23.out; have h5 := K4.out.size; exact ⟨h1.1, by omega⟩))
 have Y6 := Lib.hid (k6.blk J4.out.c (fun e => (J4.out.lo _ e).2 rfl))
 have M6 := Lib.hid (k6.blk M4.out (fun e => by have h1 := (T1.out.at_.l.block e).2; have h2 := NBL.out; omega))
 have x3 := Y6.out.cellD 3 _ rfl
 have g3 := Y6.out.frozen 3
 have g7 := Y6.out.frozen 7
 have x7 := Y6.out.cellD 7 _ rfl
 try dsimp only at x3 x7
 rw [HLV.out] at x3
 clear o6 k6 hat6 r6 n6e
 go_wp2
 refine MixK.on (InS.mk ((mmH.out _).2 (⟨x3, M6.out.cellD 0 _ rfl, M6.out.cellD 1 _ rfl, M6.out.cellD 2 _ rfl⟩))) ?_
 refine wpMix_seg 2 (by kernel_rfl) (by decide) ?_
 simp only [tds]
 repeat (go_big_quiet_step (fail))
 refine wpQuiet_nil ?_
 refine wpMix_eff (by kernel_rfl) ?_
 go_wp2
 refine MixK.last (by kernel_rfl) ?_
 refine wpMix_nil ?_
 clear mmk0 mmk1 mmk2 mmk3 mmn mmH
 have P6 := Lib.hid (PU.out.at_.put (j' := { j with l := (j.l ++ pre) ++ [⟨k, s', bl2⟩], used := (u) + mm }) 7 (.int .i64 (((u) + mm : Nat) : Int)) rfl rfl)
 exact tl127 _) : P := h
theorem tl245 (P : Prop) (h : P := by
 obtain ⟨bb, HBB⟩ : ∃ x, Hid (blankB (zs.drop (u)) = x) := ⟨_, rfl⟩
 rw [HBB.out] at BK
 go_wp2_with fail
 refine (BK.out _ (SL2.out.alloc _)).mono ?_
 rintro e w' ⟨rfl, rfl⟩
 have P6 := Lib.hid (J3.out.at_.put (j' := { j with l := j.l ++ pre, used := (u), torn := !bb }) 6 (.bool (!bb)) rfl rfl)
 try dsimp only at P6
 have hu : (parseF 64 zs 16).2 = (u) := PAR2.out.symm.trans (by rw [PE.out])
 have FIN := Lib.hid (J3.out.trans P6.out)
 try dsimp only at FIN
 have OPN : Hid (openS s = { j with l := j.l ++ pre, used := (u), torn := !bb }) := by
  show openS s = _
  rw [OS.out, hu, ← PAR1.out, PE.out, List.append_nil, ← HJJ.out, HBB.out]; rfl
 exact tl242 _) : P := h
theorem tl244 (P : Prop) (h : P := by
 have y7 := J3.out.at_.c.cellD 7 _ rfl
 have y6 := J3.out.at_.c.cellD 6 _ rfl
 have f6 := J3.out.at_.c.frozen 6
 try dsimp only at y6 y7
 have SL2 := Lib.hid (SLK.out _ (K2.out.mono (fun _ _ h => h.elim)))
 have BK := Lib.hid (fun w' h' => risBlank_any (some ⟨ga, u, none⟩) (1024 - u) (cap - u) (zs.drop (u)) w' h')
 exact tl245 _) : P := h
theorem tl246 (P : Prop) (h : P := by
 have y7 := J3.out.at_.c.cellD 7 _ rfl
 have y6 := J3.out.at_.c.cellD 6 _ rfl
 have f6 := J3.out.at_.c.frozen 6
 try dsimp only at y6 y7
 have SL2 := Lib.hid (SLK.out _ (K2.out.mono (fun _ _ h => h.elim)))
 have BK := Lib.hid (fun w' h' => risBlank_any (some ⟨ga, 1024, none⟩) (0) (0) (zs.drop (1024)) w' h')
 exact tl241 _) : P := h
theorem tl247 (P : Prop) (h : P := by
 have y7 := J3.out.at_.c.cellD 7 _ rfl
 have y6 := J3.out.at_.c.cellD 6 _ rfl
 have f6 := J3.out.at_.c.frozen 6
 try dsimp only at y6 y7
 have SL2 := Lib.hid (SLK.out _ (K2.out.mono (fun _ _ h => h.elim)))
 have BK := Lib.hid (fun w' h' => risBlank_any (some ⟨ga, 1024 + u, none⟩) (1024 - u) (cap - u) (zs.drop (u)) w' h')
 exact tl245 _) : P := h
set_option maxRecDepth 100000 in
set_option maxHeartbeats 6400000 in
theorem rjopen_any (B : Nat) (L : RL) (s : FS) (q : Nat) (w : World) (h : RAt w B L s) (hq : L.bf = q) (hd : s.dark = false) (hn : 2 ≤ L.n) :
    Calls Tryz.prog 30 #[.agg #[.pointer (some ⟨q, 0, none⟩), .int .i64 0, .int .i64 2]] w fun e w' => ∃ X : QX, e = .returned (.tuple #[.pointer (some ⟨X.jb, 0, none⟩), .int .i64 0]) ∧ QAt w' B q X s (openS s) ∧ X.L = L ∧ Keeps None w w' ∧ ∀ k, X.S k → L.O k ∨ w.heap.size ≤ k := by
 have hbl : 2048 ≤ s.b.length := by have := h.bl; have := h.nN; omega
 have SZ := Lib.hid (fun w => rgsize_any (some ⟨q, 0, none⟩) 0 2 (by decide) w)
 have RD : Hid (∀ (w' : World), Keeps None w w' → Calls Tryz.prog 44 #[.agg #[.pointer (some ⟨q, 0, none⟩), .int .i64 0, .int .i64 2], .int .i64 0, .int .i64 2048] w' (ReadTold w' (s.b.take 2048, 0))) := fun w' hkp => by
  have := rgread_any B L s q 0 2 0 2048 w' (h.later hkp) hq (by decide)
  rw [gread_all hd hbl] at this
  exact this
 have ALN : Hid ((s.b.take 2048).length = 2048) := by show _ = _; rw [List.length_take]; omega
 have HF := Lib.hid h
 have HB : Hid (B ≤ w.heap.size) := by have h1 := h.low L.bf (.inl (.inl rfl)); have h2 := h.lt L.bf (.inl (.inl rfl)); show B ≤ _; omega
 clear h
 obtain ⟨w1, hw1⟩ : ∃ x, w.alloc (.cells #[.pointer (some ⟨q, 0, none⟩), .int .i64 0, .int .i64 2] 29) = x := ⟨_, rfl⟩
 have RB : Hid (Blk w1 w.heap.size [.pointer (some ⟨q, 0, none⟩), .int .i64 0, .int .i64 2] 29) := by rw [← hw1]; exact Blk.new w [.pointer (some ⟨q, 0, none⟩), .int .i64 0, .int .i64 2] 29
 have K1 : Hid (Keeps None w w1) := by rw [← hw1]; exact (Keeps.refl None w).alloc _
 have c0 := RB.out.cellD 0 _ rfl
 have c1 := RB.out.cellD 1 _ rfl
 have c2 := RB.out.cellD 2 _ rfl
 go_enter Tryz.func30, Tryz.ntmps30
 go_wp2
 clear hw1
 obtain ⟨mrS, mrh⟩ : ∃ S : World → Prop, ∀ w', S w' ↔ (w'.cell? ⟨w.heap.size, 0, none⟩ = some (.pointer (some ⟨q, 0, none⟩)) ∧ w'.cell? ⟨w.heap.size, 1, none⟩ = some (.int .i64 0) ∧ w'.cell? ⟨w.heap.size, 2, none⟩ = some (.int .i64 2)) := ⟨_, fun _ => Iff.rfl⟩
 have mrk0 : ∀ x : Memb mrS, x.at_.cell? ⟨w.heap.size, 0, none⟩ = some (.pointer (some ⟨q, 0, none⟩)) := fun x => ((mrh _).1 x.is).1
 have mrk1 : ∀ x : Memb mrS, x.at_.cell? ⟨w.heap.size, 1, none⟩ = some (.int .i64 0) := fun x => ((mrh _).1 x.is).2.1
 have mrk2 : ∀ x : Memb mrS, x.at_.cell? ⟨w.heap.size, 2, none⟩ = some (.int .i64 2) := fun x => ((mrh _).1 x.is).2.2
 have mrn : Nonempty (Memb mrS) := ⟨⟨(w1).drew, (mrh _).2 ⟨c0, c1, c2⟩⟩⟩
 have mrH := Lib.hid mrh
 clear mrh
 refine wp_region_mix [2, 3] (InS mrS) (by kernel_rfl) (by kernel_rfl) (InS.mk ((mrH.out _).2 ⟨c0, c1, c2⟩)) ?_
 refine wpMix_seg 2 (by kernel_rfl) (by decide) ?_
 simp only [tds]
 repeat (go_big_quiet_step (fail))
 refine wpQuiet_nil ?_
 refine wpMix_eff (by kernel_rfl) ?_
 go_wp2_with fail
 refine (SZ.out _).mono ?_
 rintro e w3 ⟨rfl, k3⟩
 have K3 := Lib.hid ((Keeps.refl None w1).drew.trans k3 (T := None) (fun _ h => h) (fun _ _ h => h))
 have R3 := Lib.hid (K3.out.blk RB.out (fun h => h))
 clear k3
 go_wp2
 refine MixK.on (InS.mk ((mrH.out _).2 (⟨R3.out.cellD 0 _ rfl, R3.out.cellD 1 _ rfl, R3.out.cellD 2 _ rfl⟩))) ?_
 refine wpMix_eff (by kernel_rfl) ?_
 go_wp2_with fail
 refine (RD.out _ (K1.out.trans K3.out (T := None) (fun _ h => h) (fun _ _ h => h))).mono ?_
 rintro e w4 ⟨v4, rfl, o4, k4⟩
 obtain ⟨A4, c4, rfl, b4, in4⟩ := o4.shape
 rw [ALN.out] at b4 ⊢
 have l4 := b4.le
 have m4 := b4.max
 have B4 := Lib.hid b4
 have I4 := Lib.hid in4
 have K4 := Lib.hid (K1.out.trans (K3.out.trans k4 (T := None) (fun _ h => h) (fun _ _ h => h)) (T := None) (fun _ h => h) (fun _ _ h => h))
 have R4 := Lib.hid (k4.blk R3.out (fun h => h))
 have Z34 : w.heap.size < w3.heap.size := R3.out.lt
 clear o4 k4 b4 in4
 go_wp2
 refine MixK.on (InS.mk ((mrH.out _).2 (⟨R4.out.cellD 0 _ rfl, R4.out.cellD 1 _ rfl, R4.out.cellD 2 _ rfl⟩))) ?_
 refine wpMix_seg 5 (by kernel_rfl) (by decide) ?_
 simp only [tds]
 repeat (go_big_quiet_step (fail))
 refine wpQuiet_nil ?_
 refine wpMix_nil ?_
 clear mrk0 mrk1 mrk2 mrn mrH
 have x0 := R4.out.cellD 0 _ rfl
 have x1 := R4.out.cellD 1 _ rfl
 have x2 := R4.out.cellD 2 _ rfl
 go_wp2
 obtain ⟨w5, hw5⟩ : ∃ x, w4.alloc (.cells #[.pointer (some ⟨q, 0, none⟩), .int .i64 0, .int .i64 2, .slice none 0 0, .int .i64 (-1), .int .i64 0, .bool false, .int .i64 0, .int .i64 0] 78) = x := ⟨_, rfl⟩
 obtain ⟨jb, hjb⟩ : ∃ x, w4.heap.size = x := ⟨_, rfl⟩
 have K5 : Hid (Keeps None w w5) := by show Keeps _ _ _; rw [← hw5]; exact K4.out.alloc _
 have JBG : Hid (w.heap.size ≤ jb) := by show _ ≤ _; rw [← hjb]; exact K4.out.size
 have J5 : Hid (QAt w5 B q ⟨L, jb, .slice none 0 0, []⟩ s (jnone 0 (-1))) := by
  refine ⟨HF.out.later K5.out, hq, ?_, OwnR.nil _ _, Bds.nil _ _, rfl, fun hO => ?_, Nat.le_trans HB.out JBG.out, fun b e => by cases e⟩
  ·show Blk w5 jb _ _
   rw [← hw5, ← hjb]
   exact Blk.new _ [_, _, _, _, _, _, _, _, _] _
  ·have h1 := HF.out.lt jb hO; have h2 := JBG.out; omega
 have BA5 : Hid (Bs w5 A4 2048 c4 (s.b.take 2048)) := by show Bs _ _ _ _ _; rw [← hw5]; exact B4.out.alloc _
 have NA : Hid (∀ b off, A4 = some ⟨b, off, none⟩ → b ≠ jb ∧ off = 0 ∧ w.heap.size ≤ b) := fun b off e => by have h1 := I4.out b off e; have h2 : w4.heap.size = jb := hjb; omega
 rw [hw5, hjb]
 clear hw5 hjb K4 B4 I4 R4 K3 R3 K1 RB c0 c1 c2 x0 x1 x2 SZ RD Z34
 obtain ⟨ga, off, hA, -⟩ := BA5.out.at_ (by decide)
 obtain ⟨h1, h2, h3⟩ := NA.out ga off hA
 subst h2 hA
 have GA : Hid (ga ≠ jb) := h1
 have GW : Hid (w.heap.size ≤ ga) := h3
 clear NA h1 h3
 go_loopw [7] (fun iv wr => ∃ k : Nat, k ≤ 2 ∧ iv = .int .i64 (k : Int) ∧ QAt wr B q ⟨L, jb, .slice none 0 0, []⟩ s (jnone (selF s k).1 (selF s k).2) ∧ Keeps None w wr ∧ Bs wr (some ⟨ga, 0, none⟩) 2048 c4 (s.b.take 2048)) (fun iv _ => 2 - (intOf iv).toNat)
 case atStart => exact ⟨0, by decide, rfl, J5.out, K5.out, BA5.out⟩
 case round =>
  clear J5 K5 BA5
  obtain ⟨k, hk, rfl, hj, hkp, hab⟩ := hrel
  obtain ⟨wv, rfl⟩ : ∃ x, x = wr := ⟨_, rfl⟩
  have HJ := Lib.hid hj
  have HK := Lib.hid hkp
  have AB := Lib.hid hab
  clear hj hkp hab
  have hk3 : k = 0 ∨ k = 1 ∨ k = 2 := by omega
  rcases hk3 with rfl | rfl | rfl
  ·skip
   have BSk : Hid (Bs wv (some ⟨ga, 0, none⟩) 1024 (c4) (sec s 0)) := by show Bs _ _ _ _ _; rw [← sec_all (s := s) (k := 0) (by decide)]; exact (AB.out.take (by decide))
   obtain ⟨zs, HZS⟩ : ∃ x, Hid (sec s 0 = x) := ⟨_, rfl⟩
   have SELS : Hid (selF s (0 + 1) = if ((selF s 0).1 : Int) < epochF zs then ((epochF zs).toNat, ((0 : Nat) : Int)) else selF s 0) := by show _ = _; rw [← HZS.out]; rfl
   rw [HZS.out] at BSk
   go_wp2_with fail
   refine (rjgood_any _ 1024 _ zs wv BSk.out (by decide)).mono ?_
   rintro e w4 ⟨rfl, k4⟩
   have K4 := Lib.hid (HK.out.trans k4 (T := None) (fun _ h => h) (fun _ _ h => h))
   have J4 := Lib.hid (HJ.out.later k4)
   have N4 := Lib.hid (AB.out.keeps k4 (fun _ _ _ _ _ h => h))
   obtain ⟨E, hE⟩ : ∃ E : Nat, epochF zs = E := ⟨(epochF zs).toNat, by have := epochF_bd zs; omega⟩
   rw [hE] at SELS ⊢
   rw [Int.toNat_natCast] at SELS
   have hE4 : E ≤ 4294967295 := by have := (epochF_bd zs).2; omega
   clear k4 hE
   obtain ⟨⟨e0, c0⟩, HSE⟩ : ∃ x, Hid (selF s 0 = x) := ⟨_, rfl⟩
   rw [HSE.out] at J4 SELS
   dsimp only at J4 SELS
   have y4 := J4.out.c.cellD 4 _ rfl
   have y5 := J4.out.c.cellD 5 _ rfl
   have f4 := J4.out.c.frozen 4
   have f5 := J4.out.c.frozen 5
   dsimp only [jnone] at y4 y5 f4 f5
   by_cases hgt : e0 < E
   ·have d1 : decide ((e0 : Int) < (E : Int)) = true := decide_eq_true (by omega)
    have d1n : decide (e0 < E) = true := decide_eq_true hgt
    have S2 : Hid (selF s (0 + 1) = (E, ((0 : Nat) : Int))) := SELS.out.trans (if_pos (by omega))
    have P5 := Lib.hid (J4.out.put (j' := jnone E c0) 5 (.int .i64 (E : Int)) rfl rfl)
    have P4 := Lib.hid (P5.out.at_.put (j' := jnone E ((0 : Nat) : Int)) 4 (.int .i64 ((0 : Nat) : Int)) rfl rfl)
    have JJ : Hid (w.heap.size ≤ jb) := JBG.out
    go_wp2
    go_roundw
    case rel => exact ⟨0 + 1, by decide, rfl, by rw [S2.out]; exact P4.out.at_, (K4.out.setCell _ _ (fun h => absurd h (Nat.not_lt.2 JJ.out))).setCell _ _ (fun h => absurd h (Nat.not_lt.2 JJ.out)), N4.out.keeps (S := fun b => b = jb) (((Keeps.self jb w4).put 5 _).put 4 _) (fun b off _ _ e h => by cases e; exact GA.out h)⟩
    case measure => simp [intOf]
   ·have d1 : decide ((e0 : Int) < (E : Int)) = false := decide_eq_false (by omega)
    have d1n : decide (e0 < E) = false := decide_eq_false hgt
    have S2 : Hid (selF s (0 + 1) = (e0, c0)) := SELS.out.trans (if_neg (by omega))
    go_wp2
    go_roundw
    case rel => exact ⟨0 + 1, by decide, rfl, by rw [S2.out]; exact J4.out, K4.out, N4.out⟩
    case measure => simp [intOf]
  ·skip
   have BSk : Hid (Bs wv (some ⟨ga, 1024, none⟩) 1024 (c4 - 1024) (sec s 1)) := by show Bs _ _ _ _ _; rw [← sec_all (s := s) (k := 1) (by decide)]; exact ((AB.out.drop (k := 1024) (by decide)).take (by decide))
   obtain ⟨zs, HZS⟩ : ∃ x, Hid (sec s 1 = x) := ⟨_, rfl⟩
   have SELS : Hid (selF s (1 + 1) = if ((selF s 1).1 : Int) < epochF zs then ((epochF zs).toNat, ((1 : Nat) : Int)) else selF s 1) := by show _ = _; rw [← HZS.out]; rfl
   rw [HZS.out] at BSk
   go_wp2_with fail
   refine (rjgood_any _ 1024 _ zs wv BSk.out (by decide)).mono ?_
   rintro e w4 ⟨rfl, k4⟩
   have K4 := Lib.hid (HK.out.trans k4 (T := None) (fun _ h => h) (fun _ _ h => h))
   have J4 := Lib.hid (HJ.out.later k4)
   have N4 := Lib.hid (AB.out.keeps k4 (fun _ _ _ _ _ h => h))
   obtain ⟨E, hE⟩ : ∃ E : Nat, epochF zs = E := ⟨(epochF zs).toNat, by have := epochF_bd zs; omega⟩
   rw [hE] at SELS ⊢
   rw [Int.toNat_natCast] at SELS
   have hE4 : E ≤ 4294967295 := by have := (epochF_bd zs).2; omega
   clear k4 hE
   obtain ⟨⟨e0, c0⟩, HSE⟩ : ∃ x, Hid (selF s 1 = x) := ⟨_, rfl⟩
   rw [HSE.out] at J4 SELS
   dsimp only at J4 SELS
   have y4 := J4.out.c.cellD 4 _ rfl
   have y5 := J4.out.c.cellD 5 _ rfl
   have f4 := J4.out.c.frozen 4
   have f5 := J4.out.c.frozen 5
   dsimp only [jnone] at y4 y5 f4 f5
   by_cases hgt : e0 < E
   ·have d1 : decide ((e0 : Int) < (E : Int)) = true := decide_eq_true (by omega)
    have d1n : decide (e0 < E) = true := decide_eq_true hgt
    have S2 : Hid (selF s (1 + 1) = (E, ((1 : Nat) : Int))) := SELS.out.trans (if_pos (by omega))
    have P5 := Lib.hid (J4.out.put (j' := jnone E c0) 5 (.int .i64 (E : Int)) rfl rfl)
    have P4 := Lib.hid (P5.out.at_.put (j' := jnone E ((1 : Nat) : Int)) 4 (.int .i64 ((1 : Nat) : Int)) rfl rfl)
    have JJ : Hid (w.heap.size ≤ jb) := JBG.out
    go_wp2
    go_roundw
    case rel => exact ⟨1 + 1, by decide, rfl, by rw [S2.out]; exact P4.out.at_, (K4.out.setCell _ _ (fun h => absurd h (Nat.not_lt.2 JJ.out))).setCell _ _ (fun h => absurd h (Nat.not_lt.2 JJ.out)), N4.out.keeps (S := fun b => b = jb) (((Keeps.self jb w4).put 5 _).put 4 _) (fun b off _ _ e h => by cases e; exact GA.out h)⟩
    case measure => simp [intOf]
   ·have d1 : decide ((e0 : Int) < (E : Int)) = false := decide_eq_false (by omega)
    have d1n : decide (e0 < E) = false := decide_eq_false hgt
    have S2 : Hid (selF s (1 + 1) = (e0, c0)) := SELS.out.trans (if_neg (by omega))
    go_wp2
    go_roundw
    case rel => exact ⟨1 + 1, by decide, rfl, by rw [S2.out]; exact J4.out, K4.out, N4.out⟩
    case measure => simp [intOf]
  ·have OS : Hid (openS s = if (selF s 2).2 = -1 then jnone (selF s 2).1 (selF s 2).2 else { jnone (selF s 2).1 (selF s 2).2 with l := (parseF 64 (sec s (selF s 2).2.toNat) 16).1, used := (parseF 64 (sec s (selF s 2).2.toNat) 16).2, torn := !blankB ((sec s (selF s 2).2.toNat).drop (parseF 64 (sec s (selF s 2).2.toNat) 16).2) }) := rfl
   have SC := selF_cur s 2
   obtain ⟨⟨e0, c0⟩, HSE⟩ : ∃ x, Hid (selF s 2 = x) := ⟨_, rfl⟩
   rw [HSE.out] at HJ OS SC
   dsimp only at HJ OS SC
   have y4 := HJ.out.c.cellD 4 _ rfl
   dsimp only [jnone] at y4
   have SUB : Hid (∀ (X : QX), (∀ k, X.S k → QX.S ⟨L, jb, .slice none 0 0, []⟩ k ∨ wv.heap.size ≤ k) → ∀ k, X.S k → L.O k ∨ w.heap.size ≤ k) := fun X ho k hk => by
    exact tl129 _
   clear HSE
   rcases SC with h1 | ⟨i, hi, h1⟩
   ·subst h1
    rw [if_pos rfl] at OS
    go_wp2
    go_ret2
    exact ⟨⟨L, jb, .slice none 0 0, []⟩, rfl, by rw [OS.out]; exact HJ.out, rfl, HK.out, SUB.out _ (fun k h => .inl h)⟩
   ·have hi3 : i = 0 ∨ i = 1 := by omega
    rcases hi3 with rfl | rfl
    ·skip
     have BSk : Hid (Bs wv (some ⟨ga, 0, none⟩) 1024 (c4) (sec s 0)) := by show Bs _ _ _ _ _; rw [← sec_all (s := s) (k := 0) (by decide)]; exact (AB.out.take (by decide))
     subst h1
     rw [if_neg (by decide)] at OS
     rw [show (((0 : Nat) : Int)).toNat = 0 from rfl] at OS
     obtain ⟨zs, HZS⟩ : ∃ x, Hid (sec s 0 = x) := ⟨_, rfl⟩
     rw [HZS.out] at OS BSk
     go_wp2
     obtain ⟨m4S, m4h⟩ : ∃ S : World → Prop, ∀ w', S w' ↔ (w'.cell? ⟨jb, 4, none⟩ = some (.int .i64 ((0 : Nat) : Int))) := ⟨_, fun _ => Iff.rfl⟩
     have m4k0 : ∀ x : Memb m4S, x.at_.cell? ⟨jb, 4, none⟩ = some (.int .i64 ((0 : Nat) : Int)) := fun x => ((m4h _).1 x.is)
     have m4n : Nonempty (Memb m4S) := ⟨⟨(wv).drew, (m4h _).2 (y4)⟩⟩
     have m4H := Lib.hid m4h
     clear m4h
     refine wp_region_mix [] (InS m4S) (by kernel_rfl) (by kernel_rfl) (InS.mk ((m4H.out _).2 (y4))) ?_
     refine wpMix_seg 14 (by kernel_rfl) (by decide) ?_
     simp only [tds]
     repeat (go_big_quiet_step (fail))
     refine wpQuiet_nil ?_
     refine wpMix_nil ?_
     clear m4k0 m4n m4H
     have JD := Lib.hid (HJ.out.later (Keeps.refl None wv).drew)
     have BD := Lib.hid (BSk.out.drew)
     have KD := Lib.hid (HK.out.drew)
     have ZD : wv.heap.size ≤ wv.drew.heap.size := Nat.le_refl _
     obtain ⟨wd, hwd⟩ : ∃ x, wv.drew = x := ⟨_, rfl⟩
     rw [hwd] at JD BD KD ZD ⊢
     clear hwd
     have y7 := JD.out.c.cellD 7 _ rfl
     have f7 := JD.out.c.frozen 7
     have P7 := Lib.hid (JD.out.put (j' := { jnone e0 ((0 : Nat) : Int) with used := 16 }) 7 (.int .i64 16) rfl rfl)
     obtain ⟨cap, hcap⟩ : ∃ x, c4 = x := ⟨_, rfl⟩
     have CAP : 1024 ≤ cap ∧ cap ≤ 9223372036854775807 := by omega
     obtain ⟨CAP1, CAP2⟩ := CAP
     obtain ⟨j, HJJ⟩ : ∃ x : JS, Hid (({ jnone e0 ((0 : Nat) : Int) with used := 16 } : JS) = x) := ⟨_, rfl⟩
     rw [HJJ.out] at P7
     have KZ := Lib.hid (KD.out.setCell ⟨jb, 7, none⟩ (.int .i64 16) (fun h => absurd h (Nat.not_lt.2 JBG.out)))
     have HBZ := Lib.hid (BD.out.keeps (S := fun b => b = jb) ((Keeps.self jb wd).put 7 (.int .i64 16)) (fun b off _ _ e h => by cases e; exact GA.out h))
     have ZZ : wv.heap.size ≤ (wd.setCell ⟨jb, 7, none⟩ (.int .i64 16)).heap.size := Nat.le_trans ZD ((Keeps.self jb wd).put 7 (.int .i64 16)).size
     have HLT : Hid (ga < (wd.setCell ⟨jb, 7, none⟩ (.int .i64 16)).heap.size) := by
      obtain ⟨b, o, e, hb, -⟩ := BSk.out.at_ (by decide)
      cases e
      exact Nat.lt_of_lt_of_le hb ZZ
     have SUBZ : Hid (∀ (X : QX), (∀ k, X.S k → QX.S ⟨L, jb, .slice none 0 0, []⟩ k ∨ (wd.setCell ⟨jb, 7, none⟩ (.int .i64 16)).heap.size ≤ k) → ∀ k, X.S k → L.O k ∨ w.heap.size ≤ k) := fun X h => SUB.out X (fun k hk => (h k hk).imp id (fun h => Nat.le_trans ZZ h))
     go_wp2
     try rw [hcap] at HBZ
     try rw [hcap]
     try dsimp only at P7
     obtain ⟨wz, hwz⟩ : ∃ x, wd.setCell ⟨jb, 7, none⟩ (.int .i64 16) = x := ⟨_, rfl⟩
     rw [hwz] at P7 KZ HBZ HLT SUBZ ⊢
     have P6 := Lib.hid (QStay.self P7.out.at_)
     have JL : j.l = [] := by rw [← HJJ.out]; rfl
     have PJ : Hid (({ j with l := j.l ++ [], used := 16 } : JS) = j) := by show _ = _; rw [← HJJ.out]; rfl
     have hl : j.l.length ≤ 1000 := by rw [JL]; decide
     have HL : Hid (zs.length = 1024) := HBZ.out.len
     have NS : Hid (¬ QX.S ⟨L, jb, .slice none 0 0, []⟩ ga) := fun h => by
      exact tl239 _
     clear hwz hcap P7 f7 y7 ZD KD BD JD BSk AB HJ HK SUB y4 ZZ
     go_loopg [] 64 (fun g wr => ∃ (X1 : QX) (u : Nat) (pre : List Rec), g ≤ 64 ∧ 16 + 16 * (64 - g) ≤ u ∧ u ≤ 1024 ∧ QStay wz wr B q ⟨L, jb, .slice none 0 0, []⟩ X1 s { j with l := j.l ++ pre, used := u } ∧ pre ++ (parseF g zs u).1 = (parseF 64 zs 16).1 ∧ (parseF g zs u).2 = (parseF 64 zs 16).2 ∧ pre.length ≤ 64 - g)
     case atStart => exact ⟨⟨L, jb, .slice none 0 0, []⟩, 16, [], Nat.le_refl _, Nat.le_refl _, by decide, by rw [PJ.out]; exact P6.out, rfl, rfl, Nat.zero_le _⟩
     case round =>
      clear P6
      obtain ⟨X1, u, pre, hg1, hg2, hu, ht, hp1, hp2, hpl⟩ := hrel
      obtain ⟨wv, rfl⟩ : ∃ x, x = wr := ⟨_, rfl⟩
      obtain ⟨G, rfl⟩ : ∃ G, gk = G + 1 := ⟨gk - 1, by omega⟩
      obtain ⟨L1, jb1, lv1, rs1⟩ := X1
      obtain rfl : jb1 = jb := ht.jb
      have T1 := Lib.hid ht
      have PAR1 := Lib.hid hp1
      have PAR2 := Lib.hid hp2
      have y7 := ht.at_.c.cellD 7 _ rfl
      try dsimp only at y7
      have BV := Lib.hid (HBZ.out.keeps ht.keeps (fun b off h0 _ e hS => by cases e; exact NS.out hS))
      have NS1 : Hid (¬ QX.S ⟨L1, jb1, lv1, rs1⟩ ga) := fun hS => by
       rcases ht.o ga hS with h1 | h1
       ·exact NS.out h1
       ·have := HLT.out; omega
      clear ht hp1 hp2
      by_cases hcu : cap = u
      ·obtain rfl : u = 1024 := by omega
       subst hcu
       have SL : Hid (Bs wv (some ⟨ga, 0, none⟩) (1024 - 1024) (1024 - 1024) (zs.drop 1024)) := by have := BV.out.dropIf (k := 1024) (by omega); rwa [if_pos rfl] at this
       have SEP : Hid (∀ b o, 0 < 1024 - 1024 → some ⟨ga, 0, none⟩ = some (⟨b, o, none⟩ : Addr) → ¬ QX.S ⟨L1, jb1, lv1, rs1⟩ b) := fun b o h => absurd h (by decide)
       have SL : Hid (Bs wv (some ⟨ga, 0, none⟩) 0 0 (zs.drop 1024)) := SL
       have SEP : Hid (∀ b o, 0 < 0 → some ⟨ga, 0, none⟩ = some (⟨b, o, none⟩ : Addr) → ¬ QX.S ⟨L1, jb1, lv1, rs1⟩ b) := fun b o h => absurd h (by decide)
       have SLK : Hid (∀ w', Keeps (QX.S ⟨L1, jb1, lv1, rs1⟩) wv w' → Bs w' (some ⟨ga, 0, none⟩) (0) (0) (zs.drop (1024))) := fun w' hk => SL.out.keeps hk (fun b off h0 _ e => SEP.out b off h0 e)
       clear SEP
       go_wp2_with fail
       refine (rsget_any (some ⟨ga, 0, none⟩) (0) (0) _ wv SL.out (by omega)).mono ?_
       rintro e w2 ⟨k, s', v, bl2, m, ok, rfl, o2, k2, hg⟩
       obtain ⟨A2, c2, rfl, b2, in2⟩ := o2.shape
       have l2 := b2.le
       have m2 := b2.max
       have B2 := Lib.hid b2
       have I2 := Lib.hid in2
       have K2 := Lib.hid k2
       obtain ⟨n2, HN2⟩ : ∃ x, Hid (bl2.length = x) := ⟨_, rfl⟩
       rw [HN2.out] at l2 B2 ⊢
       clear o2 k2 b2 in2
       by_cases hpush : ok = true ∧ k ≠ 1
       ·exact tl123 _
       ·have PE : Hid (parseF (G + 1) zs (1024) = ([], (1024))) := by
         exact tl124 _
        clear hg
        cases ok with
        | false =>
         skip
         have J3 := Lib.hid (T1.out.later (K2.out.alloc (.cells #[.int .i64 (k), .int .i64 s', .slice A2 n2 c2] 95)))
         exact tl240 _
        | true =>
         obtain rfl : k = 1 := Classical.byContradiction fun hk => hpush ⟨rfl, hk⟩
         have J3 := Lib.hid (T1.out.later (K2.out.alloc (.cells #[.int .i64 (1), .int .i64 s', .slice A2 n2 c2] 95)))
         exact tl240 _
      ·have SL : Hid (Bs wv (some ⟨ga, u, none⟩) (1024 - u) (cap - u) (zs.drop u)) := by have := BV.out.drop (k := u) (by omega); first | exact this | (rw [Nat.zero_add] at this; exact this)
       have SEP : Hid (∀ b o, 0 < 1024 - u → some ⟨ga, u, none⟩ = some (⟨b, o, none⟩ : Addr) → ¬ QX.S ⟨L1, jb1, lv1, rs1⟩ b) := fun b o _ e hS => by cases e; exact NS1.out hS
       have SLK : Hid (∀ w', Keeps (QX.S ⟨L1, jb1, lv1, rs1⟩) wv w' → Bs w' (some ⟨ga, u, none⟩) (1024 - u) (cap - u) (zs.drop (u))) := fun w' hk => SL.out.keeps hk (fun b off h0 _ e => SEP.out b off h0 e)
       clear SEP
       go_wp2_with fail
       refine (rsget_any (some ⟨ga, u, none⟩) (1024 - u) (cap - u) _ wv SL.out (by omega)).mono ?_
       rintro e w2 ⟨k, s', v, bl2, m, ok, rfl, o2, k2, hg⟩
       obtain ⟨A2, c2, rfl, b2, in2⟩ := o2.shape
       have l2 := b2.le
       have m2 := b2.max
       have B2 := Lib.hid b2
       have I2 := Lib.hid in2
       have K2 := Lib.hid k2
       obtain ⟨n2, HN2⟩ : ∃ x, Hid (bl2.length = x) := ⟨_, rfl⟩
       rw [HN2.out] at l2 B2 ⊢
       clear o2 k2 b2 in2
       by_cases hpush : ok = true ∧ k ≠ 1
       ·exact tl243 _
       ·have PE : Hid (parseF (G + 1) zs (u) = ([], (u))) := by
         exact tl124 _
        clear hg
        cases ok with
        | false =>
         skip
         have J3 := Lib.hid (T1.out.later (K2.out.alloc (.cells #[.int .i64 (k), .int .i64 s', .slice A2 n2 c2] 95)))
         exact tl244 _
        | true =>
         obtain rfl : k = 1 := Classical.byContradiction fun hk => hpush ⟨rfl, hk⟩
         have J3 := Lib.hid (T1.out.later (K2.out.alloc (.cells #[.int .i64 (1), .int .i64 s', .slice A2 n2 c2] 95)))
         exact tl244 _
    ·skip
     have BSk : Hid (Bs wv (some ⟨ga, 1024, none⟩) 1024 (c4 - 1024) (sec s 1)) := by show Bs _ _ _ _ _; rw [← sec_all (s := s) (k := 1) (by decide)]; exact ((AB.out.drop (k := 1024) (by decide)).take (by decide))
     subst h1
     rw [if_neg (by decide)] at OS
     rw [show (((1 : Nat) : Int)).toNat = 1 from rfl] at OS
     obtain ⟨zs, HZS⟩ : ∃ x, Hid (sec s 1 = x) := ⟨_, rfl⟩
     rw [HZS.out] at OS BSk
     go_wp2
     obtain ⟨m4S, m4h⟩ : ∃ S : World → Prop, ∀ w', S w' ↔ (w'.cell? ⟨jb, 4, none⟩ = some (.int .i64 ((1 : Nat) : Int))) := ⟨_, fun _ => Iff.rfl⟩
     have m4k0 : ∀ x : Memb m4S, x.at_.cell? ⟨jb, 4, none⟩ = some (.int .i64 ((1 : Nat) : Int)) := fun x => ((m4h _).1 x.is)
     have m4n : Nonempty (Memb m4S) := ⟨⟨(wv).drew, (m4h _).2 (y4)⟩⟩
     have m4H := Lib.hid m4h
     clear m4h
     refine wp_region_mix [] (InS m4S) (by kernel_rfl) (by kernel_rfl) (InS.mk ((m4H.out _).2 (y4))) ?_
     refine wpMix_seg 14 (by kernel_rfl) (by decide) ?_
     simp only [tds]
     repeat (go_big_quiet_step (fail))
     refine wpQuiet_nil ?_
     refine wpMix_nil ?_
     clear m4k0 m4n m4H
     have JD := Lib.hid (HJ.out.later (Keeps.refl None wv).drew)
     have BD := Lib.hid (BSk.out.drew)
     have KD := Lib.hid (HK.out.drew)
     have ZD : wv.heap.size ≤ wv.drew.heap.size := Nat.le_refl _
     obtain ⟨wd, hwd⟩ : ∃ x, wv.drew = x := ⟨_, rfl⟩
     rw [hwd] at JD BD KD ZD ⊢
     clear hwd
     have y7 := JD.out.c.cellD 7 _ rfl
     have f7 := JD.out.c.frozen 7
     have P7 := Lib.hid (JD.out.put (j' := { jnone e0 ((1 : Nat) : Int) with used := 16 }) 7 (.int .i64 16) rfl rfl)
     obtain ⟨cap, hcap⟩ : ∃ x, c4 - 1024 = x := ⟨_, rfl⟩
     have CAP : 1024 ≤ cap ∧ cap ≤ 9223372036854775807 := by omega
     obtain ⟨CAP1, CAP2⟩ := CAP
     obtain ⟨j, HJJ⟩ : ∃ x : JS, Hid (({ jnone e0 ((1 : Nat) : Int) with used := 16 } : JS) = x) := ⟨_, rfl⟩
     rw [HJJ.out] at P7
     have KZ := Lib.hid (KD.out.setCell ⟨jb, 7, none⟩ (.int .i64 16) (fun h => absurd h (Nat.not_lt.2 JBG.out)))
     have HBZ := Lib.hid (BD.out.keeps (S := fun b => b = jb) ((Keeps.self jb wd).put 7 (.int .i64 16)) (fun b off _ _ e h => by cases e; exact GA.out h))
     have ZZ : wv.heap.size ≤ (wd.setCell ⟨jb, 7, none⟩ (.int .i64 16)).heap.size := Nat.le_trans ZD ((Keeps.self jb wd).put 7 (.int .i64 16)).size
     have HLT : Hid (ga < (wd.setCell ⟨jb, 7, none⟩ (.int .i64 16)).heap.size) := by
      obtain ⟨b, o, e, hb, -⟩ := BSk.out.at_ (by decide)
      cases e
      exact Nat.lt_of_lt_of_le hb ZZ
     have SUBZ : Hid (∀ (X : QX), (∀ k, X.S k → QX.S ⟨L, jb, .slice none 0 0, []⟩ k ∨ (wd.setCell ⟨jb, 7, none⟩ (.int .i64 16)).heap.size ≤ k) → ∀ k, X.S k → L.O k ∨ w.heap.size ≤ k) := fun X h => SUB.out X (fun k hk => (h k hk).imp id (fun h => Nat.le_trans ZZ h))
     go_wp2
     try rw [hcap] at HBZ
     try rw [hcap]
     try dsimp only at P7
     obtain ⟨wz, hwz⟩ : ∃ x, wd.setCell ⟨jb, 7, none⟩ (.int .i64 16) = x := ⟨_, rfl⟩
     rw [hwz] at P7 KZ HBZ HLT SUBZ ⊢
     have P6 := Lib.hid (QStay.self P7.out.at_)
     have JL : j.l = [] := by rw [← HJJ.out]; rfl
     have PJ : Hid (({ j with l := j.l ++ [], used := 16 } : JS) = j) := by show _ = _; rw [← HJJ.out]; rfl
     have hl : j.l.length ≤ 1000 := by rw [JL]; decide
     have HL : Hid (zs.length = 1024) := HBZ.out.len
     have NS : Hid (¬ QX.S ⟨L, jb, .slice none 0 0, []⟩ ga) := fun h => by
      exact tl239 _
     clear hwz hcap P7 f7 y7 ZD KD BD JD BSk AB HJ HK SUB y4 ZZ
     go_loopg [] 64 (fun g wr => ∃ (X1 : QX) (u : Nat) (pre : List Rec), g ≤ 64 ∧ 16 + 16 * (64 - g) ≤ u ∧ u ≤ 1024 ∧ QStay wz wr B q ⟨L, jb, .slice none 0 0, []⟩ X1 s { j with l := j.l ++ pre, used := u } ∧ pre ++ (parseF g zs u).1 = (parseF 64 zs 16).1 ∧ (parseF g zs u).2 = (parseF 64 zs 16).2 ∧ pre.length ≤ 64 - g)
     case atStart => exact ⟨⟨L, jb, .slice none 0 0, []⟩, 16, [], Nat.le_refl _, Nat.le_refl _, by decide, by rw [PJ.out]; exact P6.out, rfl, rfl, Nat.zero_le _⟩
     case round =>
      clear P6
      obtain ⟨X1, u, pre, hg1, hg2, hu, ht, hp1, hp2, hpl⟩ := hrel
      obtain ⟨wv, rfl⟩ : ∃ x, x = wr := ⟨_, rfl⟩
      obtain ⟨G, rfl⟩ : ∃ G, gk = G + 1 := ⟨gk - 1, by omega⟩
      obtain ⟨L1, jb1, lv1, rs1⟩ := X1
      obtain rfl : jb1 = jb := ht.jb
      have T1 := Lib.hid ht
      have PAR1 := Lib.hid hp1
      have PAR2 := Lib.hid hp2
      have y7 := ht.at_.c.cellD 7 _ rfl
      try dsimp only at y7
      have BV := Lib.hid (HBZ.out.keeps ht.keeps (fun b off h0 _ e hS => by cases e; exact NS.out hS))
      have NS1 : Hid (¬ QX.S ⟨L1, jb1, lv1, rs1⟩ ga) := fun hS => by
       rcases ht.o ga hS with h1 | h1
       ·exact NS.out h1
       ·have := HLT.out; omega
      clear ht hp1 hp2
      by_cases hcu : cap = u
      ·obtain rfl : u = 1024 := by omega
       subst hcu
       have SL : Hid (Bs wv (some ⟨ga, 1024, none⟩) (1024 - 1024) (1024 - 1024) (zs.drop 1024)) := by have := BV.out.dropIf (k := 1024) (by omega); rwa [if_pos rfl] at this
       have SEP : Hid (∀ b o, 0 < 1024 - 1024 → some ⟨ga, 1024, none⟩ = some (⟨b, o, none⟩ : Addr) → ¬ QX.S ⟨L1, jb1, lv1, rs1⟩ b) := fun b o h => absurd h (by decide)
       have SL : Hid (Bs wv (some ⟨ga, 1024, none⟩) 0 0 (zs.drop 1024)) := SL
       have SEP : Hid (∀ b o, 0 < 0 → some ⟨ga, 1024, none⟩ = some (⟨b, o, none⟩ : Addr) → ¬ QX.S ⟨L1, jb1, lv1, rs1⟩ b) := fun b o h => absurd h (by decide)
       have SLK : Hid (∀ w', Keeps (QX.S ⟨L1, jb1, lv1, rs1⟩) wv w' → Bs w' (some ⟨ga, 1024, none⟩) (0) (0) (zs.drop (1024))) := fun w' hk => SL.out.keeps hk (fun b off h0 _ e => SEP.out b off h0 e)
       clear SEP
       go_wp2_with fail
       refine (rsget_any (some ⟨ga, 1024, none⟩) (0) (0) _ wv SL.out (by omega)).mono ?_
       rintro e w2 ⟨k, s', v, bl2, m, ok, rfl, o2, k2, hg⟩
       obtain ⟨A2, c2, rfl, b2, in2⟩ := o2.shape
       have l2 := b2.le
       have m2 := b2.max
       have B2 := Lib.hid b2
       have I2 := Lib.hid in2
       have K2 := Lib.hid k2
       obtain ⟨n2, HN2⟩ : ∃ x, Hid (bl2.length = x) := ⟨_, rfl⟩
       rw [HN2.out] at l2 B2 ⊢
       clear o2 k2 b2 in2
       by_cases hpush : ok = true ∧ k ≠ 1
       ·exact tl123 _
       ·have PE : Hid (parseF (G + 1) zs (1024) = ([], (1024))) := by
         exact tl124 _
        clear hg
        cases ok with
        | false =>
         skip
         have J3 := Lib.hid (T1.out.later (K2.out.alloc (.cells #[.int .i64 (k), .int .i64 s', .slice A2 n2 c2] 95)))
         exact tl246 _
        | true =>
         obtain rfl : k = 1 := Classical.byContradiction fun hk => hpush ⟨rfl, hk⟩
         have J3 := Lib.hid (T1.out.later (K2.out.alloc (.cells #[.int .i64 (1), .int .i64 s', .slice A2 n2 c2] 95)))
         exact tl246 _
      ·have SL : Hid (Bs wv (some ⟨ga, 1024 + u, none⟩) (1024 - u) (cap - u) (zs.drop u)) := by have := BV.out.drop (k := u) (by omega); first | exact this | (rw [Nat.zero_add] at this; exact this)
       have SEP : Hid (∀ b o, 0 < 1024 - u → some ⟨ga, 1024 + u, none⟩ = some (⟨b, o, none⟩ : Addr) → ¬ QX.S ⟨L1, jb1, lv1, rs1⟩ b) := fun b o _ e hS => by cases e; exact NS1.out hS
       have SLK : Hid (∀ w', Keeps (QX.S ⟨L1, jb1, lv1, rs1⟩) wv w' → Bs w' (some ⟨ga, 1024 + u, none⟩) (1024 - u) (cap - u) (zs.drop (u))) := fun w' hk => SL.out.keeps hk (fun b off h0 _ e => SEP.out b off h0 e)
       clear SEP
       go_wp2_with fail
       refine (rsget_any (some ⟨ga, 1024 + u, none⟩) (1024 - u) (cap - u) _ wv SL.out (by omega)).mono ?_
       rintro e w2 ⟨k, s', v, bl2, m, ok, rfl, o2, k2, hg⟩
       obtain ⟨A2, c2, rfl, b2, in2⟩ := o2.shape
       have l2 := b2.le
       have m2 := b2.max
       have B2 := Lib.hid b2
       have I2 := Lib.hid in2
       have K2 := Lib.hid k2
       obtain ⟨n2, HN2⟩ : ∃ x, Hid (bl2.length = x) := ⟨_, rfl⟩
       rw [HN2.out] at l2 B2 ⊢
       clear o2 k2 b2 in2
       by_cases hpush : ok = true ∧ k ≠ 1
       ·exact tl243 _
       ·have PE : Hid (parseF (G + 1) zs (u) = ([], (u))) := by
         exact tl124 _
        clear hg
        cases ok with
        | false =>
         skip
         have J3 := Lib.hid (T1.out.later (K2.out.alloc (.cells #[.int .i64 (k), .int .i64 s', .slice A2 n2 c2] 95)))
         exact tl247 _
        | true =>
         obtain rfl : k = 1 := Classical.byContradiction fun hk => hpush ⟨rfl, hk⟩
         have J3 := Lib.hid (T1.out.later (K2.out.alloc (.cells #[.int .i64 (1), .int .i64 s', .slice A2 n2 c2] 95)))
         exact tl247 _
open Go.RowKit
theorem run_zeros_onto (w : World) (g : Nat) (zs : List Int) (m k : Nat) (T : TypeId) (hb : Blk w g (zs.map (Value.int .u8)) T) (hz : ∀ z ∈ zs, 0 ≤ z ∧ z ≤ 255) (hm : zs.length = m) (h0 : 0 < m) (hk : 0 < k) (hmk : m + k ≤ 64) :
    ∃ cap' w', (Builtin.append_ #[37, 3] 37 #[.slice (some ⟨g, 0, none⟩) m m, .int .i64 (k : Int)]).run Tryz.prog w = .ok (.slice (some ⟨w.heap.size, 0, none⟩) (m + k) cap') w' ∧ Own w' w.heap.size (.slice (some ⟨w.heap.size, 0, none⟩) (m + k) cap') (zs ++ List.replicate k 0) ∧ Keeps None w w' := by
 obtain ⟨i, hi, hz0, hz1, hz2⟩ := info_parts Tryz.info5
 have hold : (Builtin.firstCells i.size m (.slice (some ⟨g, 0, none⟩) m m)).run Tryz.prog w.drew = .ok (zs.map (Value.int .u8)).toArray w.drew :=
  run_firstCells_some w.drew i.size m ⟨g, 0, none⟩ m m (zs.map (Value.int .u8)) (by rw [hz1, Nat.mul_one, List.length_map, hm]) (fun j v hv => by
   have := hb.drew.cellD j v hv
   have e : (⟨g, 0, none⟩ : Addr).add j = ⟨g, j, none⟩ := by cases j <;> simp [Addr.add]
   rw [e]; exact this)
 have hrz := Lib.run_append_grow_zeros (P := Tryz.prog) w 37 3 37 5 i (.int .u8 0) .i64 .i64 Tryz.underlying37 Tryz.underlying3 hi hz0 (some ⟨g, 0, none⟩) m m (zs.map (Value.int .u8)) hold k hk (by omega) (by omega) (by omega) (by rw [hz2]; omega) (growslice_fits (by omega) (by rw [hz2]; omega))
 have hG1 := grownCap_ge w (m + k) m 5
 have hG2 := grownCap_le_maxLen w (m + k) m 5 (by unfold maxLen; omega)
 have hl : (zs ++ List.replicate k (0 : Int)).length = m + k := by simp [hm]
 refine ⟨_, _, hrz, ?_, (Keeps.refl None w).drew.alloc _⟩
 refine ⟨⟨by simp, .inr ⟨w.heap.size, _, _, by rw [hl], Nat.le_refl _, heap_alloc_new w.drew _, by rw [hl]; exact hG1, hG2, ?_, ?_⟩⟩, ?_⟩
 ·simp [size_zeroCells, Value.cells, hm]
  omega
 ·rw [hl]
  have hz' : (Builtin.zeroCells (Value.int .u8 0).cells k).toList = List.replicate k (Value.int .u8 0) := by
   simp [Builtin.zeroCells, Value.cells, Nat.mod_one, List.map_const']
  simp only [List.map_append, List.map_replicate, Array.toList_append, hz']
  rw [List.append_assoc, List.take_append, List.take_of_length_le (by simp [hm]), List.take_append]
  simp [hm]
 ·intro y hy
  rcases List.mem_append.1 hy with hy | hy
  ·exact hz y hy
  ·rw [List.eq_of_mem_replicate hy]; decide
theorem wpList_zeros {ops : Array Oper} {rest : List Oper} {o : Oper} {a : Act} {w : World} {Q : Exit → Act → World → Prop} {s x : Operand} (g : Nat) (zs : List Int) (m k n : Nat) (T : TypeId) (hb : Blk w g (zs.map (Value.int .u8)) T) (hz : ∀ z ∈ zs, 0 ≤ z ∧ z ≤ 255) (hm : zs.length = m) (hn : m + k = n) (h0 : 0 < m) (hk : 0 < k) (hmk : m + k ≤ 64)
    (hg : o.guard = none) (hty : o.type = 37) (ho : o.op = .call { callee := .builtin .append, args := #[s, x], argTypes := #[37, 3] }) (h1 : a.eval s = .slice (some ⟨g, 0, none⟩) m m) (h2 : a.eval x = .int .i64 (k : Int))
    (h : ∀ A cap' w', Own w' w.heap.size (.slice A n cap') (zs ++ List.replicate k 0) → Keeps None w w' → wpList Tryz.prog ops Q rest (a.put o.dst (.slice A n cap')) w') : wpList Tryz.prog ops Q (o :: rest) a w := by
 subst hn
 obtain ⟨cap', w', hr, h3, h4⟩ := run_zeros_onto w g zs m k T hb hz hm h0 hk hmk
 rw [← hty] at hr
 exact Lib.wpList_append_run w hg s x 37 3 ho _ _ h1 h2 _ w' (by simpa [hty] using hr) (h _ cap' w' h3 h4)
theorem low8_any (n : Nat) (h : n < 18446744073709551616) (w : World) : Calls Tryz.prog 62 #[.int .u64 (n : Int), .int .i64 8] w (Cloned w (lowL 8 n)) := rslow_any n 8 w h (by decide)
open Go.RowKit
theorem own_app_len {w : World} {B a b n : Nat} {v : Value} {zs ys : List Int} (_ : Own w B v (zs ++ ys)) (h1 : zs.length = a) (h2 : ys.length = b) (e : a + b = n) : Hid ((zs ++ ys).length = n) := Lib.hid (by rw [List.length_append, h1, h2, e])
theorem tl250 (P : Prop) (h : P := by
 have HP : Hid (comL c = []) := if_neg (fun h => by obtain ⟨f1, f2, f3, f4⟩ := h; omega)
 go_enter Tryz.func36, Tryz.ntmps36
 go_wp2
 go_ret
 exact ⟨_, rfl, by rw [HP.out]; exact Own.nil _ _, (Keeps.refl _ _).alloc _⟩) : P := h
theorem tl249 (P : Prop) (h : P := by
 have e1 : (c.slot != 0) = false := by simp [g1]
 exact tl250 _) : P := h
theorem tl251 (P : Prop) (h : P := by
 have e2 : (c.slot != 1) = false := by simp [g2]
 exact tl250 _) : P := h
theorem tl252 (P : Prop) (h : P := by
 have e2 : (c.slot != 1) = true := by simpa using g2
 exact tl250 _) : P := h
theorem tl248 (P : Prop) (h : P := by
 by_cases g1 : c.slot = 0
 ·exact tl249 _
 have e1 : (c.slot != 0) = true := by simpa using g1
 by_cases g2 : c.slot = 1
 ·exact tl251 _
 exact tl252 _) : P := h
theorem tl254 (P : Prop) (h : P := by
 have X10 := Lib.hid (X9.out.trans hk10 (T := None) (fun _ h => h) (fun i hi e => absurd e (O9.out.notBelow hi)))
 clear ho10 hk10
 go_wp2
 refine MixK.on (InS.mk ((nH.out _).2 ((CC.out _ X10.out)))) ?_
 refine wpMix_seg 1 (by kernel_rfl) (by decide) ?_
 simp only [tds]
 repeat (go_big_quiet_step (fail))
 refine wpQuiet_nil ?_
 refine wpMix_nil ?_
 clear nk0 nn nH
 have K10 := Lib.hid (KB.out.trans X10.out (T := None) (fun _ h => h) (fun _ _ h => h))
 go_wp2
 go_ret
 exact ⟨_, rfl, O10.out, K10.out⟩) : P := h
set_option maxRecDepth 100000 in
theorem tl253 (P : Prop) (h : P := by
 clear o3 k3 a0 a1 a2 a3 HWB HS
 have CB : Hid (∀ w2, Keeps None wb w2 → w2.cell? ⟨w.heap.size, 1, none⟩ = some (.int .u64 (c.ver : Int)) ∧ w2.cell? ⟨w.heap.size, 2, none⟩ = some (.int .u64 (c.fl : Int))) := fun w2 k => ⟨(k.blk BL.out (fun h => h)).cellD 1 _ rfl, (k.blk BL.out (fun h => h)).cellD 2 _ rfl⟩
 have CC : Hid (∀ w2, Keeps None wb w2 → w2.cell? ⟨w.heap.size, 3, none⟩ = some (.int .i64 (ln : Int))) := fun w2 k => (k.blk BL.out (fun h => h)).cellD 3 _ HC.out
 have ARR : Hid (∀ w2, Keeps None wb w2 → Bs w2 (some ⟨w.heap.size, 4, none⟩) 64 64 c.me) := fun w2 k => ⟨ML.out, Nat.le_refl _, by decide, (fun e => by cases e), MB.out, fun _ => ⟨w.heap.size, 4, rfl, (k.blk BL.out (fun h => h)).lt, fun i hi => (k.blk BL.out (fun h => h)).cellD (4 + i) _ (ME.out i hi)⟩⟩
 go_wp2
 obtain ⟨mS, mh⟩ : ∃ S : World → Prop, ∀ w', S w' ↔ (w'.cell? ⟨w.heap.size, 1, none⟩ = some (.int .u64 (c.ver : Int)) ∧ w'.cell? ⟨w.heap.size, 2, none⟩ = some (.int .u64 (c.fl : Int))) := ⟨_, fun _ => Iff.rfl⟩
 have mk0 : ∀ x : Memb mS, x.at_.cell? ⟨w.heap.size, 1, none⟩ = some (.int .u64 (c.ver : Int)) := fun x => ((mh _).1 x.is).1
 have mk1 : ∀ x : Memb mS, x.at_.cell? ⟨w.heap.size, 2, none⟩ = some (.int .u64 (c.fl : Int)) := fun x => ((mh _).1 x.is).2
 have mn : Nonempty (Memb mS) := ⟨⟨(w3).drew, (mh _).2 ⟨(CB.out _ X3.out.drew).1, (CB.out _ X3.out.drew).2⟩⟩⟩
 have mH := Lib.hid mh
 clear mh
 refine wp_region_mix [3, 4, 7, 8] (InS mS) (by kernel_rfl) (by kernel_rfl) (InS.mk ((mH.out _).2 ⟨(CB.out _ X3.out.drew).1, (CB.out _ X3.out.drew).2⟩)) ?_
 refine wpMix_seg 3 (by kernel_rfl) (by decide) ?_
 simp only [tds]
 repeat (go_big_quiet_step (fail))
 refine wpQuiet_nil ?_
 refine wpMix_eff (by kernel_rfl) ?_
 go_wp2_with fail
 refine (N2.out _).mono ?_
 rintro e w4 ⟨v4, rfl, o4, k4⟩
 obtain ⟨A4, cap4, rfl, bs4, -⟩ := o4.shape
 rw [lowL_len] at bs4 ⊢
 have X4 := Lib.hid (X3.out.drew.trans k4 (T := None) (fun _ h => h) (fun _ _ h => h))
 have O4 := Lib.hid (O3.out.drew.keeps k4 (fun _ _ h => h))
 have C4 := Lib.hid bs4
 clear o4 k4 bs4
 go_wp2
 refine MixK.on (InS.mk ((mH.out _).2 (⟨(CB.out _ X4.out).1, (CB.out _ X4.out).2⟩))) ?_
 refine wpMix_eff (by kernel_rfl) ?_
 go_wp2_with (at_builtin; refine Hid.out ?_)
 refine Lib.hid ?_
 refine wpList_append_bs O4.out C4.out (by rw [L3.out]; decide) X4.out.size rfl rfl rfl rfl rfl ?_
 intro v5 w5 ho5 hk5
 have L5 := own_app_len ho5 L3.out (lowL_len 8 _) (n := 16) rfl
 obtain ⟨A5, cap5, rfl, -, -⟩ := ho5.shape
 rw [L5.out] at ho5 ⊢
 have O5 := Lib.hid ho5
 have X5 := Lib.hid (X4.out.trans hk5 (T := None) (fun _ h => h) (fun i hi e => absurd e (O4.out.notBelow hi)))
 clear ho5 hk5 O4 C4
 go_wp2
 refine MixK.on (InS.mk ((mH.out _).2 (⟨(CB.out _ X5.out).1, (CB.out _ X5.out).2⟩))) ?_
 refine wpMix_seg 2 (by kernel_rfl) (by decide) ?_
 simp only [tds]
 repeat (go_big_quiet_step (fail))
 refine wpQuiet_nil ?_
 refine wpMix_eff (by kernel_rfl) ?_
 go_wp2_with fail
 refine (N3.out _).mono ?_
 rintro e w6 ⟨v6, rfl, o6, k6⟩
 obtain ⟨A6, cap6, rfl, bs6, -⟩ := o6.shape
 rw [lowL_len] at bs6 ⊢
 have X6 := Lib.hid (X5.out.trans k6 (T := None) (fun _ h => h) (fun _ _ h => h))
 have O6 := Lib.hid (O5.out.keeps k6 (fun _ _ h => h))
 have C6 := Lib.hid bs6
 clear o6 k6 bs6
 go_wp2
 refine MixK.on (InS.mk ((mH.out _).2 (⟨(CB.out _ X6.out).1, (CB.out _ X6.out).2⟩))) ?_
 refine wpMix_eff (by kernel_rfl) ?_
 go_wp2_with (at_builtin; refine Hid.out ?_)
 refine Lib.hid ?_
 refine wpList_append_bs O6.out C6.out (by rw [L5.out]; decide) X6.out.size rfl rfl rfl rfl rfl ?_
 intro v7 w7 ho7 hk7
 have L7 := own_app_len ho7 L5.out (lowL_len 8 _) (n := 24) rfl
 obtain ⟨A7, cap7, rfl, -, -⟩ := ho7.shape
 rw [L7.out] at ho7 ⊢
 have O7 := Lib.hid ho7
 have X7 := Lib.hid (X6.out.trans hk7 (T := None) (fun _ h => h) (fun i hi e => absurd e (O6.out.notBelow hi)))
 clear ho7 hk7 O6 C6
 go_wp2
 refine MixK.on (InS.mk ((mH.out _).2 (⟨(CB.out _ X7.out).1, (CB.out _ X7.out).2⟩))) ?_
 refine wpMix_seg 1 (by kernel_rfl) (by decide) ?_
 simp only [tds]
 repeat (go_big_quiet_step (fail))
 refine wpQuiet_nil ?_
 refine wpMix_nil ?_
 clear mk0 mk1 mn mH
 clear CB
 go_wp2
 obtain ⟨nS, nh⟩ : ∃ S : World → Prop, ∀ w', S w' ↔ (w'.cell? ⟨w.heap.size, 3, none⟩ = some (.int .i64 (ln : Int))) := ⟨_, fun _ => Iff.rfl⟩
 have nk0 : ∀ x : Memb nS, x.at_.cell? ⟨w.heap.size, 3, none⟩ = some (.int .i64 (ln : Int)) := fun x => ((nh _).1 x.is)
 have nn : Nonempty (Memb nS) := ⟨⟨(w7).drew, (nh _).2 (CC.out _ X7.out.drew)⟩⟩
 have nH := Lib.hid nh
 clear nh
 refine wp_region_mix [4, 5, 8] (InS nS) (by kernel_rfl) (by kernel_rfl) (InS.mk ((nH.out _).2 (CC.out _ X7.out.drew))) ?_
 refine wpMix_seg 4 (by kernel_rfl) (by decide) ?_
 simp only [tds]
 repeat (go_big_quiet_step (fail))
 refine wpQuiet_nil ?_
 refine wpMix_eff (by kernel_rfl) ?_
 go_wp2_with fail
 refine (N4.out _).mono ?_
 rintro e w8 ⟨v8, rfl, o8, k8⟩
 obtain ⟨A8, cap8, rfl, bs8, -⟩ := o8.shape
 rw [lowL_len] at bs8 ⊢
 have X8 := Lib.hid (X7.out.drew.trans k8 (T := None) (fun _ h => h) (fun _ _ h => h))
 have O8 := Lib.hid (O7.out.drew.keeps k8 (fun _ _ h => h))
 have C8 := Lib.hid bs8
 clear o8 k8 bs8
 go_wp2
 refine MixK.on (InS.mk ((nH.out _).2 ((CC.out _ X8.out)))) ?_
 refine wpMix_eff (by kernel_rfl) ?_
 go_wp2_with (at_builtin; refine Hid.out ?_)
 refine Lib.hid ?_
 refine wpList_append_bs O8.out C8.out (by rw [L7.out]; decide) X8.out.size rfl rfl rfl rfl rfl ?_
 intro v9 w9 ho9 hk9
 have L9 := own_app_len ho9 L7.out (lowL_len 8 _) (n := 32) rfl
 obtain ⟨A9, cap9, rfl, -, -⟩ := ho9.shape
 rw [L9.out] at ho9 ⊢
 have O9 := Lib.hid ho9
 have X9 := Lib.hid (X8.out.trans hk9 (T := None) (fun _ h => h) (fun i hi e => absurd e (O8.out.notBelow hi)))
 clear ho9 hk9 O8 C8
 go_wp2
 refine MixK.on (InS.mk ((nH.out _).2 ((CC.out _ X9.out)))) ?_
 refine wpMix_seg 2 (by kernel_rfl) (by decide) ?_
 simp only [tds]
 repeat (go_big_quiet_step (fail))
 refine wpQuiet_nil ?_
 refine wpMix_eff (by kernel_rfl) ?_
 go_wp2_with (at_builtin; refine Hid.out ?_)
 refine Lib.hid ?_
 refine wpList_append_bs O9.out (ARR.out _ X9.out) (by rw [L9.out]; decide) X9.out.size rfl rfl rfl rfl rfl ?_
 intro v10 w10 ho10 hk10
 have O10 : Hid (Own w10 w.heap.size v10 (comL c)) := by (rw [HQ.out]; exact ho10.lower KB.out.size)
 exact tl254 _) : P := h
set_option maxRecDepth 100000 in
set_option maxHeartbeats 1600000 in
theorem rgputc_any (c : Com) (o : c.ok) (w : World) : Calls Tryz.prog 36 #[c.v] w (Cloned w (comL c)) := by
 unfold Com.v
 have a0 : c.cs.toArray[0]? = some (.int .i64 c.slot) := rfl
 have a1 : c.cs.toArray[1]? = some (.int .u64 (c.ver : Int)) := rfl
 have a2 : c.cs.toArray[2]? = some (.int .u64 (c.fl : Int)) := rfl
 have a3 : c.cs.toArray[3]? = some (.int .i64 c.len) := rfl
 have BL := Lib.hid (Blk.new w c.cs 41)
 have ML := Lib.hid o.ml
 have MB := Lib.hid o.mb
 have ME := Lib.hid (show ∀ i, i < 64 → c.cs[4 + i]? = some (.int .u8 (c.me.getD i 0)) from fun i hi => by
  rw [Nat.add_comm, show c.cs[i + 4]? = (c.me.map (.int .u8))[i]? from rfl]
  exact map_getD 0 (by rw [o.ml]; exact hi))
 have VV := Lib.hid o.v
 have FF := Lib.hid o.f
 obtain ⟨A, hA⟩ : ∃ A, c.cs.toArray = A := ⟨_, rfl⟩
 rw [hA] at a0 a1 a2 a3 BL ⊢
 clear hA o
 by_cases g3 : c.len < 0
 ·have d3 : decide (c.len < 0) = true := decide_eq_true g3
  exact tl248 _
 have d3 : decide (c.len < 0) = false := decide_eq_false g3
 by_cases g4 : 2147483647 < c.len
 ·have d4 : decide (2147483647 < c.len) = true := decide_eq_true g4
  exact tl248 _
 have d4 : decide (2147483647 < c.len) = false := decide_eq_false g4
 by_cases g1 : c.slot = 0
 ·skip
  have HP : Hid (comL c = lowL 8 0 ++ (lowL 8 c.ver ++ (lowL 8 c.fl ++ (lowL 8 c.len.toNat ++ c.me)))) := by rw [show comL c = _ from if_pos ⟨by omega, by omega, by omega, by omega⟩, g1]; rfl
  obtain ⟨ln, hln⟩ : ∃ n : Nat, c.len = n := ⟨c.len.toNat, by omega⟩
  have N2 := Lib.hid (fun w => low8_any c.ver VV.out w)
  have N3 := Lib.hid (fun w => low8_any c.fl FF.out w)
  have N4 := Lib.hid (fun w => low8_any ln (by omega) w)
  rw [g1] at a0
  rw [hln] at a3 d3 d4
  have HQ : Hid (comL c = ((([0] ++ List.replicate 7 0) ++ lowL 8 c.ver) ++ lowL 8 c.fl) ++ lowL 8 ln ++ c.me) := by
   show _ = _
   rw [HP.out, hln]
   simp only [List.append_assoc]
   rfl
  have HC : Hid (c.cs[3]? = some (.int .i64 (ln : Int))) := by show _ = _; rw [← hln]; rfl
  have l1 : ln ≤ 2147483647 := by omega
  clear HP hln g3 g4 g1
  go_enter Tryz.func36, Tryz.ntmps36
  obtain ⟨wb, hwb⟩ : ∃ x, w.alloc (.cells A 41) = x := ⟨_, rfl⟩
  have KB : Hid (Keeps None w wb) := by rw [← hwb]; exact (Keeps.refl None w).alloc _
  have HS : Hid (wb.heap.size = w.heap.size + 1) := by show _ = _; rw [← hwb]; simp
  rw [hwb] at BL
  have HWB := Lib.hid hwb
  clear hwb
  go_wp2_with (at_builtin; refine Hid.out ?_)
  rw [HWB.out, ← HS.out]
  refine Lib.hid ?_
  refine wpList_zeros wb.heap.size [0] 1 7 8 5 (Blk.new wb [.int .u8 0] 5) (by intro z hz; rw [List.mem_singleton.1 hz]; decide) rfl rfl (by decide) (by decide) (by decide) (by rfl) (by rfl) (by rfl) (by rfl) (by rfl) ?_
  intro A3 cap3 w3 o3 k3
  have O3 : Hid (Own w3 wb.heap.size (.slice A3 8 cap3) ([0] ++ List.replicate 7 0)) := o3.lower (by simp)
  have X3 : Hid (Keeps None wb w3) := ((Keeps.refl None wb).alloc _).trans k3 (fun _ h => h) (fun _ _ h => h)
  have L3 : Hid (([0] ++ List.replicate 7 0 : List Int).length = 8) := rfl
  exact tl253 _
 by_cases g2 : c.slot = 1
 ·have g1 := g2
  have HP : Hid (comL c = lowL 8 1 ++ (lowL 8 c.ver ++ (lowL 8 c.fl ++ (lowL 8 c.len.toNat ++ c.me)))) := by rw [show comL c = _ from if_pos ⟨by omega, by omega, by omega, by omega⟩, g1]; rfl
  obtain ⟨ln, hln⟩ : ∃ n : Nat, c.len = n := ⟨c.len.toNat, by omega⟩
  have N2 := Lib.hid (fun w => low8_any c.ver VV.out w)
  have N3 := Lib.hid (fun w => low8_any c.fl FF.out w)
  have N4 := Lib.hid (fun w => low8_any ln (by omega) w)
  rw [g1] at a0
  rw [hln] at a3 d3 d4
  have HQ : Hid (comL c = ((([1] ++ List.replicate 7 0) ++ lowL 8 c.ver) ++ lowL 8 c.fl) ++ lowL 8 ln ++ c.me) := by
   show _ = _
   rw [HP.out, hln]
   simp only [List.append_assoc]
   rfl
  have HC : Hid (c.cs[3]? = some (.int .i64 (ln : Int))) := by show _ = _; rw [← hln]; rfl
  have l1 : ln ≤ 2147483647 := by omega
  clear HP hln g3 g4 g1
  go_enter Tryz.func36, Tryz.ntmps36
  obtain ⟨wb, hwb⟩ : ∃ x, w.alloc (.cells A 41) = x := ⟨_, rfl⟩
  have KB : Hid (Keeps None w wb) := by rw [← hwb]; exact (Keeps.refl None w).alloc _
  have HS : Hid (wb.heap.size = w.heap.size + 1) := by show _ = _; rw [← hwb]; simp
  rw [hwb] at BL
  have HWB := Lib.hid hwb
  clear hwb
  go_wp2_with (at_builtin; refine Hid.out ?_)
  rw [HWB.out, ← HS.out]
  refine Lib.hid ?_
  refine wpList_zeros wb.heap.size [1] 1 7 8 5 (Blk.new wb [.int .u8 1] 5) (by intro z hz; rw [List.mem_singleton.1 hz]; decide) rfl rfl (by decide) (by decide) (by decide) (by rfl) (by rfl) (by rfl) (by rfl) (by rfl) ?_
  intro A3 cap3 w3 o3 k3
  have O3 : Hid (Own w3 wb.heap.size (.slice A3 8 cap3) ([1] ++ List.replicate 7 0)) := o3.lower (by simp)
  have X3 : Hid (Keeps None wb w3) := ((Keeps.refl None wb).alloc _).trans k3 (fun _ h => h) (fun _ _ h => h)
  have L3 : Hid (([1] ++ List.replicate 7 0 : List Int).length = 8) := rfl
  exact tl253 _
 have e1 : (c.slot != 0) = true := by simpa using g1
 exact tl252 _
open Go.RowKit
def fillTo (src : List Int) (n k : Nat) : List Int := src.take k ++ List.replicate (n - k) 0
theorem fillTo_len {src : List Int} {n k : Nat} (h : src.length = n) (hk : k ≤ n) : (fillTo src n k).length = n := by simp [fillTo]; omega
theorem fillTo_all {src : List Int} {n : Nat} (h : src.length = n) : fillTo src n n = src := by simp [fillTo, List.take_of_length_le (Nat.le_of_eq h)]
theorem fillTo_set {src : List Int} {n k : Nat} (h : src.length = n) (hk : k < n) : (fillTo src n k).set k (src.getD k 0) = fillTo src n (k + 1) := by
 unfold fillTo
 obtain ⟨d, hd⟩ : ∃ d, n - k = d + 1 := ⟨n - k - 1, by omega⟩
 rw [hd, show n - (k + 1) = d by omega, List.replicate_succ, List.set_append_right _ _ (by rw [List.length_take]; omega), List.length_take, Nat.min_eq_left (by omega), Nat.sub_self, List.set_cons_zero, List.take_add_one, List.append_assoc, List.getElem?_eq_getElem (by omega)]
 simp [List.getD_eq_getElem?_getD, List.getElem?_eq_getElem (show k < src.length by omega)]
def comR (b : List Int) (L : Int) : Com := ⟨b.getD 0 0, part8 b 8, part8 b 16, L, b.drop 32⟩
theorem comR_get {b : List Int} {L : Int} (h : (part8 b 24 ≤ 2147483647 ∧ L = part8 b 24) ∨ (2147483647 < part8 b 24 ∧ (L < 0 ∨ 2147483647 < L))) (hl : b.length = 96) : getCom b = if comL (comR b L) = b then (comR b L, true) else (com0, false) := by
 rcases h with ⟨h1, h2⟩ | ⟨h1, h2⟩
 ·have e : comR b L = comP b := by unfold comR comP smallN; rw [if_pos h1, h2]
  rw [e]
  unfold getCom
  simp [hl]
 ·have e1 : comL (comR b L) = [] := if_neg (fun h => by obtain ⟨-, -, f1, f2⟩ := h; have g1 : 0 ≤ L := f1; have g2 : L ≤ 2147483647 := f2; omega)
  have e2 : comL (comP b) = [] := if_neg (fun h => by
   obtain ⟨-, -, f1, f2⟩ := h
   have e : (comP b).len = -1 := if_neg (by omega)
   rw [e] at f1
   omega)
  unfold getCom
  rw [e1, e2, if_neg (by rintro ⟨-, h⟩; rw [← h] at hl; cases hl), if_neg (by intro h; rw [← h] at hl; cases hl)]
theorem wrap_len {n : Nat} {L : Int} (h : wrap64 (n : Int) = L) (hn : n < 18446744073709551616) : (n ≤ 2147483647 ∧ L = n) ∨ (2147483647 < n ∧ (L < 0 ∨ 2147483647 < L)) := by
 rw [← h]
 unfold wrap64
 omega
theorem Com.cs_me (c : Com) (hm : c.me.length = 64) (k : Nat) (hk : k < 64) : c.cs[4 + k]? = some (.int .u8 (c.me.getD k 0)) := by
 rw [Nat.add_comm]
 show (c.me.map (Value.int .u8))[k]? = _
 exact map_getD 0 (by omega)
theorem Com.cs_set (c : Com) (k : Nat) (z : Int) : c.cs.set (4 + k) (.int .u8 z) = ({ c with me := c.me.set k z } : Com).cs := by
 rw [Nat.add_comm]
 simp [Com.cs, List.map_set]
theorem built_com4 (s : Int) (a b : Nat) (l : Int) : (((Tryz.zeroCells41.setIfInBounds 0 (.int .i64 s)).setIfInBounds 1 (.int .u64 (a : Int))).setIfInBounds 2 (.int .u64 (b : Int))).setIfInBounds 3 (.int .i64 l) = (⟨s, a, b, l, List.replicate 64 0⟩ : Com).cs.toArray := by kernel_rfl
theorem Bs.cellK {w : World} {gb off n cap k : Nat} {zs : List Int} (h : Bs w (some ⟨gb, off, none⟩) n cap zs) (hk : k < n) : w.cell? ⟨gb, off + k, none⟩ = some (.int .u8 (zs.getD k 0)) := by
 obtain ⟨b, o, e, -, hc⟩ := h.at_ (by omega)
 cases e
 exact hc k hk
theorem getD_drop {zs : List Int} {k i : Nat} : (zs.drop k).getD i 0 = zs.getD (k + i) 0 := by
 rw [List.getD_eq_getElem?_getD, List.getElem?_drop, ← List.getD_eq_getElem?_getD]
theorem run_load_com {w : World} {g : Nat} {c : Com} {T : TypeId} (h : Blk w g c.cs T) (hl : c.cs.length = 68) : (Instr.loadAt 41 (.pointer (some ⟨g, 0, none⟩))).run Tryz.prog w = .ok (.agg c.cs.toArray) w :=
  run_loadAt_mid w g 0 41 c.cs _ (blk_range h (fun j v hv => by rw [Nat.zero_add]; exact hv)) Tryz.underlying41 rfl (by rw [hl]; exact com_size)
theorem tl258 (P : Prop) (h : P := by
 rintro w' rfl
 refine ⟨?_, HR.out.setOther _ _ (Nat.ne_of_lt RW.out), HK.out.trans ((Keeps.refl (fun b => b = wb.heap.size) _).setCell _ _ (fun _ => rfl)) (fun _ h => h) (fun b hb e => absurd e (by omega))⟩
 have h := HB.out.set (4 + k) (.int .u8 z)
 rw [Com.cs_set, ← hz, ← getD_drop, fillTo_set HD.out hlt] at h
 rw [← hz, ← getD_drop]
 exact h) : P := h
theorem tl257 (P : Prop) (h : P := by
 obtain ⟨z, hz⟩ : ∃ z, zs.getD (32 + k) 0 = z := ⟨_, rfl⟩
 have zc := (CB.out _ HK.out).2.cellK (k := 32 + k) (by omega)
 rw [hz] at zc
 have oc := HB.out.cellD (4 + k) _ (Com.cs_me _ (fillTo_len HD.out hk64) k hlt)
 have fz := HB.out.frozen (4 + k)
 have B2 : Hid (∀ w', w' = wr.setCell ⟨wb.heap.size, 4 + k, none⟩ (.int .u8 z) → Blk w' wb.heap.size (⟨(c0 : Int), part8 zs 8, part8 zs 16, L, fillTo (zs.drop 32) 64 (k + 1)⟩ : Com).cs 41 ∧ Blk w' w.heap.size com0.cs 41 ∧ Keeps None wb w') := by
  exact tl258 _
 clear HB HR HK hz
 go_wp2
 go_roundw
 case rel =>
  obtain ⟨r1, r2, r3⟩ := B2.out _ rfl
  exact ⟨k + 1, by omega, by go_num, r1, r2, r3⟩
 case measure => simp [intOf]; omega) : P := h
theorem tl260 (P : Prop) (h : P := by
 have h := HB.out
 rw [← HC0.out, show (⟨zs.getD 0 0, part8 zs 8, part8 zs 16, L, zs.drop 32⟩ : Com) = comR zs L from rfl, hD] at h
 exact h) : P := h
theorem tl261 (P : Prop) (h : P := by
 rw [decide_eq_true hq] at E2
 rw [if_pos hq] at GD
 rw [E2]
 go_wp2_with (first | (refine wpList_load_blk (b := wb.heap.size) (o := 0) (ds := D.cs) B7.out (fun j v hv => by rw [Nat.zero_add]; exact hv) rfl rfl rfl Tryz.underlying41 rfl (by rw [Com.cs_len DO.out]; exact com_size) ?_) | (refine wpList_store_blk (b := w.heap.size) (o := 0) (ds := D.cs) R7.out (by rw [Com.cs_len DO.out]; decide) (Com.cs_one _) rfl rfl rfl rfl (by rw [Com.cs_len DO.out]; exact com_size) ?_))
 intro w6 b6 k6
 rw [splice_all (by rw [Com.cs_len DO.out]; rfl)] at b6
 have B6 := Lib.hid b6
 have K6 := Lib.hid (KE.out.trans k6 (T := None) (fun _ h => h) (fun b hb e => absurd e (by omega)))
 clear b6 k6 R7 B7 KE E2
 go_wp2
 refine bodyPost_ret (cell_res rfl _ B6.out Tryz.underlying41 rfl (by rw [Com.cs_len DO.out]; exact com_size) rfl rfl) rfl ?_
 exact ⟨by rw [GD.out]; rfl, K6.out⟩) : P := h
theorem tl262 (P : Prop) (h : P := by
 rw [decide_eq_false hq] at E2
 rw [if_neg hq] at GD
 rw [E2]
 go_wp2_with (refine wpList_store_blk (b := w.heap.size) (o := 0) (ds := com0.cs) R7.out (by decide) (Com.cs_one _) rfl rfl rfl (by rw [← com_zero]; rfl) com_size ?_)
 intro w6 b6 k6
 rw [splice_all rfl] at b6
 have B6 := Lib.hid b6
 have K6 := Lib.hid (KE.out.trans k6 (T := None) (fun _ h => h) (fun b hb e => absurd e (by omega)))
 clear b6 k6 R7 B7 KE E2
 go_wp2
 refine bodyPost_ret (cell_res rfl _ B6.out Tryz.underlying41 rfl com_size rfl rfl) rfl ?_
 exact ⟨by rw [GD.out]; rfl, K6.out⟩) : P := h
set_option maxRecDepth 100000 in
theorem tl259 (P : Prop) (h : P := by
 obtain rfl : k = 64 := by omega
 rw [fillTo_all HD.out] at HB
 obtain ⟨D, hD⟩ : ∃ D : Com, comR zs L = D := ⟨_, rfl⟩
 have GD : Hid (getCom zs = if comL D = zs then (D, true) else (com0, false)) := by rw [← hD]; exact GC.out
 have DO : Hid D.ok := by rw [← hD]; exact COK.out
 have BD : Hid (Blk wr wb.heap.size D.cs 41) := by
  exact tl260 _
 clear HB GC COK hD hlt
 have PUT := Lib.hid (fun w => rgputc_any D DO.out w)
 unfold Com.v at PUT
 have HZr := Lib.hid (CB.out _ HK.out).2
 obtain ⟨sz, hsz⟩ : ∃ x, strOf zs = x := ⟨_, rfl⟩
 obtain ⟨sc, hsc⟩ : ∃ x, strOf (comL D) = x := ⟨_, rfl⟩
 have EQ : Hid (Byt (comL D) → (sc.toList == sz.toList) = decide (comL D = zs)) := fun hb => by rw [← hsz, ← hsc]; exact strOf_beq hb HZr.out.byte
 have HSZ := Lib.hid hsz
 have HSC := Lib.hid hsc
 clear hsz hsc
 go_wp2
 obtain ⟨qS, qh⟩ : ∃ S : World → Prop, ∀ w', S w' ↔ (((Instr.loadAt 41 (.pointer (some ⟨wb.heap.size, 0, none⟩))).run Tryz.prog w' = .ok (.agg D.cs.toArray) w') ∧ ((convert 37 9 (.slice (some ⟨gb, off, none⟩) 96 cap)).run Tryz.prog w' = .ok (.string sz) w')) := ⟨_, fun _ => Iff.rfl⟩
 have qk0 : ∀ x : Memb qS, (Instr.loadAt 41 (.pointer (some ⟨wb.heap.size, 0, none⟩))).run Tryz.prog x.at_ = .ok (.agg D.cs.toArray) x.at_ := fun x => ((qh _).1 x.is).1
 have qk1 : ∀ x : Memb qS, (convert 37 9 (.slice (some ⟨gb, off, none⟩) 96 cap)).run Tryz.prog x.at_ = .ok (.string sz) x.at_ := fun x => ((qh _).1 x.is).2
 have qn : Nonempty (Memb qS) := ⟨⟨(wr).drew, (qh _).2 ⟨run_load_com BD.out.drew (Com.cs_len DO.out), HSZ.out ▸ run_str HZr.out.drew⟩⟩⟩
 have qH := Lib.hid qh
 clear qh
 refine wp_region_mix2 [1] (InS qS) (by kernel_rfl) (by kernel_rfl) (InS.mk ((qH.out _).2 ⟨run_load_com BD.out.drew (Com.cs_len DO.out), HSZ.out ▸ run_str HZr.out.drew⟩)) ?_
 refine wpMix2_seg 1 (InS qS) (by kernel_rfl) (by decide) (cl_base [] rfl (by kernel_rfl)) ?_
 simp only [tds]
 repeat (first | go_big_quiet_step (fail) | (go_big_quiet_want; first | refine quiet_load qk0 rfl rfl rfl aput ?_; go_big_quiet_on | refine quiet_conv qk1 rfl rfl rfl aput ?_; go_big_quiet_on))
 refine wpQuiet_nil ?_
 refine wpMix2_eff (by kernel_rfl) ?_
 go_wp2_with fail
 refine (PUT.out _).mono ?_
 rintro e w7 ⟨v7, rfl, o7, k7⟩
 obtain ⟨A7, cap7, rfl, bs7, -⟩ := o7.shape
 have BS7 := Lib.hid bs7
 have B7 := Lib.hid (k7.blk BD.out.drew (fun h => h))
 have R7 := Lib.hid (k7.blk HR.out.drew (fun h => h))
 have S7 := Lib.hid (HZr.out.drew.keeps k7 (fun _ _ _ _ _ h => h))
 have K7 := Lib.hid (HK.out.drew.trans k7 (T := None) (fun _ h => h) (fun _ _ h => h))
 obtain ⟨cl, hcl⟩ : ∃ x, (comL D).length = x := ⟨_, rfl⟩
 rw [hcl] at BS7 ⊢
 clear o7 bs7 k7 hcl
 go_wp2
 obtain ⟨qL2S, qL2h⟩ : ∃ S : World → Prop, ∀ w', S w' ↔ (((convert 37 9 (.slice A7 cl cap7)).run Tryz.prog w' = .ok (.string sc) w')) := ⟨_, fun _ => Iff.rfl⟩
 have qL2k0 : ∀ x : Memb qL2S, (convert 37 9 (.slice A7 cl cap7)).run Tryz.prog x.at_ = .ok (.string sc) x.at_ := fun x => ((qL2h _).1 x.is)
 have qL2n : Nonempty (Memb qL2S) := ⟨⟨_, (qL2h _).2 (HSC.out ▸ run_str BS7.out)⟩⟩
 have qL2H := Lib.hid qL2h
 clear qL2h
 refine MixK2.late (D := InS qL2S) (x := 2) (by kernel_rfl) (cls_cons (InS.mk ((qL2H.out _).2 (HSC.out ▸ run_str BS7.out))) (cls_base (InS.mk ((qH.out _).2 (⟨run_load_com B7.out (Com.cs_len DO.out), HSZ.out ▸ run_str S7.out⟩))))) ?_
 refine wpMix2_seg 1 (InS qL2S) (by kernel_rfl) (by decide) (cl_one rfl) ?_
 simp only [tds]
 repeat (first | go_big_quiet_step (fail) | (go_big_quiet_want; first | refine quiet_load qk0 rfl rfl rfl aput ?_; go_big_quiet_on | refine quiet_conv qk1 rfl rfl rfl aput ?_; go_big_quiet_on | refine quiet_conv qL2k0 rfl rfl rfl aput ?_; go_big_quiet_on))
 refine wpQuiet_nil ?_
 refine wpMix2_seg 3 (InS qS) (by kernel_rfl) (by decide) (cl_base [2] rfl (by kernel_rfl)) ?_
 simp only [tds]
 repeat (first | go_big_quiet_step (fail) | (go_big_quiet_want; first | refine quiet_load qk0 rfl rfl rfl aput ?_; go_big_quiet_on | refine quiet_conv qk1 rfl rfl rfl aput ?_; go_big_quiet_on | refine quiet_conv qL2k0 rfl rfl rfl aput ?_; go_big_quiet_on))
 refine wpQuiet_nil ?_
 refine wpMix2_nil ?_
 clear qk0 qk1 qn qH qL2k0 qL2n qL2H
 have E2 := EQ.out BS7.out.byte
 have KE := Lib.hid (KB.out.trans K7.out (T := None) (fun _ h => h) (fun _ _ h => h))
 clear EQ HSZ HSC PUT BS7 S7 HZr BD HR HK K7
 by_cases hq : comL D = zs
 ·exact tl261 _
 ·exact tl262 _) : P := h
theorem tl256 (P : Prop) (h : P := by
 obtain ⟨k, hk64, rfl, hB, hR, hK⟩ := hrel
 have HB := Lib.hid hB
 have HR := Lib.hid hR
 have HK := Lib.hid hK
 clear hB hR hK N3 R3 K3
 by_cases hlt : k < 64
 ·exact tl257 _
 ·exact tl259 _) : P := h
theorem tl255 (P : Prop) (h : P := by
 refine wpMix_eff (by kernel_rfl) ?_
 go_wp2_with (refine wpList_store_blk (b := wb.heap.size) (o := 0) (ds := C.cs) NB.out (by rw [CL.out]; decide) (Com.cs_one _) rfl rfl rfl (congrArg Value.agg AG.out) (by rw [CL.out]; exact com_size) ?_)
 intro w3 b3 k3
 rw [splice_all (by rw [CL.out]; rfl)] at b3
 have N3 := Lib.hid b3
 have K3 : Hid (Keeps None wb w3) := KC.out.trans k3 (fun _ h => h) (fun b hb e => absurd e (by omega))
 have R3 : Hid (Blk w3 w.heap.size com0.cs 41) := K3.out.blk RB.out (fun h => h)
 clear b3 k3 NB KC
 go_wp2
 refine MixK.on (InS.mk ((mH.out _).2 (((CB.out _ K3.out).1)))) ?_
 refine wpMix_nil ?_
 refine wpPs_nil ?_
 clear mk0 mn mH
 have SZ : wb.heap.size < w3.heap.size := N3.out.lt
 have RW : Hid (w.heap.size < wb.heap.size) := RB.out.lt
 clear CL AG RB KR
 go_wp2
 go_loopw [5] (fun iv wr => ∃ k : Nat, k ≤ 64 ∧ iv = .int .i64 (k : Int) ∧ Blk wr wb.heap.size (⟨(c0 : Int), part8 zs 8, part8 zs 16, L, fillTo (zs.drop 32) 64 k⟩ : Com).cs 41 ∧ Blk wr w.heap.size com0.cs 41 ∧ Keeps None wb wr) (fun iv _ => 64 - (intOf iv).toNat)
 case atStart => exact ⟨0, by decide, rfl, by (have h := N3.out; rw [← HCC.out] at h; exact h), R3.out, K3.out⟩
 case round =>
  exact tl256 _) : P := h
theorem tl263 (P : Prop) (h : P := by
 refine MixK.on (InS.mk ((mH.out _).2 (((CB.out _ KC.out).1)))) ?_
 refine wpMix_nil ?_
 refine wpPs_nil ?_
 refine wpT_leaf (ps := [(0, 4), (10, 5), (16, 1)]) (by kernel_rfl) ?_
 refine wpPs_cons ?_
 try simp only [tds, Nat.reduceSub]
 refine wpMix_seg 4 (by kernel_rfl) (by decide) ?_
 simp only [tds, Nat.reduceSub]
 repeat (go_big_quiet_step (fail))
 refine wpQuiet_nil ?_
 refine wpMix_nil ?_
 refine wpPs_cons ?_
 try simp only [tds, Nat.reduceSub]
 refine wpMix_seg 2 (by kernel_rfl) (by decide) ?_
 simp only [tds, Nat.reduceSub]
 repeat (go_big_quiet_step (fail))
 refine wpQuiet_nil ?_
 refine wpMix_eff (by kernel_rfl) ?_
 go_wp2_with fail
 refine (V3.out _ (((CB.out _ KC.out).2.drop (by decide)).take (by decide))).mono ?_
 rintro e w' ⟨rfl, rfl⟩
 go_wp2
 refine MixK.on (InS.mk ((mH.out _).2 (((CB.out _ KC.out).1)))) ?_
 refine wpMix_seg 2 (by kernel_rfl) (by decide) ?_
 simp only [tds, Nat.reduceSub]
 repeat (go_big_quiet_step (fail))
 refine wpQuiet_nil ?_
 refine wpMix_nil ?_
 refine wpPs_cons ?_
 try simp only [tds, Nat.reduceSub]
 exact tl255 _) : P := h
theorem tl265 (P : Prop) (h : P := by
 refine wpPs_cons ?_
 try simp only [tds, Nat.reduceSub]
 refine wpMix_seg 2 (by kernel_rfl) (by decide) ?_
 simp only [tds, Nat.reduceSub]
 repeat (go_big_quiet_step (fail))
 refine wpQuiet_nil ?_
 refine wpMix_eff (by kernel_rfl) ?_
 go_wp2_with fail
 refine (V2.out _ (((CB.out _ KC.out).2.drop (by decide)).take (by decide))).mono ?_
 rintro e w' ⟨rfl, rfl⟩
 go_wp2
 exact tl263 _) : P := h
theorem tl264 (P : Prop) (h : P := by
 refine MixK.on (InS.mk ((mH.out _).2 (((CB.out _ KC.out).1)))) ?_
 refine wpMix_nil ?_
 refine wpPs_nil ?_
 refine wpT_node1 (us := [(0, 4), (7, 8), (16, 1)]) [(7, 3)] [(0, 4), (10, 5), (16, 1)] (by kernel_rfl) ?_
 ·
  exact tl265 _) : P := h
set_option maxRecDepth 100000 in
set_option maxHeartbeats 6400000 in
theorem rggetc_any (A : Option Addr) (n cap : Nat) (zs : List Int) (w : World) (h : Bs w A n cap zs) :
    Calls Tryz.prog 50 #[.slice A n cap] w fun e w' => e = .returned (.tuple #[(getCom zs).1.v, .bool (getCom zs).2]) ∧ Keeps None w w' := by
 have hle := h.le
 have hmx := h.max
 by_cases hn : n = 96
 case neg =>
  have d1 : ((n : Int) != 96) = true := by simp; omega
  have GN : Hid (getCom zs = (com0, false)) := if_neg (fun hh => hn (by rw [← h.len, hh.1]))
  clear h
  go_enter Tryz.func50, Tryz.ntmps50
  exact tl174 _
 subst hn
 have HZ := Lib.hid h
 have HL := Lib.hid h.len
 obtain ⟨gb, off, rfl, hgb, hcel⟩ := h.at_ (by decide)
 have z0 := hcel 0 (by decide)
 have a0 := h.byte (zs.getD 0 0) (getD_mem 0 (by rw [h.len]; decide))
 obtain ⟨c0, hc0⟩ : ∃ c : Nat, zs.getD 0 0 = c := ⟨(zs.getD 0 0).toNat, by omega⟩
 have HC0 := Lib.hid hc0
 rw [hc0] at z0 a0
 have V1 := Lib.hid (fun w h => rsnumber_any (some ⟨gb, off + 8, none⟩) (16 - 8) (cap - 8) ((zs.drop 8).take 8) w h (by decide))
 have V2 := Lib.hid (fun w h => rsnumber_any (some ⟨gb, off + 16, none⟩) (24 - 16) (cap - 16) ((zs.drop 16).take 8) w h (by decide))
 have V3 := Lib.hid (fun w h => rsnumber_any (some ⟨gb, off + 24, none⟩) (32 - 24) (cap - 24) ((zs.drop 24).take 8) w h (by decide))
 rw [show numN ((zs.drop 8).take 8) = part8 zs 8 from rfl] at V1
 rw [show numN ((zs.drop 16).take 8) = part8 zs 16 from rfl] at V2
 rw [show numN ((zs.drop 24).take 8) = part8 zs 24 from rfl] at V3
 have PL := part8_lt h.byte 24
 clear h hcel hc0
 go_enter Tryz.func50, Tryz.ntmps50
 go_wp2
 obtain ⟨wb, hwb⟩ : ∃ x, w.alloc (.cells Tryz.zeroCells41 41) = x := ⟨_, rfl⟩
 have RB : Hid (Blk wb w.heap.size com0.cs 41) := by rw [← hwb, com_zero]; exact Blk.new w com0.cs 41
 have KB : Hid (Keeps None w wb) := by rw [← hwb]; exact (Keeps.refl None w).alloc _
 rw [hwb]
 clear hwb
 rw [Nat.add_zero] at z0
 have CB : Hid (∀ w2, Keeps None wb w2 → w2.cell? ⟨gb, off, none⟩ = some (.int .u8 (c0 : Int)) ∧ Bs w2 (some ⟨gb, off, none⟩) 96 cap zs) := fun w2 k =>
  have k2 := KB.out.trans k (T := None) (fun _ h => h) (fun _ _ h => h)
  ⟨(k2.cell hgb (fun h => h)).trans z0, HZ.out.keeps k2 (fun _ _ _ _ _ h => h)⟩
 have KR := Lib.hid (Keeps.refl None wb)
 clear z0
 have KC : Hid (Keeps None wb wb.drew) := (Keeps.refl None wb).drew
 obtain ⟨L, hL⟩ : ∃ x, wrap64 (part8 zs 24 : Int) = x := ⟨_, rfl⟩
 have HD : Hid ((zs.drop 32).length = 64) := by show _ = _; rw [List.length_drop, HL.out]
 have GC : Hid (getCom zs = if comL (comR zs L) = zs then (comR zs L, true) else (com0, false)) := comR_get (wrap_len hL PL) HL.out
 have COK : Hid (comR zs L).ok := ⟨part8_lt HZ.out.byte 8, part8_lt HZ.out.byte 16, HD.out, fun z hz => HZ.out.byte z (List.mem_of_mem_drop hz)⟩
 obtain ⟨C, hC⟩ : ∃ C : Com, (⟨(c0 : Int), part8 zs 8, part8 zs 16, L, List.replicate 64 0⟩ : Com) = C := ⟨_, rfl⟩
 have AG : Hid ((((Tryz.zeroCells41.setIfInBounds 0 (.int .i64 (c0 : Int))).setIfInBounds 1 (.int .u64 (part8 zs 8 : Int))).setIfInBounds 2 (.int .u64 (part8 zs 16 : Int))).setIfInBounds 3 (.int .i64 L) = C.cs.toArray) := by rw [← hC]; exact built_com4 _ _ _ _
 have CL : Hid (C.cs.length = 68) := by show _ = _; rw [← hC]; rfl
 have HCC := Lib.hid hC
 clear hC
 obtain ⟨mS, mh⟩ : ∃ S : World → Prop, ∀ w', S w' ↔ (w'.cell? ⟨gb, off, none⟩ = some (.int .u8 (c0 : Int))) := ⟨_, fun _ => Iff.rfl⟩
 have mk0 : ∀ x : Memb mS, x.at_.cell? ⟨gb, off, none⟩ = some (.int .u8 (c0 : Int)) := fun x => ((mh _).1 x.is)
 have mn : Nonempty (Memb mS) := ⟨⟨(wb).drew, (mh _).2 ((CB.out _ KR.out.drew).1)⟩⟩
 have mH := Lib.hid mh
 clear mh
 refine wp_region_mixT [6, 9, 12, 15, 16] (InS mS) 3 17 (by kernel_rfl) (by kernel_rfl) (by kernel_rfl) (by kernel_rfl) (InS.mk ((mH.out _).2 ((CB.out _ KR.out.drew).1))) ?_
 refine wpT_node2 (us := [(0, 17)]) [(4, 3)] [(0, 4), (7, 10)] [(15, 1)] [(0, 15), (16, 1)] (by kernel_rfl) ?_ ?_
 ·
  refine wpPs_cons ?_
  try simp only [tds, Nat.reduceSub]
  refine wpMix_seg 2 (by kernel_rfl) (by decide) ?_
  simp only [tds, Nat.reduceSub]
  repeat (go_big_quiet_step (fail))
  refine wpQuiet_nil ?_
  refine wpMix_eff (by kernel_rfl) ?_
  go_wp2_with fail
  refine (V1.out _ (((CB.out _ KC.out).2.drop (by decide)).take (by decide))).mono ?_
  rintro e w' ⟨rfl, rfl⟩
  go_wp2
  refine MixK.on (InS.mk ((mH.out _).2 (((CB.out _ KC.out).1)))) ?_
  refine wpMix_nil ?_
  refine wpPs_nil ?_
  refine wpT_node2 (us := [(0, 4), (7, 10)]) [(7, 3)] [(0, 4), (10, 7)] [(15, 1)] [(0, 4), (7, 8), (16, 1)] (by kernel_rfl) ?_ ?_
  ·
   refine wpPs_cons ?_
   try simp only [tds, Nat.reduceSub]
   refine wpMix_seg 2 (by kernel_rfl) (by decide) ?_
   simp only [tds, Nat.reduceSub]
   repeat (go_big_quiet_step (fail))
   refine wpQuiet_nil ?_
   refine wpMix_eff (by kernel_rfl) ?_
   go_wp2_with fail
   refine (V2.out _ (((CB.out _ KC.out).2.drop (by decide)).take (by decide))).mono ?_
   rintro e w' ⟨rfl, rfl⟩
   go_wp2
   refine MixK.on (InS.mk ((mH.out _).2 (((CB.out _ KC.out).1)))) ?_
   refine wpMix_nil ?_
   refine wpPs_nil ?_
   refine wpT_node2 (us := [(0, 4), (10, 7)]) [(10, 3)] [(0, 4), (13, 4)] [(15, 1)] [(0, 4), (10, 5), (16, 1)] (by kernel_rfl) ?_ ?_
   ·
    refine wpPs_cons ?_
    try simp only [tds, Nat.reduceSub]
    refine wpMix_seg 2 (by kernel_rfl) (by decide) ?_
    simp only [tds, Nat.reduceSub]
    repeat (go_big_quiet_step (fail))
    refine wpQuiet_nil ?_
    refine wpMix_eff (by kernel_rfl) ?_
    go_wp2_with fail
    refine (V3.out _ (((CB.out _ KC.out).2.drop (by decide)).take (by decide))).mono ?_
    rintro e w' ⟨rfl, rfl⟩
    go_wp2
    refine MixK.on (InS.mk ((mH.out _).2 (((CB.out _ KC.out).1)))) ?_
    refine wpMix_nil ?_
    refine wpPs_nil ?_
    refine wpT_leaf (ps := [(0, 4), (13, 4)]) (by kernel_rfl) ?_
    refine wpPs_cons ?_
    try simp only [tds, Nat.reduceSub]
    refine wpMix_seg 4 (by kernel_rfl) (by decide) ?_
    simp only [tds, Nat.reduceSub]
    repeat (go_big_quiet_step (fail))
    refine wpQuiet_nil ?_
    refine wpMix_nil ?_
    refine wpPs_cons ?_
    try simp only [tds, Nat.reduceSub]
    refine wpMix_seg 2 (by kernel_rfl) (by decide) ?_
    simp only [tds, Nat.reduceSub]
    repeat (go_big_quiet_step (fail))
    refine wpQuiet_nil ?_
    refine wpMix_eff (by kernel_rfl) ?_
    go_wp2
    first | (refine Exists.elim (⟨_, rfl⟩ : ∃ x, wb.drew.alloc (.cells Tryz.zeroCells41 41) = x) fun wy hwy => ?_; rw [hwy]) | (refine Exists.elim (⟨_, rfl⟩ : ∃ x, (wb.alloc (.cells Tryz.zeroCells41 41)).drew = x) fun wy hwy => ?_; rw [hwy])
    have NB : Hid (Blk wy wb.heap.size com0.cs 41) := by rw [← hwy, com_zero]; first | exact Blk.new wb.drew com0.cs 41 | exact (Blk.new wb com0.cs 41).drew
    have KD : Hid (Keeps None wb wy) := by rw [← hwy]; first | exact KC.out.alloc _ | exact ((Keeps.refl None wb).alloc _).drew
    clear KC hwy
    have KC := KD
    clear KD
    refine MixK.on (InS.mk ((mH.out _).2 (((CB.out _ KC.out).1)))) ?_
    exact tl255 _
   ·
    refine wpPs_cons ?_
    try simp only [tds, Nat.reduceSub]
    refine wpMix_eff (by kernel_rfl) ?_
    go_wp2
    first | (refine Exists.elim (⟨_, rfl⟩ : ∃ x, wb.drew.alloc (.cells Tryz.zeroCells41 41) = x) fun wy hwy => ?_; rw [hwy]) | (refine Exists.elim (⟨_, rfl⟩ : ∃ x, (wb.alloc (.cells Tryz.zeroCells41 41)).drew = x) fun wy hwy => ?_; rw [hwy])
    have NB : Hid (Blk wy wb.heap.size com0.cs 41) := by rw [← hwy, com_zero]; first | exact Blk.new wb.drew com0.cs 41 | exact (Blk.new wb com0.cs 41).drew
    have KD : Hid (Keeps None wb wy) := by rw [← hwy]; first | exact KC.out.alloc _ | exact ((Keeps.refl None wb).alloc _).drew
    clear KC hwy
    have KC := KD
    clear KD
    exact tl263 _
  ·
   refine wpPs_cons ?_
   try simp only [tds, Nat.reduceSub]
   refine wpMix_eff (by kernel_rfl) ?_
   go_wp2
   first | (refine Exists.elim (⟨_, rfl⟩ : ∃ x, wb.drew.alloc (.cells Tryz.zeroCells41 41) = x) fun wy hwy => ?_; rw [hwy]) | (refine Exists.elim (⟨_, rfl⟩ : ∃ x, (wb.alloc (.cells Tryz.zeroCells41 41)).drew = x) fun wy hwy => ?_; rw [hwy])
   have NB : Hid (Blk wy wb.heap.size com0.cs 41) := by rw [← hwy, com_zero]; first | exact Blk.new wb.drew com0.cs 41 | exact (Blk.new wb com0.cs 41).drew
   have KD : Hid (Keeps None wb wy) := by rw [← hwy]; first | exact KC.out.alloc _ | exact ((Keeps.refl None wb).alloc _).drew
   clear KC hwy
   have KC := KD
   clear KD
   exact tl264 _
 ·
  refine wpPs_cons ?_
  try simp only [tds, Nat.reduceSub]
  refine wpMix_eff (by kernel_rfl) ?_
  go_wp2
  first | (refine Exists.elim (⟨_, rfl⟩ : ∃ x, wb.drew.alloc (.cells Tryz.zeroCells41 41) = x) fun wy hwy => ?_; rw [hwy]) | (refine Exists.elim (⟨_, rfl⟩ : ∃ x, (wb.alloc (.cells Tryz.zeroCells41 41)).drew = x) fun wy hwy => ?_; rw [hwy])
  have NB : Hid (Blk wy wb.heap.size com0.cs 41) := by rw [← hwy, com_zero]; first | exact Blk.new wb.drew com0.cs 41 | exact (Blk.new wb com0.cs 41).drew
  have KD : Hid (Keeps None wb wy) := by rw [← hwy]; first | exact KC.out.alloc _ | exact ((Keeps.refl None wb).alloc _).drew
  clear KC hwy
  have KC := KD
  clear KD
  refine MixK.on (InS.mk ((mH.out _).2 (((CB.out _ KC.out).1)))) ?_
  refine wpMix_nil ?_
  refine wpPs_nil ?_
  refine wpT_node1 (us := [(0, 15), (16, 1)]) [(4, 3)] [(0, 4), (7, 8), (16, 1)] (by kernel_rfl) ?_
  ·
   refine wpPs_cons ?_
   try simp only [tds, Nat.reduceSub]
   refine wpMix_seg 2 (by kernel_rfl) (by decide) ?_
   simp only [tds, Nat.reduceSub]
   repeat (go_big_quiet_step (fail))
   refine wpQuiet_nil ?_
   refine wpMix_eff (by kernel_rfl) ?_
   go_wp2_with fail
   refine (V1.out _ (((CB.out _ KC.out).2.drop (by decide)).take (by decide))).mono ?_
   rintro e w' ⟨rfl, rfl⟩
   go_wp2
   exact tl264 _
end Go.Proofs.YtobgbilanibodaaGreat
