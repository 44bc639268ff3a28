
/- LedgerPlays: what any calls of a ledger answer, which state there is, and what stands in the flash, agrees with the definition, also where power goes. Conditions: none but the law's own. -/
import Derived.Test.YtobgbilanibodaaGreatLPll
import Derived.Test.YtobgbilanibodaaGreatLPlh
import Derived.Test.YtobgbilanibodaaGreatLPlb
import Derived.Deep.LoopGhost
import Derived.Deep.CutBlock
namespace Go.Proofs.YtobgbilanibodaaGreat
open Go.RowKit Go.ChangeShapes Go.WideShapes Go.Deep
theorem side_first {S O : Nat → Prop} {w0 : World} {lb b n : Nat} {A : Option Addr} (o : ∀ k, S k → O k ∨ w0.heap.size ≤ k) (l : w0.heap.size ≤ lb) (u : MidT none 0 A n w0.heap.size) (hb : b < w0.heap.size) (hO : ¬ O b) : ¬ OX S lb A n b := fun h => by
  rcases h with h | rfl | ⟨h0, off, e⟩
  · exact (o b h).elim hO (fun h => by omega)
  · omega
  · exact (u b off h0 e).elim (fun h => absurd h.1 (Nat.lt_irrefl 0)) (fun h => by omega)
theorem peek_all {s : FS} {n : Nat} (h : s.b.length = n) : s.peekF 0 n = s.b := by
 have hw : withinB 0 n s.b.length = true := decide_eq_true ⟨by omega, by omega, by omega, by omega⟩
 unfold FS.peekF
 rw [if_pos hw]
 show (s.b.drop 0).take (Int.toNat (n : Int)) = _
 rw [Int.toNat_natCast, List.drop_zero, List.take_of_length_le (by omega)]
def actZ : AV := ⟨0, 0, none, 0, 0, [], com0, none, 0, 0, chk0⟩
theorem AV.cs_one (a : AV) : ∀ v ∈ a.cs, v.oneCell' = true := by
 intro v hv
 unfold AV.cs at hv
 rcases List.mem_cons.1 hv with rfl | h
 ·rfl
 ·rcases List.mem_cons.1 h with rfl | h
  ·rfl
  ·rcases List.mem_cons.1 h with rfl | h
   ·rfl
   ·rcases List.mem_append.1 h with h | h
    ·exact Com.cs_one _ v h
    ·exact Chk.cs_one _ _ _ _ v h
theorem PL.put {W w w' : World} {B q Br qr sb lb jb : Nat} {X : JX} {A : Option Addr} {n cap lr jr : Nat} {Y : QX} {A2 : Option Addr} {n2 cap2 : Nat} {s r : FS} {j : JS} {st : St} {k m kb : Nat} (h : PL W w B q Br qr sb lb jb X A n cap lr jr Y A2 n2 cap2 s r j st k m)
    (hk : Keeps (fun b => b = kb) w w') (sp : ¬ OX X.S lb A n kb) (sq : ¬ OX Y.S lr A2 n2 kb) (hW : W.heap.size ≤ kb) (hs : ¬ sb = kb) : PL W w' B q Br qr sb lb jb X A n cap lr jr Y A2 n2 cap2 s r j st k m :=
  ⟨⟨h.l.g.keeps hk (fun b hb e => sp (e ▸ hb)) (fun b hb e => by omega), h.l.h.keeps hk (fun b hb e => sq (e ▸ hb)) (fun b hb e => by omega), h.l.dj⟩, ⟨hk.blk h.sd.blk hs, h.sd.p, h.sd.q⟩, h.sm, h.lp⟩
theorem act_zero : Tryz.zeroCells46 = actZ.cs.toArray := by kernel_rfl
theorem act_size2 : (Tryz.prog.info? 46).map (·.size) = some 84 := by kernel_rfl
theorem tl302 (P : Prop) (h : P := by
 go_wp2
 go_meet
 case rel => exact ⟨X6, lb, jb, A6, n6, cap6, lr, jr, Y7, A7, n7, cap7, s', r', j2, st2, rfl, rfl, by first | rfl | simp, ⟨L7.out, S7.out, SM1.out, LP1.out⟩⟩) : P := h
set_option maxRecDepth 100000 in
set_option maxHeartbeats 25600000 in
theorem plays23_any (A0 : Option Addr) (n0 c0 : Nat) (ls : List AV) (W : World) (h0 : ActsV W A0 n0 c0 ls) :
    Calls Tryz.prog 3 #[.slice A0 n0 c0] W fun e W' => e = .returned (.bool true) ∧ Below W.heap.size W W' := by
 have y0 := h0.le
 have x0 := h0.max
 have H0 := Lib.hid h0
 have L0 := Lib.hid h0.len
 have AL := Lib.hid (alive23_any W)
 clear h0
 go_enter Tryz.func3, Tryz.ntmps3
 go_wp2_with fail
 refine AL.out.mono ?_
 rintro e w1 ⟨rfl, k1⟩
 have K1 := Lib.hid k1
 clear k1 AL
 by_cases g1 : 25 < n0
 ·have d1 : decide (25 < (n0 : Int)) = true := decide_eq_true (by omega)
  go_wp2
  go_ret
  exact ⟨rfl, K1.out.below (fun _ _ h => h)⟩
 have d1 : decide (25 < (n0 : Int)) = false := decide_eq_false (by omega)
 have G25 : Hid (n0 ≤ 25) := by show _ ≤ _; omega
 have H01 : Hid (∀ w, Keeps None W w → ∀ (i : Nat) (b : AV), ls[i]? = some b → b.ok w) := fun w k i b hb => (H0.out.ok b (List.mem_of_getElem? hb)).keeps k
 have R01 : Hid (∀ w, Keeps None W w → ∀ i b, ls[i]? = some b → ∀ g off, A0 = some ⟨g, off, none⟩ → w.rangeAt g (off + i * 84) b.cs) := fun w k i b hb g off e j v hv => by
  obtain ⟨g', off', e', hlt, hc⟩ := H0.out.at_ (by have := (List.getElem?_eq_some_iff.1 hb).1; rw [L0.out] at this; omega)
  rw [e] at e'
  cases e'
  have h1 := hc i b hb j v hv
  rw [← k.cell (p := ⟨g, off + i * 84 + j, none⟩) hlt (fun h => h)] at h1
  exact h1
 have AD : Hid (0 < n0 → ∃ gb off, A0 = some ⟨gb, off, none⟩) := fun h => by
  obtain ⟨gb, off, e, -⟩ := H0.out.at_ h
  exact ⟨gb, off, e⟩
 have V0 := Lib.hid LP.new
 have LV0 := Lib.hid (Live.new 2 (by decide) (by decide))
 have NW := Lib.hid (lnew K1.out ((2 : Nat) : Int))
 have NR := Lib.hid (fun w => rfnew_any ((2 : Nat) : Int) w)
 unfold RMade at NR
 clear g1 H0
 generalize newF ((2 : Nat) : Int) = f0 at *
 go_wp2_with fail
 refine NW.out.mono ?_
 rintro e w2 ⟨q, L, rfl, hF⟩
 have HF := Lib.hid hF
 have KW2 := Lib.hid hF.keeps
 have WB1 := Lib.hid hF.keeps.size
 clear hF NW
 go_wp2_with fail
 refine (NR.out _).mono ?_
 rintro e w3 ⟨Lr0, rfl, hg, hn, k3⟩
 have HG := Lib.hid hg
 have HL3 := Lib.hid (HF.out.later k3)
 have LN : Hid (Lr0.n = 2) := hn
 have DJ := Lib.hid (show ∀ j, L.O j → ¬ Lr0.O j from fun j hj hr => by have a := HF.out.at_.lt j hj; have b := hg.low j hr; omega)
 obtain ⟨qr, hqr⟩ : ∃ x, Lr0.bf = x := ⟨_, rfl⟩
 have GQ := Lib.hid hqr
 rw [hqr]
 generalize w1.heap.size = B0 at *
 generalize w2.heap.size = B1 at *
 clear hg hn k3 hqr HF NR
 go_wp2_with fail
 refine (rgof_any B1 Lr0 f0 qr 0 2 _ HG.out GQ.out).mono ?_
 rw [LN.out, ofF_yes (show someB 0 2 ((2 : Nat) : Int) = true from rfl), Int.zero_add]
 rintro e w7 ⟨rfl, k7⟩
 have HS7 := Lib.hid ((HG.out.later k7).alloc (.cells #[.pointer (some ⟨qr, 0, none⟩), .int .i64 0, .int .i64 2] 29))
 have LS7 := Lib.hid ((HL3.out.later k7).alloc (.cells #[.pointer (some ⟨qr, 0, none⟩), .int .i64 0, .int .i64 2] 29))
 have S7 := Lib.hid (Blk.new w7 [.pointer (some ⟨qr, 0, none⟩), .int .i64 0, .int .i64 2] 29)
 have SO : Hid (¬ L.O w7.heap.size ∧ ¬ Lr0.O w7.heap.size) := ⟨fun h => by have := (HL3.out.later k7).at_.lt _ h; omega, fun h => by have := (HG.out.later k7).lt _ h; omega⟩
 clear k7 HG HL3
 have x0 := S7.out.cellD 0 _ rfl
 have x1 := S7.out.cellD 1 _ rfl
 have x2 := S7.out.cellD 2 _ rfl
 go_wp2_with fail
 generalize w7.heap.size = sb at *
 refine (rlopen_any HS7.out GQ.out LS7.out.keeps WB1.out LV0.out.g LV0.out.dark LV0.out.keep).mono ?_
 rintro e w9 ⟨lr, rfl, Y, jr, lr', A2, n2, cap2, e2, r2, hY, k9, hlr, mt9⟩
 cases e2
 have R9 := Lib.hid r2
 have Y9 := Lib.hid hY
 have K9 := Lib.hid k9
 have M9 := Lib.hid (show _ ∧ _ from ⟨hlr, mt9⟩)
 clear r2 hY k9 hlr mt9 x0 x1 x2
 go_wp2_with fail
 refine (open23_any (LS7.out.later K9.out) LV0.out.g LV0.out.dark LV0.out.keep).mono ?_
 rintro e w10 ⟨X, jb, lb, A, n, cap, rfl, g10, hX, k10, hlb, mt10⟩
 have P0 : Hid (PL W w10 B0 q B1 qr sb lb jb X A n cap lr jr Y A2 n2 cap2 f0 f0 (keptJ 0 (-1) [] []) (foldS []) 0 100) := by
  have s7 := S7.out.lt
  have s9 := K9.out.size
  exact ⟨LL.first ⟨LS7.out, HS7.out, DJ.out⟩ R9.out Y9.out.2 M9.out.1 M9.out.2 K9.out g10 hX.2 hlb mt10 k10,
   ⟨k10.blk (K9.out.blk S7.out (fun h => h)) (fun h => h), side_first hX.2 hlb mt10 (by omega) SO.out.1, side_first Y9.out.2 M9.out.1 M9.out.2 s7 SO.out.2⟩, Sim.self f0, V0.out⟩
 clear g10 hX k10 hlb mt10 R9 Y9 K9 M9 S7 SO DJ LS7 HS7 LN GQ LV0 V0 WB1 KW2 K1
 go_wp2
 clear d1
 go_loopg [8, 10, 11] n0 (fun g rv gv iv wr => ∃ (i : Nat) (X : JX) (lb jb : Nat) (A : Option Addr) (n cap lr jr : Nat) (Y : QX) (A2 : Option Addr) (n2 cap2 : Nat) (s r : FS) (j : JS) (st : St), i + g = n0 ∧ iv = .int .i64 i ∧ gv = .pointer (some ⟨lb, 0, none⟩) ∧ rv = .pointer (some ⟨lr, 0, none⟩) ∧ PL W wr B0 q B1 qr sb lb jb X A n cap lr jr Y A2 n2 cap2 s r j st i (100 - 2 * i))
 case atStart => exact ⟨0, X, lb, jb, A, n, cap, lr, jr, Y, A2, n2, cap2, f0, f0, _, _, by omega, rfl, rfl, rfl, P0.out⟩
 case round =>
  obtain ⟨i, X, lb, jb, A, n, cap, lr, jr, Y, A2, n2, cap2, s, r, j, st, hig, rfl, rfl, rfl, hP⟩ := hrel
  have PP := Lib.hid hP
  have HIG := Lib.hid hig
  obtain ⟨wv, rfl⟩ : ∃ x, x = wr := ⟨_, rfl⟩
  clear hP P0
  by_cases hlt : i < n0
  ·have d1 : decide ((i : Int) < (n0 : Int)) = true := decide_eq_true (by omega)
   have hir : i < ls.length := by rw [L0.out]; exact hlt
   obtain ⟨a, ha0⟩ : ∃ r, ls[i]? = some r := ⟨_, List.getElem?_eq_getElem hir⟩
   have KW := Lib.hid PP.out.l.g.lj.keeps
   have AO := Lib.hid (H01.out _ KW.out i a ha0)
   obtain ⟨gb, off, rfl⟩ := AD.out (by omega)
   have RR := Lib.hid (R01.out _ KW.out i a ha0 gb off rfl)
   obtain ⟨G, rfl⟩ : ∃ G, gk = G + 1 := ⟨gk - 1, by omega⟩
   have NBx := Lib.hid (Blk.new wv actZ.cs 46)
   have KNx : Hid (Keeps None wv (wv.alloc (.cells actZ.cs.toArray 46))) := (Keeps.refl None wv).alloc _
   rw [← act_zero] at NBx KNx
   clear hig
   go_wp2_with (first | (refine wpList_load_mid rfl _ _ rfl gb (off + i * 84) rfl a.cs _ RR.out Tryz.underlying46 rfl (by rw [AV.cs_len AO.out]; exact act_size2) ?_) | (refine wpList_store_blk (b := wv.heap.size) (o := 0) (ds := a.cs) NBx.out (by rw [AV.cs_len AO.out]; decide) (AV.cs_one _) rfl rfl rfl rfl (by rw [AV.cs_len AO.out]; exact act_size2) ?_))
   intro w2 bx kx
   rw [splice_all (by rw [AV.cs_len AO.out]; decide)] at bx
   have K2 := Lib.hid (KNx.out.trans kx (T := None) (fun _ h => h) (fun b hb e => absurd e (by omega)))
   have P2 := Lib.hid (PP.out.later K2.out)
   have AB := Lib.hid (PP.out.side bx (Nat.le_refl _))
   have AO2 := Lib.hid (AO.out.keeps K2.out)
   obtain ⟨pb, hpb⟩ : ∃ x, wv.heap.size = x := ⟨_, rfl⟩
   rw [hpb] at AB ⊢
   clear hpb bx kx NBx KNx K2 PP RR KW AO
   have z0 := AB.out.blk.cellD 0 _ rfl
   have z1 := AB.out.blk.cellD 1 _ rfl
   have z2 := AB.out.blk.cellD 2 _ rfl
   have z83 := AB.out.blk.cellD 83 _ (AV.cs_chk AO2.out 12 _ (Chk.cs_mid AO2.out.k _ _ _))
   by_cases q1 : 1100 < a.l
   ·have e1 : decide (1100 < (a.l : Int)) = true := decide_eq_true (by omega)
    go_wp2
    go_ret
    exact ⟨rfl, P2.out.l.g.lj.keeps.below (fun _ _ h => h)⟩
   have e1 : decide (1100 < (a.l : Int)) = false := decide_eq_false (by omega)
   by_cases q2 : 300 < a.kn
   ·have e2 : decide (300 < (a.kn : Int)) = true := decide_eq_true (by omega)
    go_wp2
    go_ret
    exact ⟨rfl, P2.out.l.g.lj.keeps.below (fun _ _ h => h)⟩
   have e2 : decide (300 < (a.kn : Int)) = false := decide_eq_false (by omega)
   have QQ : Hid (a.l ≤ 1100 ∧ a.kn ≤ 300) := ⟨by omega, by omega⟩
   have NBy := Lib.hid (Blk.new w2 (chk0.cs none 0 0) 44)
   have KNy : Hid (Keeps None w2 (w2.alloc (.cells (chk0.cs none 0 0).toArray 44))) := (Keeps.refl None w2).alloc _
   rw [← chk_zero] at NBy KNy
   clear q1 q2
   go_wp2_with (first | (refine wpList_load_blk (b := pb) (o := 71) (ds := a.ck.cs a.kA a.kn a.kc) AB.out.blk (fun j v hv => AV.cs_chk AO2.out j v hv) rfl rfl rfl Tryz.underlying44 rfl (by rw [Chk.cs_len AO2.out.k]; exact chk_size) ?_) | (refine wpList_store_blk (b := w2.heap.size) (o := 0) (ds := a.ck.cs a.kA a.kn a.kc) NBy.out (by rw [Chk.cs_len AO2.out.k]; decide) (Chk.cs_one _ _ _ _) rfl rfl rfl rfl (by rw [Chk.cs_len AO2.out.k]; exact chk_size) ?_))
   intro w3 by_ ky
   rw [splice_all (by rw [Chk.cs_len AO2.out.k]; decide)] at by_
   have K3 := Lib.hid (KNy.out.trans ky (T := None) (fun _ h => h) (fun b hb e => absurd e (by omega)))
   have P3 := Lib.hid (P2.out.later K3.out)
   have AB3 := Lib.hid (AB.out.later K3.out)
   have KB3 := Lib.hid (P2.out.side by_ (Nat.le_refl _))
   have AO3 := Lib.hid (AO2.out.keeps K3.out)
   have PKB : Hid (pb < w2.heap.size) := AB.out.blk.lt
   have KBW : Hid (W.heap.size ≤ w2.heap.size ∧ ¬ sb = w2.heap.size) := ⟨P2.out.l.g.lj.keeps.size, fun e => by have := P2.out.sd.blk.lt; omega⟩
   obtain ⟨kb, hkb⟩ : ∃ x, w2.heap.size = x := ⟨_, rfl⟩
   rw [hkb] at KB3 PKB KBW ⊢
   clear hkb by_ ky NBy KNy K3 P2 AB AO2 z0 z1 z2 z83
   have z83 := AB3.out.blk.cellD 83 _ (AV.cs_chk AO3.out 12 _ (Chk.cs_mid AO3.out.k _ _ _))
   have l1 := AO3.out.m.le
   have m1 := AO3.out.m.max
   go_wp2_with (at_builtin; refine Hid.out ?_)
   refine Lib.hid ?_
   refine wpList_append_bs (Own.nil _ w3.heap.size) AO3.out.m (by have := QQ.out.2; simp; omega) (Nat.le_refl _) rfl rfl rfl rfl rfl ?_
   intro v4 w4 ho4 hk4
   rw [List.nil_append] at ho4
   have K4 : Hid (Keeps None w3 w4) := hk4.mono (fun i hi e => by simp [Value.ownBlock] at e)
   obtain ⟨A4, c4, rfl, bs4, -⟩ := ho4.shape
   have LM := Lib.hid AO3.out.m.len
   rw [LM.out] at ho4 bs4 ⊢
   have P4 := Lib.hid (P3.out.later K4.out)
   have AB4 := Lib.hid (AB3.out.later K4.out)
   have KB4 := Lib.hid (KB3.out.later K4.out)
   have AO4 := Lib.hid (AO3.out.keeps K4.out)
   have O4 : Hid (SideB w4 A4 a.kn c4 a.ck.mid (OX X.S lb A n) (OX Y.S lr A2 n2)) := ⟨bs4, fun b off hn e => by
    have h1 := (chkV_own ho4).p b off hn e
    exact ⟨fun h2 => by have := (P3.out.l.g.ox h2).2; have := h1.1; omega, fun h2 => by have := (P3.out.l.h.ox h2).2; have := h1.1; omega, h1.2⟩⟩
   have NK : Hid (∀ b off, 0 < a.kn → A4 = some ⟨b, off, none⟩ → b ≠ kb) := fun b off hn e e2 => by
    have h1 := ((chkV_own ho4).p b off hn e).1
    have h2 := KB3.out.blk.lt
    omega
   clear ho4 hk4 bs4 z83 P3 AB3 AO3 l1 m1
   have f12 := KB4.out.blk.frozen 12
   have g12 := KB4.out.blk.cellD 12 _ (Chk.cs_mid AO4.out.k _ _ _)
   have z0 := AB4.out.blk.cellD 0 _ rfl
   have pkb := PKB.out
   go_upto_block 2 with fail
   have K5 := (Keeps.refl (fun b => b = kb) w4).setCell ⟨kb, 12, none⟩ (.slice A4 a.kn c4) (fun _ => rfl)
   have P5 := Lib.hid (P4.out.put K5 KB4.out.p KB4.out.q KBW.out.1 KBW.out.2)
   have AB5 : Hid (Side (w4.setCell ⟨kb, 12, none⟩ (.slice A4 a.kn c4)) pb a.cs 46 (OX X.S lb A n) (OX Y.S lr A2 n2)) := ⟨K5.blk AB4.out.blk (by omega), AB4.out.p, AB4.out.q⟩
   have KB5 : Hid (Side (w4.setCell ⟨kb, 12, none⟩ (.slice A4 a.kn c4)) kb (a.ck.cs A4 a.kn c4) 44 (OX X.S lb A n) (OX Y.S lr A2 n2)) := ⟨by rw [← Chk.cs_midset AO4.out.k a.kA A4 a.kn a.kc a.kn c4]; exact KB4.out.blk.set 12 _, KB4.out.p, KB4.out.q⟩
   have O5 : Hid (SideB (w4.setCell ⟨kb, 12, none⟩ (.slice A4 a.kn c4)) A4 a.kn c4 a.ck.mid (OX X.S lb A n) (OX Y.S lr A2 n2)) := ⟨O4.out.b.keeps K5 (fun b off hn _ e => NK.out b off hn e), fun b off hn e => ⟨(O4.out.p b off hn e).1, (O4.out.p b off hn e).2.1, Nat.lt_of_lt_of_le (O4.out.p b off hn e).2.2 K5.size⟩⟩
   obtain ⟨w5, hw5⟩ : ∃ x, w4.setCell ⟨kb, 12, none⟩ (.slice A4 a.kn c4) = x := ⟨_, rfl⟩
   rw [hw5] at P5 AB5 KB5 O5 ⊢
   clear hw5 K5 f12 g12 z0 P4 AB4 KB4 O4 NK AO4 K4 LM KB3
   go_cut [8, 10, 14] from 38 to 155 (fun rv gv sv wx => ∃ (X : JX) (lb jb : Nat) (A : Option Addr) (n cap lr jr : Nat) (Y : QX) (A2 : Option Addr) (n2 cap2 : Nat) (s r : FS) (j : JS) (st : St), gv = .pointer (some ⟨lb, 0, none⟩) ∧ rv = .pointer (some ⟨lr, 0, none⟩) ∧ sv = .bool true ∧ PL W wx B0 q B1 qr sb lb jb X A n cap lr jr Y A2 n2 cap2 s r j st (i + 1) (100 - 2 * (i + 1)))
   case first =>
    have KD : Hid (Keeps None w5 w5.drew) := (Keeps.refl None w5).drew
    have AOK := Lib.hid (fun (w : World) (k : Keeps None W w) => H01.out w k i a ha0)
    have AO5 := Lib.hid (AOK.out _ P5.out.l.g.lj.keeps)
    have LK0 := Lib.hid (P5.out.lp.less (m' := 98 - 2 * i + 2) (Nat.le_refl _) (by have := G25.out; omega))
    obtain ⟨s', j', st', er, hact, hlp⟩ := LK0.out.act (by have := G25.out; omega) AO5.out
    have RM5 : Hid (JRm s (1625 * (98 - 2 * i) + 3250)) := LK0.out.rm.less (by omega)
    obtain ⟨sm1, sm2⟩ := P5.out.sm.act RM5.out j st a
    obtain ⟨r', j2, st2, er2, har⟩ : ∃ r' j2 st2 er2, actF r j st a = (r', j2, st2, er2) := ⟨_, _, _, _, rfl⟩
    rw [hact, har] at sm1 sm2
    obtain ⟨rfl, rfl, rfl⟩ : j2 = j' ∧ st2 = st' ∧ er2 = er := by simpa using sm2
    have SM1 := Lib.hid sm1
    have LP1 := Lib.hid (hlp.less (k' := i + 1) (m' := 100 - 2 * (i + 1)) (Nat.le_refl _) (by omega))
    have HACT := Lib.hid hact
    have HAR := Lib.hid har
    have z0 := AB5.out.blk.cellD 0 _ rfl
    have erq : (er2 == er2) = true := by simp
    clear hact har sm1 sm2 hlp
    by_cases k1 : a.k = 1
    ·have kd1 : (a.k == 1) = true := by simp [k1]
     have PRE := Lib.hid (LK0.out.pre P5.out.sm 2 (comL_byt AO5.out.c))
     have CF : Hid (actF s j st a = commitF s j st a.c) := if_pos k1
     have CR : Hid (actF r j st a = commitF r j st a.c) := if_pos k1
     have GC : Hid (∀ w', LG W w' B0 q lb jb X s j st A n cap → Calls Tryz.prog 11 #[.pointer (some ⟨lb, 0, none⟩), .agg a.c.cs.toArray] w' (LGDone W w' B0 q lb jb X A n (s', j2, st2, er2))) := fun w' g => by
      have h := lgcommit_any g P5.out.lp.ok a.c AO5.out.c PRE.out.1.1 PRE.out.1.2.1 PRE.out.1.2.2
      rw [← CF.out, HACT.out] at h
      exact h
     have RC : Hid (∀ w', RLG W w' B1 qr lr jr Y r j st A2 n2 cap2 → Calls Tryz.prog 12 #[.pointer (some ⟨lr, 0, none⟩), .agg a.c.cs.toArray] w' (RLGDone W w' B1 qr lr jr Y A2 n2 (r', j2, st2, er2))) := fun w' g => by
      have h := rlcommit_any g P5.out.lp.ok a.c AO5.out.c PRE.out.2.1 PRE.out.2.2.1 PRE.out.2.2.2
      rw [← CR.out, HAR.out] at h
      exact h
     have LC : Hid (∀ w' P Q, Side w' pb a.cs 46 P Q → (Instr.loadAt 41 (.pointer (some ⟨pb, 3, none⟩))).run Tryz.prog w' = .ok (.agg a.c.cs.toArray) w') := fun w' P Q h =>
      run_loadAt_mid w' pb 3 41 a.c.cs _ (blk_range h.blk (fun j v hv => AV.cs_com AO5.out j v hv)) Tryz.underlying41 rfl (by rw [Com.cs_len AO5.out.c]; exact com_size)
     clear k1 PRE CF CR HACT HAR RM5 LK0
     go_wp2
     obtain ⟨mS, mh⟩ : ∃ S : World → Prop, ∀ w', S w' ↔ (((Instr.loadAt 41 (.pointer (some ⟨pb, 3, none⟩))).run Tryz.prog w' = .ok (.agg a.c.cs.toArray) w')) := ⟨_, fun _ => Iff.rfl⟩
     have mk0 : ∀ x : Memb mS, (Instr.loadAt 41 (.pointer (some ⟨pb, 3, none⟩))).run Tryz.prog x.at_ = .ok (.agg a.c.cs.toArray) x.at_ := fun x => ((mh _).1 x.is)
     have mn : Nonempty (Memb mS) := ⟨⟨(w5).drew, (mh _).2 (LC.out _ _ _ (AB5.out.later KD.out))⟩⟩
     have mH := Lib.hid mh
     clear mh
     refine wp_region_mix [3, 4, 8] (InS mS) (by kernel_rfl) (by kernel_rfl) (InS.mk ((mH.out _).2 (LC.out _ _ _ (AB5.out.later KD.out)))) ?_
     refine wpMix_seg 3 (by kernel_rfl) (by decide) ?_
     simp only [tds]
     repeat (first | go_big_quiet_step (fail) | (go_big_quiet_want; first | refine quiet_load mk0 rfl rfl rfl aput ?_; go_big_quiet_on))
     refine wpQuiet_nil ?_
     refine wpMix_eff (by kernel_rfl) ?_
     go_wp2_with fail
     refine (GC.out _ (P5.out.l.g.later KD.out)).mono ?_
     rintro e w6 ⟨rfl, X6, A6, n6, cap6, g6, t6, u6⟩
     have L6 := Lib.hid ((P5.out.l.later KD.out).stepG g6 (Stp.lg t6 u6))
     have S6 := Lib.hid ((P5.out.sd.later KD.out).g (Stp.lg t6 u6))
     have AB6 := Lib.hid ((AB5.out.later KD.out).g (Stp.lg t6 u6))
     clear g6 t6 u6 GC
     go_wp2
     refine MixK.on (InS.mk ((mH.out _).2 (LC.out _ _ _ AB6.out))) ?_
     refine wpMix_eff (by kernel_rfl) ?_
     go_wp2_with fail
     refine (num23_any _ _).mono ?_
     rintro e w' ⟨rfl, rfl⟩
     go_wp2
     refine MixK.on (InS.mk ((mH.out _).2 (LC.out _ _ _ AB6.out))) ?_
     refine wpMix_seg 3 (by kernel_rfl) (by decide) ?_
     simp only [tds]
     repeat (first | go_big_quiet_step (fail) | (go_big_quiet_want; first | refine quiet_load mk0 rfl rfl rfl aput ?_; go_big_quiet_on))
     refine wpQuiet_nil ?_
     refine wpMix_eff (by kernel_rfl) ?_
     go_wp2_with fail
     refine (RC.out _ L6.out.h).mono ?_
     rintro e w7 ⟨rfl, Y7, A7, n7, cap7, g7, t7, u7⟩
     have L7 := Lib.hid (L6.out.stepH g7 (Stp.rl t7 u7))
     have S7 := Lib.hid (S6.out.h (Stp.rl t7 u7))
     have AB7 := Lib.hid (AB6.out.h (Stp.rl t7 u7))
     clear g7 t7 u7 RC
     go_wp2
     refine MixK.on (InS.mk ((mH.out _).2 (LC.out _ _ _ AB7.out))) ?_
     refine wpMix_seg 2 (by kernel_rfl) (by decide) ?_
     simp only [tds]
     repeat (first | go_big_quiet_step (fail) | (go_big_quiet_want; first | refine quiet_load mk0 rfl rfl rfl aput ?_; go_big_quiet_on))
     refine wpQuiet_nil ?_
     refine wpMix_nil ?_
     clear mk0 mn mH
     exact tl302 _
    have kd1 : (a.k == 1) = false := by simp [k1]
    by_cases k2 : a.k = 2
    ·have kd2 : (a.k == 2) = true := by simp [k2]
     have PRE := Lib.hid (LK0.out.pre P5.out.sm 3 (chkL_byt AO5.out.k))
     have CF : Hid (actF s j st a = checkF s j st a.ck) := by show _ = _; unfold actF; rw [if_neg k1, if_pos k2]
     have CR : Hid (actF r j st a = checkF r j st a.ck) := by show _ = _; unfold actF; rw [if_neg k1, if_pos k2]
     have GC : Hid (∀ w', LG W w' B0 q lb jb X s j st A n cap → Bs w' A4 a.kn c4 a.ck.mid → Calls Tryz.prog 13 #[.pointer (some ⟨lb, 0, none⟩), .agg (a.ck.cs A4 a.kn c4).toArray] w' (LGDone W w' B0 q lb jb X A n (s', j2, st2, er2))) := fun w' g hb => by
      have h := lgcheck_any g P5.out.lp.ok a.ck AO5.out.k hb PRE.out.1.1 PRE.out.1.2.1 PRE.out.1.2.2
      rw [← CF.out, HACT.out] at h
      exact h
     have RC : Hid (∀ w', RLG W w' B1 qr lr jr Y r j st A2 n2 cap2 → Calls Tryz.prog 14 #[.pointer (some ⟨lr, 0, none⟩), .agg (a.ck.cs a.kA a.kn a.kc).toArray] w' (RLGDone W w' B1 qr lr jr Y A2 n2 (r', j2, st2, er2))) := fun w' g => by
      have h := rlcheck_any g P5.out.lp.ok a.ck AO5.out.k (AOK.out _ g.lj.keeps).m PRE.out.2.1 PRE.out.2.2.1 PRE.out.2.2.2
      rw [← CR.out, HAR.out] at h
      exact h
     have LC : Hid (∀ w' P Q, Side w' pb a.cs 46 P Q → Side w' kb (a.ck.cs A4 a.kn c4) 44 P Q → (Instr.loadAt 44 (.pointer (some ⟨kb, 0, none⟩))).run Tryz.prog w' = .ok (.agg (a.ck.cs A4 a.kn c4).toArray) w' ∧ (Instr.loadAt 44 (.pointer (some ⟨pb, 71, none⟩))).run Tryz.prog w' = .ok (.agg (a.ck.cs a.kA a.kn a.kc).toArray) w') := fun w' P Q h h2 =>
      ⟨run_loadAt_mid w' kb 0 44 (a.ck.cs A4 a.kn c4) _ (blk_range h2.blk (fun j v hv => by rw [Nat.zero_add]; exact hv)) Tryz.underlying44 rfl (by rw [Chk.cs_len AO5.out.k]; exact chk_size),
       run_loadAt_mid w' pb 71 44 (a.ck.cs a.kA a.kn a.kc) _ (blk_range h.blk (fun j v hv => AV.cs_chk AO5.out j v hv)) Tryz.underlying44 rfl (by rw [Chk.cs_len AO5.out.k]; exact chk_size)⟩
     clear k1 k2 PRE CF CR HACT HAR RM5 LK0
     go_wp2
     obtain ⟨mS, mh⟩ : ∃ S : World → Prop, ∀ w', S w' ↔ (((Instr.loadAt 44 (.pointer (some ⟨kb, 0, none⟩))).run Tryz.prog w' = .ok (.agg (a.ck.cs A4 a.kn c4).toArray) w') ∧ ((Instr.loadAt 44 (.pointer (some ⟨pb, 71, none⟩))).run Tryz.prog w' = .ok (.agg (a.ck.cs a.kA a.kn a.kc).toArray) w')) := ⟨_, fun _ => Iff.rfl⟩
     have mk0 : ∀ x : Memb mS, (Instr.loadAt 44 (.pointer (some ⟨kb, 0, none⟩))).run Tryz.prog x.at_ = .ok (.agg (a.ck.cs A4 a.kn c4).toArray) x.at_ := fun x => ((mh _).1 x.is).1
     have mk1 : ∀ x : Memb mS, (Instr.loadAt 44 (.pointer (some ⟨pb, 71, none⟩))).run Tryz.prog x.at_ = .ok (.agg (a.ck.cs a.kA a.kn a.kc).toArray) x.at_ := fun x => ((mh _).1 x.is).2
     have mn : Nonempty (Memb mS) := ⟨⟨(w5).drew, (mh _).2 ⟨(LC.out _ _ _ (AB5.out.later KD.out) (KB5.out.later KD.out)).1, (LC.out _ _ _ (AB5.out.later KD.out) (KB5.out.later KD.out)).2⟩⟩⟩
     have mH := Lib.hid mh
     clear mh
     refine wp_region_mix [2, 3, 7] (InS mS) (by kernel_rfl) (by kernel_rfl) (InS.mk ((mH.out _).2 ⟨(LC.out _ _ _ (AB5.out.later KD.out) (KB5.out.later KD.out)).1, (LC.out _ _ _ (AB5.out.later KD.out) (KB5.out.later KD.out)).2⟩)) ?_
     refine wpMix_seg 2 (by kernel_rfl) (by decide) ?_
     simp only [tds]
     repeat (first | go_big_quiet_step (fail) | (go_big_quiet_want; first | refine quiet_load mk0 rfl rfl rfl aput ?_; go_big_quiet_on | refine quiet_load mk1 rfl rfl rfl aput ?_; go_big_quiet_on))
     refine wpQuiet_nil ?_
     refine wpMix_eff (by kernel_rfl) ?_
     go_wp2_with fail
     refine (GC.out _ (P5.out.l.g.later KD.out) (O5.out.later KD.out).b).mono ?_
     rintro e w6 ⟨rfl, X6, A6, n6, cap6, g6, t6, u6⟩
     have L6 := Lib.hid ((P5.out.l.later KD.out).stepG g6 (Stp.lg t6 u6))
     have S6 := Lib.hid ((P5.out.sd.later KD.out).g (Stp.lg t6 u6))
     have AB6 := Lib.hid ((AB5.out.later KD.out).g (Stp.lg t6 u6))
     have KB6 := Lib.hid ((KB5.out.later KD.out).g (Stp.lg t6 u6))
     clear g6 t6 u6 GC
     go_wp2
     refine MixK.on (InS.mk ((mH.out _).2 (LC.out _ _ _ AB6.out KB6.out))) ?_
     refine wpMix_eff (by kernel_rfl) ?_
     go_wp2_with fail
     refine (num23_any _ _).mono ?_
     rintro e w' ⟨rfl, rfl⟩
     go_wp2
     refine MixK.on (InS.mk ((mH.out _).2 (LC.out _ _ _ AB6.out KB6.out))) ?_
     refine wpMix_seg 3 (by kernel_rfl) (by decide) ?_
     simp only [tds]
     repeat (first | go_big_quiet_step (fail) | (go_big_quiet_want; first | refine quiet_load mk0 rfl rfl rfl aput ?_; go_big_quiet_on | refine quiet_load mk1 rfl rfl rfl aput ?_; go_big_quiet_on))
     refine wpQuiet_nil ?_
     refine wpMix_eff (by kernel_rfl) ?_
     go_wp2_with fail
     refine (RC.out _ L6.out.h).mono ?_
     rintro e w7 ⟨rfl, Y7, A7, n7, cap7, g7, t7, u7⟩
     have L7 := Lib.hid (L6.out.stepH g7 (Stp.rl t7 u7))
     have S7 := Lib.hid (S6.out.h (Stp.rl t7 u7))
     have AB7 := Lib.hid (AB6.out.h (Stp.rl t7 u7))
     have KB7 := Lib.hid (KB6.out.h (Stp.rl t7 u7))
     clear g7 t7 u7 RC
     go_wp2
     refine MixK.on (InS.mk ((mH.out _).2 (LC.out _ _ _ AB7.out KB7.out))) ?_
     refine wpMix_seg 2 (by kernel_rfl) (by decide) ?_
     simp only [tds]
     repeat (first | go_big_quiet_step (fail) | (go_big_quiet_want; first | refine quiet_load mk0 rfl rfl rfl aput ?_; go_big_quiet_on | refine quiet_load mk1 rfl rfl rfl aput ?_; go_big_quiet_on))
     refine wpQuiet_nil ?_
     refine wpMix_nil ?_
     clear mk0 mk1 mn mH
     exact tl302 _
    have kd2 : (a.k == 2) = false := by simp [k2]
    by_cases k3 : a.k = 3
    ·have kd3 : (a.k == 3) = true := by simp [k3]
     have PRE := Lib.hid (LK0.out.pre P5.out.sm 4 (body := []) (fun z hz => by cases hz))
     have CF : Hid (actF s j st a = clearF s j st) := by show _ = _; unfold actF; rw [if_neg k1, if_neg k2, if_pos k3]
     have CR : Hid (actF r j st a = clearF r j st) := by show _ = _; unfold actF; rw [if_neg k1, if_neg k2, if_pos k3]
     have GC : Hid (∀ w', LG W w' B0 q lb jb X s j st A n cap → Calls Tryz.prog 15 #[.pointer (some ⟨lb, 0, none⟩)] w' (LGDone W w' B0 q lb jb X A n (s', j2, st2, er2))) := fun w' g => by
      have h := lgclear_any g P5.out.lp.ok PRE.out.1.1 PRE.out.1.2.1 PRE.out.1.2.2
      rw [← CF.out, HACT.out] at h
      exact h
     have RC : Hid (∀ w', RLG W w' B1 qr lr jr Y r j st A2 n2 cap2 → Calls Tryz.prog 16 #[.pointer (some ⟨lr, 0, none⟩)] w' (RLGDone W w' B1 qr lr jr Y A2 n2 (r', j2, st2, er2))) := fun w' g => by
      have h := rlclear_any g P5.out.lp.ok PRE.out.2.1 PRE.out.2.2.1 PRE.out.2.2.2
      rw [← CR.out, HAR.out] at h
      exact h
     clear k1 k2 k3 PRE CF CR HACT HAR RM5 LK0
     go_wp2_with fail
     refine (GC.out _ P5.out.l.g).mono ?_
     rintro e w6 ⟨rfl, X6, A6, n6, cap6, g6, t6, u6⟩
     have L6 := Lib.hid (P5.out.l.stepG g6 (Stp.lg t6 u6))
     have S6 := Lib.hid (P5.out.sd.g (Stp.lg t6 u6))
     clear g6 t6 u6 GC
     go_wp2_with fail
     refine (num23_any _ _).mono ?_
     rintro e w' ⟨rfl, rfl⟩
     go_wp2_with fail
     refine (RC.out _ L6.out.h).mono ?_
     rintro e w7 ⟨rfl, Y7, A7, n7, cap7, g7, t7, u7⟩
     have L7 := Lib.hid (L6.out.stepH g7 (Stp.rl t7 u7))
     have S7 := Lib.hid (S6.out.h (Stp.rl t7 u7))
     clear g7 t7 u7 RC
     exact tl302 _
    have kd3 : (a.k == 3) = false := by simp [k3]
    clear SM1 LP1 HACT HAR RM5
    clear erq
    clear r' s' j2 st2 er2
    by_cases k4 : a.k = 4
    ·have kd4 : (a.k == 4) = true := by simp [k4]
     have ARM := Lib.hid (LK0.out.arm a.n AO5.out.b.byte)
     have SMA := Lib.hid (P5.out.sm.arm a.n a.b (by have := P5.out.lp.rm.st; omega))
     have PC : Hid (∀ w' P Q, Side w' pb a.cs 46 P Q → w'.cell? ⟨pb, 1, none⟩ = some (.int .i64 a.n) ∧ w'.cell? ⟨pb, 2, none⟩ = some (.slice a.A a.l a.cp)) := fun w' P Q h => ⟨h.blk.cellD 1 _ rfl, h.blk.cellD 2 _ rfl⟩
     have AOW := Lib.hid (AOK.out W (Keeps.refl None W)).b
     have NN := Lib.hid AO5.out.nn
     have l1 := AO5.out.b.le
     have m1 := AO5.out.b.max
     have HBL := Lib.hid AO5.out.b.len
     clear k1 k2 k3 k4 LK0
     go_wp2
     obtain ⟨mS, mh⟩ : ∃ S : World → Prop, ∀ w', S w' ↔ (w'.cell? ⟨pb, 1, none⟩ = some (.int .i64 a.n) ∧ w'.cell? ⟨pb, 2, none⟩ = some (.slice a.A a.l a.cp)) := ⟨_, fun _ => Iff.rfl⟩
     have mk0 : ∀ x : Memb mS, x.at_.cell? ⟨pb, 1, none⟩ = some (.int .i64 a.n) := fun x => ((mh _).1 x.is).1
     have mk1 : ∀ x : Memb mS, x.at_.cell? ⟨pb, 2, none⟩ = some (.slice a.A a.l a.cp) := fun x => ((mh _).1 x.is).2
     have mn : Nonempty (Memb mS) := ⟨⟨(w5).drew, (mh _).2 ⟨(PC.out _ _ _ (AB5.out.later KD.out)).1, (PC.out _ _ _ (AB5.out.later KD.out)).2⟩⟩⟩
     have mH := Lib.hid mh
     clear mh
     refine wp_region_mix [5, 6] (InS mS) (by kernel_rfl) (by kernel_rfl) (InS.mk ((mH.out _).2 ⟨(PC.out _ _ _ (AB5.out.later KD.out)).1, (PC.out _ _ _ (AB5.out.later KD.out)).2⟩)) ?_
     refine wpMix_seg 5 (by kernel_rfl) (by decide) ?_
     simp only [tds]
     repeat (go_big_quiet_step (fail))
     refine wpQuiet_nil ?_
     refine wpMix_eff (by kernel_rfl) ?_
     go_wp2_with (at_builtin; refine Hid.out ?_)
     refine Lib.hid ?_
     refine wpList_append_bs (Own.nil _ w5.heap.size) (AO5.out.keeps KD.out).b (by have := QQ.out.1; simp; omega) (Nat.le_refl _) rfl rfl rfl rfl rfl ?_
     intro v6 w6 ho6 hk6
     rw [List.nil_append] at ho6
     have K6 : Hid (Keeps None w5 w6) := KD.out.trans (hk6.mono (T := None) (fun i hi e => by simp [Value.ownBlock] at e)) (fun _ h => h) (fun _ _ h => h)
     obtain ⟨A6, c6, rfl, bs6, -⟩ := ho6.shape
     rw [HBL.out] at bs6 ⊢
     have B6 := Lib.hid bs6
     have P6 := Lib.hid (P5.out.later K6.out)
     have AB6 := Lib.hid (AB5.out.later K6.out)
     clear ho6 hk6 bs6
     go_wp2
     refine MixK.on (InS.mk ((mH.out _).2 (PC.out _ _ _ AB6.out))) ?_
     refine wpMix_eff (by kernel_rfl) ?_
     go_wp2_with fail
     refine (larm P6.out.l.g.lj.lf B6.out (by have := QQ.out.1; omega) a.n NN.out.1).mono ?_
     rintro e w7 ⟨rfl, L7, -, t7⟩
     have L7 := Lib.hid (P6.out.l.stepG (P6.out.l.g.flash t7).1 (Stp.lg (P6.out.l.g.flash t7).2 (MidT.refl _ _ _)))
     have S7 := Lib.hid (P6.out.sd.g (Stp.lg (P6.out.l.g.flash t7).2 (MidT.refl _ _ _)))
     have AB7 := Lib.hid (AB6.out.g (Stp.lg (P6.out.l.g.flash t7).2 (MidT.refl A n w6.heap.size)))
     clear t7
     go_wp2
     refine MixK.on (InS.mk ((mH.out _).2 (PC.out _ _ _ AB7.out))) ?_
     refine wpMix_nil ?_
     clear mk0 mk1 mn mH
     have z1 := AB7.out.blk.cellD 1 _ rfl
     have z2 := AB7.out.blk.cellD 2 _ rfl
     go_wp2_with fail
     refine (rfarm_any B1 Y.L r qr a.n a.A a.l a.cp a.b w7 L7.out.h.lj.at_.f L7.out.h.lj.at_.hq ⟨(AOK.out _ L7.out.h.lj.keeps).b, fun b off h0 e hO => by
      obtain ⟨b', off', e', hlt, -⟩ := AOW.out.at_ h0
      rw [e] at e'
      cases e'
      have h1 := L7.out.h.lj.at_.f.low b hO
      have h2 := L7.out.h.lj.le
      omega⟩ (by have := QQ.out.1; omega)).mono ?_
     rintro e w8 ⟨rfl, L8, t8⟩
     have L8 := Lib.hid (L7.out.stepH (L7.out.h.flash t8).1 (Stp.rl (L7.out.h.flash t8).2 (MidT.refl _ _ _)))
     have S8 := Lib.hid (S7.out.h (Stp.rl (L7.out.h.flash t8).2 (MidT.refl _ _ _)))
     clear t8
     go_wp2
     go_meet
     case rel => exact ⟨_, lb, jb, A, n, cap, lr, jr, _, A2, n2, cap2, _, _, j, st, rfl, rfl, rfl, ⟨L8.out, S8.out, SMA.out, ARM.out.less (by omega) (by omega)⟩⟩
    have kd4 : (a.k == 4) = false := by simp [k4]
    by_cases k5 : a.k = 5
    ·have kd5 : (a.k == 5) = true := by simp [k5]
     obtain ⟨e1, c1, l1, T1, hk1, -, hl1⟩ := LK0.out.boot
     have KEEP := Lib.hid hk1
     have LPB := Lib.hid hl1
     have BE := Lib.hid (sim_boot_eq P5.out.sm)
     have FGB := Lib.hid P5.out.lp.g.boot
     clear k1 k2 k3 k4 k5 LK0 hk1 hl1
     go_wp2_with fail
     refine (lboot P5.out.l.g.lj.lf).mono ?_
     rintro e w6 ⟨rfl, L6, -, t6⟩
     have H6 := Lib.hid (P5.out.l.stepG (P5.out.l.g.flash t6).1 (Stp.lg (P5.out.l.g.flash t6).2 (MidT.refl _ _ _)))
     have S6 := Lib.hid (P5.out.sd.g (Stp.lg (P5.out.l.g.flash t6).2 (MidT.refl _ _ _)))
     clear t6
     go_wp2_with fail
     refine (rfboot_any B1 Y.L r qr w6 H6.out.h.lj.at_.f H6.out.h.lj.at_.hq).mono ?_
     rw [BE.out]
     rintro e w7 ⟨rfl, L7, t7⟩
     have H7 := Lib.hid (H6.out.stepH (H6.out.h.flash t7).1 (Stp.rl (H6.out.h.flash t7).2 (MidT.refl _ _ _)))
     have S7 := Lib.hid (S6.out.h (Stp.rl (H6.out.h.flash t7).2 (MidT.refl _ _ _)))
     clear t7 H6 S6
     go_wp2_with fail
     refine (open23_any H7.out.g.lj.lf FGB.out rfl KEEP.out).mono ?_
     rintro e w8 ⟨X8, jb8, lb8, A8, n8, cap8, rfl, g8, hX8, k8, hl8, mt8⟩
     have ST8 : Hid (Stp (OX ({ X with L := L6 } : JX).S lb A n) (OX X8.S lb8 A8 n8) w7 w8) := open_stp hX8.2 (fun k h => .inl h) hl8 mt8 k8
     have H8 := Lib.hid (H7.out.openG g8 ST8.out)
     have S8 := Lib.hid (S7.out.g ST8.out)
     clear g8 hX8 k8 hl8 mt8
     have x0 := S8.out.blk.cellD 0 _ rfl
     have x1 := S8.out.blk.cellD 1 _ rfl
     have x2 := S8.out.blk.cellD 2 _ rfl
     go_wp2_with fail
     refine (rlopen_any H8.out.h.lj.at_.f H8.out.h.lj.at_.hq H8.out.h.lj.keeps H8.out.h.lj.le FGB.out rfl KEEP.out).mono ?_
     rintro e w9 ⟨lr9, rfl, Y9, jr9, lr', A9, n9, cap9, e2, r9, hY9, k9, hl9, mt9⟩
     cases e2
     have ST9 : Hid (Stp (OX ({ Y with L := L7 } : QX).S lr A2 n2) (OX Y9.S lr9 A9 n9) w8 w9) := open_stp hY9.2 (fun k h => .inl h) hl9 mt9 k9
     have H9 := Lib.hid (H8.out.openH r9 ST9.out)
     have S9 := Lib.hid (S8.out.h ST9.out)
     clear r9 hY9 k9 hl9 mt9
     go_wp2
     go_meet
     case rel => exact ⟨X8, lb8, jb8, A8, n8, cap8, lr9, jr9, Y9, A9, n9, cap9, _, _, _, _, rfl, rfl, rfl, ⟨H9.out, S9.out, Sim.self _, LPB.out.less (by omega) (by omega)⟩⟩
    have kd5 : (a.k == 5) = false := by simp [k5]
    go_wp2
    go_meet
    case rel => exact ⟨X, lb, jb, A, n, cap, lr, jr, Y, A2, n2, cap2, s, r, j, st, rfl, rfl, rfl, ⟨P5.out.l, P5.out.sd, P5.out.sm, LK0.out.less (by omega) (by omega)⟩⟩
   case rest =>
    obtain ⟨X, lb, jb, A, n, cap, lr, jr, Y, A2, n2, cap2, s, r, j, st, rfl, rfl, rfl, hP⟩ := hcut
    have PN := Lib.hid hP
    have INV := Lib.hid hP.lp.inv.ok
    have ST := Lib.hid hP.sm.steps
    have KD : Hid (Keeps None wc wc.drew) := (Keeps.refl None wc).drew
    obtain ⟨stp, hst⟩ : ∃ x, FS.steps s = x := ⟨_, rfl⟩
    have LD : Hid (∀ w', Keeps None wc w' → (Instr.loadAt 58 (.pointer (some ⟨lr, 1, none⟩))).run Tryz.prog w' = .ok (.agg (st.cs A2 n2 cap2).toArray) w' ∧ w'.cell? ⟨qr, 2, none⟩ = some (.int .i64 stp)) := fun w' k => by
     have h := (PN.out.later k).l.h
     refine ⟨run_loadAt_mid w' lr 1 58 (st.cs A2 n2 cap2) _ (blk_range h.l (fun j v hv => by rw [Nat.add_comm]; exact hv)) Tryz.underlying58 rfl (by rw [St.cs_len INV.out]; exact st_size), ?_⟩
     have e3 := h.lj.at_.f.f.cellD 2 _ rfl
     rw [ST.out, hst, h.lj.at_.hq] at e3
     exact e3
    have STP := Lib.hid (fun w' (k : Keeps None wc w') => lsteps (PN.out.later k).l.g.lj.lf)
    rw [hst] at STP
    clear hP P5 AB5 KB5 O5 hst
    go_wp2
    obtain ⟨mcS, mch⟩ : ∃ S : World → Prop, ∀ w', S w' ↔ (((Instr.loadAt 58 (.pointer (some ⟨lr, 1, none⟩))).run Tryz.prog w' = .ok (.agg (st.cs A2 n2 cap2).toArray) w') ∧ w'.cell? ⟨qr, 2, none⟩ = some (.int .i64 stp)) := ⟨_, fun _ => Iff.rfl⟩
    have mck0 : ∀ x : Memb mcS, (Instr.loadAt 58 (.pointer (some ⟨lr, 1, none⟩))).run Tryz.prog x.at_ = .ok (.agg (st.cs A2 n2 cap2).toArray) x.at_ := fun x => ((mch _).1 x.is).1
    have mck1 : ∀ x : Memb mcS, x.at_.cell? ⟨qr, 2, none⟩ = some (.int .i64 stp) := fun x => ((mch _).1 x.is).2
    have mcn : Nonempty (Memb mcS) := ⟨⟨(wc).drew, (mch _).2 ⟨(LD.out _ KD.out).1, (LD.out _ KD.out).2⟩⟩⟩
    have mcH := Lib.hid mch
    clear mch
    refine wp_region_mix [8, 13, 18] (InS mcS) (by kernel_rfl) (by kernel_rfl) (InS.mk ((mcH.out _).2 ⟨(LD.out _ KD.out).1, (LD.out _ KD.out).2⟩)) ?_
    refine wpMix_seg 8 (by kernel_rfl) (by decide) ?_
    simp only [tds]
    repeat (first | go_big_quiet_step (fail) | (go_big_quiet_want; first | refine quiet_load mck0 rfl rfl rfl aput ?_; go_big_quiet_on))
    refine wpQuiet_nil ?_
    refine wpMix_eff (by kernel_rfl) ?_
    go_wp2_with fail
    refine (lgstate_any (PN.out.later KD.out).l.g).mono ?_
    rintro e w7 ⟨A7, n7, c7, rfl, m7, k7⟩
    have M7 := Lib.hid m7.b
    have K7 := Lib.hid (KD.out.trans k7 (T := None) (fun _ h => h) (fun _ _ h => h))
    unfold St.v
    clear m7 k7
    go_wp2
    refine MixK.on (InS.mk ((mcH.out _).2 (LD.out _ K7.out))) ?_
    refine wpMix_seg 4 (by kernel_rfl) (by decide) ?_
    simp only [tds]
    repeat (first | go_big_quiet_step (fail) | (go_big_quiet_want; first | refine quiet_load mck0 rfl rfl rfl aput ?_; go_big_quiet_on))
    refine wpQuiet_nil ?_
    refine wpMix_eff (by kernel_rfl) ?_
    go_wp2_with fail
    refine (rgsame_refl st st rfl INV.out INV.out A7 A2 n7 c7 n2 cap2 w7 M7.out (PN.out.later K7.out).l.h.m.b).mono ?_
    rintro e w8 ⟨rfl, k8⟩
    have K8 := Lib.hid (K7.out.trans k8 (T := None) (fun _ h => h) (fun _ _ h => h))
    clear k8
    go_wp2
    refine MixK.on (InS.mk ((mcH.out _).2 (LD.out _ K8.out))) ?_
    refine wpMix_seg 4 (by kernel_rfl) (by decide) ?_
    simp only [tds]
    repeat (first | go_big_quiet_step (fail) | (go_big_quiet_want; first | refine quiet_load mck0 rfl rfl rfl aput ?_; go_big_quiet_on))
    refine wpQuiet_nil ?_
    refine wpMix_eff (by kernel_rfl) ?_
    go_wp2_with fail
    refine (STP.out _ K8.out).mono ?_
    rintro e w' ⟨rfl, rfl⟩
    go_wp2
    refine MixK.on (InS.mk ((mcH.out _).2 (LD.out _ K8.out))) ?_
    refine wpMix_seg 6 (by kernel_rfl) (by decide) ?_
    simp only [tds]
    repeat (first | go_big_quiet_step (fail) | (go_big_quiet_want; first | refine quiet_load mck0 rfl rfl rfl aput ?_; go_big_quiet_on))
    refine wpQuiet_nil ?_
    refine wpMix_nil ?_
    clear mck0 mck1 mcn mcH
    have PE := Lib.hid (PN.out.later K8.out)
    go_wp2
    go_roundg G
    case measure => omega
    case rel => exact ⟨i + 1, X, lb, jb, A, n, cap, lr, jr, Y, A2, n2, cap2, s, r, j, st, by have := HIG.out; omega, by go_num, rfl, rfl, PE.out⟩
  ·have d1 : decide ((i : Int) < (n0 : Int)) = false := decide_eq_false (by omega)
   have d1n : decide (i < n0) = false := decide_eq_false hlt
   have BL : Hid (s.b.length = 2048) := PP.out.lp.g.bl
   obtain ⟨gbr, capb, hTB⟩ := RAt.told B1 Y.L r (q := qr) (N := 2048) (zs := s.b) PP.out.l.h.lj.at_.hq PP.out.sm.b BL.out
   have TB := Lib.hid hTB
   have hpk : s.peekF 0 2048 = s.b := by
    exact peek_all BL.out
   have PK := Lib.hid (fun w' (k : Keeps None wv w') => lpeek (PP.out.later k).l.g.lj.lf 0 2048)
   rw [hpk] at PK
   obtain ⟨sz, hsz⟩ : ∃ sz, strOf s.b = sz := ⟨_, rfl⟩
   have HSZ := Lib.hid hsz
   have qz : (sz.toList == sz.toList) = true := by simp
   have KD : Hid (Keeps None wv wv.drew) := (Keeps.refl None wv).drew
   have TBX := Lib.hid (fun w' (k : Keeps None wv w') => TB.out w' (PP.out.later k).l.h.lj.at_.f)
   clear hTB hpk hsz hlt
   go_wp2
   obtain ⟨mtS, mth⟩ : ∃ S : World → Prop, ∀ w', S w' ↔ (w'.cell? ⟨qr, 0, none⟩ = some (.slice (some ⟨gbr, 0, none⟩) 2048 capb) ∧ ((convert 37 9 (.slice (some ⟨gbr, 0, none⟩) 2048 capb)).run Tryz.prog w' = .ok (.string sz) w')) := ⟨_, fun _ => Iff.rfl⟩
   have mtk0 : ∀ x : Memb mtS, x.at_.cell? ⟨qr, 0, none⟩ = some (.slice (some ⟨gbr, 0, none⟩) 2048 capb) := fun x => ((mth _).1 x.is).1
   have mtk1 : ∀ x : Memb mtS, (convert 37 9 (.slice (some ⟨gbr, 0, none⟩) 2048 capb)).run Tryz.prog x.at_ = .ok (.string sz) x.at_ := fun x => ((mth _).1 x.is).2
   have mtn : Nonempty (Memb mtS) := ⟨⟨(wv).drew, (mth _).2 ⟨(TBX.out _ KD.out).1, (HSZ.out ▸ run_str (TBX.out _ KD.out).2)⟩⟩⟩
   have mtH := Lib.hid mth
   clear mth
   refine wp_region_mix [4, 5] (InS mtS) (by kernel_rfl) (by kernel_rfl) (InS.mk ((mtH.out _).2 ⟨(TBX.out _ KD.out).1, (HSZ.out ▸ run_str (TBX.out _ KD.out).2)⟩)) ?_
   refine wpMix_seg 4 (by kernel_rfl) (by decide) ?_
   simp only [tds]
   repeat (first | go_big_quiet_step (fail) | (go_big_quiet_want; first | refine quiet_conv mtk1 rfl rfl rfl aput ?_; go_big_quiet_on))
   refine wpQuiet_nil ?_
   refine wpMix_eff (by kernel_rfl) ?_
   go_wp2_with fail
   refine (PK.out _ KD.out).mono ?_
   rintro e w8 ⟨v8, rfl, o8, k8⟩
   obtain ⟨A8, c8, rfl, b8⟩ := slice_of_own o8
   rw [BL.out] at b8 ⊢
   have K8 := Lib.hid (KD.out.trans k8 (T := None) (fun _ h => h) (fun _ _ h => h))
   have sd := run_str b8
   rw [HSZ.out] at sd
   clear o8 b8 k8
   go_wp2
   refine MixK.on (InS.mk ((mtH.out _).2 (⟨(TBX.out _ K8.out).1, HSZ.out ▸ run_str (TBX.out _ K8.out).2⟩))) ?_
   refine wpMix_eff (by kernel_rfl) ?_
   go_wp2
   refine MixK.on (InS.mk ((mtH.out _).2 (⟨(TBX.out _ K8.out).1, HSZ.out ▸ run_str (TBX.out _ K8.out).2⟩))) ?_
   refine wpMix_seg 8 (by kernel_rfl) (by decide) ?_
   simp only [tds]
   repeat (first | go_big_quiet_step (fail) | (go_big_quiet_want; first | refine quiet_conv mtk1 rfl rfl rfl aput ?_; go_big_quiet_on))
   refine wpQuiet_nil ?_
   refine wpMix_nil ?_
   clear mtk0 mtk1 mtn mtH
   have KF := Lib.hid (PP.out.l.g.lj.keeps.trans K8.out (T := None) (fun _ h => h) (fun _ _ h => h))
   go_wp2
   go_ret
   exact ⟨by first | rfl | simp, KF.out.below (fun _ _ h => h)⟩
set_option maxRecDepth 100000 in
theorem LedgerPlays_lifted (os : Os) (started : os.Started) (H : Type) (enc : TypeId × Value → H) :
    ReturnsInHanded {} Tryz.checked os 3 .any (Rows.ledgerPlaysSpec.pre6 enc Tryz.prog Tryz.f3 Rows.ledgerPlaysRow.domain false) (Rows.ledgerPlaysSpec.post enc Tryz.prog Tryz.f3 false true false false) := by
 refine returnsInHanded_of_change (C := Tryz.checked) Tryz.own started (by kernel_rfl) Tryz.func3
  (ChangeSpec.witness6 (enc := enc) (C := Tryz.checked) false ⟨#[], #[.slice none 0 0], []⟩ 8 (by kernel_rfl) (by kernel_rfl) (by kernel_rfl) (by kernel_rfl)) ?_
 intro W base args ds gs before hval0 hW hcnd _
 have hval : ∀ (j : Nat) t v, Tryz.f3.params[j]? = some t → args[j]? = some v → Value.okWide Tryz.prog W .any base t v := hval0
 have hW' := hW
 obtain ⟨p, q, hA0, hV, rfl, hfz, hnd⟩ := hW
 have hA : DataW.TrodAll enc Tryz.prog W 0 (fun _ => true) true Tryz.f3.params.toList args.toList ds p := hA0
 rw [Tryz.params3] at hA hval
 obtain ⟨v0, vs0, d0, ds0, p0, q0, hargs, rfl, rfl, h0, r0⟩ := trodAll_cons hA
 obtain ⟨rfl, rfl, rfl⟩ := trodAll_nil r0
 obtain rfl : args = #[v0] := by cases args; simp_all
 obtain ⟨rfl, rfl⟩ := trodVars_none hV
 have k0 := h0
 have lt0 : ∀ x ∈ p0, x.block < W.heap.size := by obtain ⟨m, hm⟩ := k0; exact DataW.trod_lt m _ _ _ hm
 obtain ⟨a0, len0, cap0, rfl⟩ := okWide_slice Tryz.underlying22 (hval 0 22 v0 rfl rfl)
 obtain ⟨z0, s0⟩ := open_acts h0
 clear hA0 hval0
 refine (plays23_any a0 len0 cap0 z0 W s0).mono fun e W' ⟨he, bel⟩ => ?_
 subst he
 exact ⟨_, rfl, _, _, _, [], _, [], hW', trodAll_mk1 (shut_bool Tryz.underlying4 _), (trodAll_cons_mk (Below.trod Tryz.laidOut (by kernel_rfl) (of_decide_eq_true (by kernel_rfl)) k0 bel lt0) trodAll_mk0), rfl, bel.frame _, fun h => by cases h⟩
set_option maxRecDepth 100000 in
theorem LedgerPlays_closed : joinedFacts Tryz.checked.prog 3 Tryz.f3 Rows.ledgerPlaysSpec Rows.ledgerPlaysRow = true := by
 unfold joinedFacts
 rw [closed_laid, closed_maps, closed_heard, closed_plain, closed_mayEnter, closed_lifts, closed_make]
 kernel_rfl
theorem LedgerPlays_holds : Rows.LedgerPlaysSaid :=
  OpenClaim.holds_of_wide 3 Tryz.f3 rfl rfl rfl rfl rfl rfl rfl ⟨rfl, rfl, rfl, rfl, rfl⟩ rfl rfl rfl rfl rfl (by kernel_rfl) Tryz.func3 LedgerPlays_closed
    (of_decide_eq_true (by kernel_rfl)) (by unfold Func.isWrapper; first | (rw [if_pos (by decide +kernel)]; kernel_rfl) | (rw [if_neg (by decide +kernel)]; exact ⟨rfl, rfl⟩))
    (fun os started H enc _ => LedgerPlays_lifted os started H enc)
#print axioms LedgerPlays_holds
end Go.Proofs.YtobgbilanibodaaGreat
