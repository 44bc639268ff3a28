/- token.read in plain words, and its walk. -/
import Derived.Test.YtggjdkkobhefeaaTkFeed
import Derived.Test.YtggjdkkobhefeaaTkWalk2
namespace Go.Proofs.Ytggjdkkobhefeaa
open Go.RowKit

theorem dEat_ok (s : DSt) (zs : List Int) (hz : ∀ z ∈ zs, 0 ≤ z ∧ z ≤ 255) (h : DOk s) : DOk (dEat s zs) := by
  induction zs generalizing s with
  | nil => exact h
  | cons z zs ih => exact ih _ (fun y hy => hz y (List.mem_cons_of_mem _ hy)) (h.byte z (hz z List.mem_cons_self))
/-- What read tells, with so many steps. -/
def readN (plain : Nat) : Nat → RdS → DSt → List Int → Nat → List Tok → Option (List Tok)
  | 0, _, _, _, _, _ => none
  | f + 1, s, d, zs, md, out =>
    if fedB d zs = false then none
    else if md = plain then some out
    else
      if rTok s (dEat d (zs.take d.n.toNat)) = true then
        if mayT (rNext s (dEat d (zs.take d.n.toNat))).t md = true ∧ longT (rNext s (dEat d (zs.take d.n.toNat))).t ≤ (plain : Int) - md then
          readN plain f (rNext s (dEat d (zs.take d.n.toNat))) (rDec s (dEat d (zs.take d.n.toNat))) (zs.drop d.n.toNat) (md + (longT (rNext s (dEat d (zs.take d.n.toNat))).t).toNat) (out ++ [(rNext s (dEat d (zs.take d.n.toNat))).t])
        else none
      else readN plain f (rNext s (dEat d (zs.take d.n.toNat))) (rDec s (dEat d (zs.take d.n.toNat))) (zs.drop d.n.toNat) md out
def dst0 : DSt := ⟨0, 4294967295, 4⟩
def readP (zs : List Int) (plain : Nat) : Option (List Tok) := readN plain (plain * 1000 + 1000) rd0 dst0 zs 0 []
def muR (s : RdS) : Nat := if s.part = 0 then (1000 - s.node).toNat else if s.part = 1 then (256 - s.node).toNat else if s.part = 2 then (456 - s.node).toNat else if s.part = 3 then (164 - s.node).toNat else (64 - s.node).toNat
theorem muR_le {s : RdS} (h : ROk s) : muR s ≤ 999 := by
  have := h.n1
  unfold muR
  repeat (split; omega)
  omega
theorem muR_next {s : RdS} {d : DSt} (h : ROk s) (ht : rTok s d = false) : muR (rNext s d) < muR s := by
  have hb := rBit_01 s d
  obtain ⟨mok, hp, n1, n2, d0, d4, wf⟩ := h
  by_cases hf : rFull s d = true
  · have hd : rDone s = false := by unfold rTok at ht; rw [hf] at ht; exact ht
    unfold rNext
    rw [if_pos hf]
    generalize 2 * s.node + rBit s d - 2 ^ szP s.part = v at *
    obtain ⟨m, part, node, t⟩ := s
    generalize rLearn _ d = mm at *
    simp only [] at hp n1 n2
    have hd : ¬ (part = 1 ∨ part = 4) := of_decide_eq_false hd
    obtain rfl | rfl | rfl : part = 0 ∨ part = 2 ∨ part = 3 := by omega
    · have n2 : node < 2 := n2
      have e : muR ⟨m, 0, node, t⟩ = (1000 - node).toNat := rfl
      rw [e]
      unfold rWhole
      rw [if_pos rfl]
      by_cases hv : v = 1
      · have e2 : ∀ x y, muR ⟨x, if v = 1 then 2 else 1, 1, y⟩ = 455 := fun x y => by rw [if_pos hv]; rfl
        rw [e2]; omega
      · have e2 : ∀ x y, muR ⟨x, if v = 1 then 2 else 1, 1, y⟩ = 255 := fun x y => by rw [if_neg hv]; rfl
        rw [e2]; omega
    · have n2 : node < 256 := n2
      show (164 - (1 : Int)).toNat < (456 - node).toNat
      omega
    · have n2 : node < 64 := n2
      show (64 - (1 : Int)).toNat < (164 - node).toNat
      omega
  · unfold rNext
    rw [if_neg hf]
    have hf : ¬ (2 : Int) ^ szP s.part ≤ 2 * s.node + rBit s d := fun h => hf (decide_eq_true h)
    generalize rBit s d = bb at *
    obtain ⟨m, part, node, t⟩ := s
    generalize rLearn _ d = mm at *
    simp only [] at hp n1 n2 hf
    obtain rfl | rfl | rfl | rfl | rfl : part = 0 ∨ part = 1 ∨ part = 2 ∨ part = 3 ∨ part = 4 := by omega
    · have hf : ¬ (2 : Int) ≤ 2 * node + bb := hf
      omega
    · have hf : ¬ (256 : Int) ≤ 2 * node + bb := hf
      show (256 - (2 * node + bb)).toNat < (256 - node).toNat
      omega
    · have hf : ¬ (256 : Int) ≤ 2 * node + bb := hf
      show (456 - (2 * node + bb)).toNat < (456 - node).toNat
      omega
    · have hf : ¬ (64 : Int) ≤ 2 * node + bb := hf
      show (164 - (2 * node + bb)).toNat < (164 - node).toNat
      omega
    · have hf : ¬ (64 : Int) ≤ 2 * node + bb := hf
      show (64 - (2 * node + bb)).toNat < (64 - node).toNat
      omega

/-- A slice that lies below block b. -/
def LB (A : Option Addr) (b : Nat) : Prop := ∀ b' off, A = some ⟨b', off, none⟩ → b' < b
theorem LB.nb {A : Option Addr} {b : Nat} (h : LB A b) : NB A b := fun b' off e => Nat.ne_of_lt (h b' off e)
theorem LB.of {A A' : Option Addr} {b : Nat} (h : LB A b) (k : SB A A') : LB A' b := fun b' o e => by obtain ⟨o2, e2⟩ := k b' o e; exact h b' o2 e2
def ReadDone (w : World) (r : Option (List Tok)) (e : Ending) (w' : World) : Prop :=
  ∃ v, e = .returned (.tuple #[v, .bool r.isSome]) ∧ OwnT w' w.heap.size v (r.getD []) ∧ (∀ t ∈ r.getD [], TokWf t) ∧ Keeps None w w'
set_option maxRecDepth 100000 in
set_option maxHeartbeats 3200000 in
theorem tkread_any (A : Option Addr) (n cap plain : Nat) (zs : List Int) (W : World) (h : Bs W A n cap zs) (hpl : plain ≤ 8192) :
    Calls Try.prog 60 #[.slice A n cap, .int .i64 plain] W (ReadDone W (readP zs plain)) := by
  have hle := h.le
  have hmx := h.max
  have HB := Lib.hid h
  have NBA : Hid (0 < n → LB A W.heap.size) := fun hn b' off e => by
    obtain ⟨bb, oo, e2, hb, _⟩ := h.at_ hn
    rw [e2] at e
    cases e
    exact hb
  obtain ⟨res, hres⟩ : ∃ x, readP zs plain = x := ⟨_, rfl⟩
  rw [hres]
  have HR : Hid (readN plain (plain * 1000 + 1000) rd0 dst0 zs 0 [] = res) := hres
  obtain ⟨db, hdb⟩ : ∃ x, W.heap.size = x := ⟨_, rfl⟩
  have HDB := Lib.hid hdb
  rw [hdb] at NBA
  clear h hres
  go_enter Try.func60, Try.ntmps60
  go_wp2_with fail
  refine (dnew_any W).mono ?_
  rw [hdb]
  rintro e w1 ⟨rfl, d1, k1⟩
  have D1 := Lib.hid d1
  have K1 := Lib.hid k1
  have L1 := Lib.hid d1.lt
  clear d1 k1 hdb
  go_wp2_with fail
  refine (tknew_any w1).mono ?_
  rintro e w2 ⟨T, rfl, s2, t2, o2, l2, k2⟩
  obtain ⟨sb, b1, g1, b2, g2, b3, g3⟩ := T
  have NE : Hid (db < g1 ∧ g1 < sb ∧ sb < w2.heap.size) := by
    obtain ⟨o1, o2, o3, o4, o5, o6⟩ := o2
    have h1 := s2.lt
    have h2 := L1.out
    dsimp only at o1 o2 o3 o4 o5 o6 h1 l2
    exact ⟨by omega, by omega, h1⟩
  have RA : Hid (RAt w2 db ⟨sb, b1, g1, b2, g2, b3, g3⟩ rd0 dst0) := ⟨s2, t2, D1.out.keeps k2 (fun h => h), DOk.new, ROk.start, o2, NE.out.1⟩
  have K2 := Lib.hid (K1.out.trans k2 (T := None) (fun _ h => h) (fun _ _ h => h))
  have B2 := Lib.hid (HB.out.keeps K2.out (fun _ _ _ _ _ h => h))
  obtain ⟨B, hB⟩ : ∃ x, w2.heap.size = x := ⟨_, rfl⟩
  have BW : Hid (W.heap.size ≤ B) := by show _ ≤ _; rw [← hB]; exact K2.out.size
  have SZ2 := Lib.hid hB
  rw [hB] at NE
  have dbB : db < B := by have := NE.out; omega
  clear s2 t2 o2 l2 k2 D1 K1 L1 hB
  dsimp only
  go_wp2
  go_loopg [0, 8, 9] (plain * 1000 + 1000) (fun g bv ov mv wr => ∃ (s : RdS) (d : DSt) (ys : List Int) (md : Nat) (out : List Tok) (A' : Option Addr) (n' c' : Nat), bv = .slice A' n' c' ∧ mv = .int .i64 md ∧ md ≤ plain ∧ (plain - md) * 1000 + muR s < g ∧ readN plain g s d ys md out = res ∧ Bs wr A' n' c' ys ∧ (0 < n' → LB A' db) ∧ RAt wr db ⟨sb, b1, g1, b2, g2, b3, g3⟩ s d ∧ OwnT wr B ov out ∧ (∀ t ∈ out, TokWf t) ∧ out.length ≤ md ∧ B ≤ wr.heap.size ∧ Keeps None W wr)
  case atStart => exact ⟨rd0, dst0, zs, 0, [], A, n, cap, rfl, rfl, Nat.zero_le _, by have := muR_le ROk.start; omega, HR.out, B2.out, NBA.out, RA.out, OwnT.nil _ _, by simp, Nat.zero_le _, Nat.le_of_eq SZ2.out.symm, K2.out⟩
  case round =>
    obtain ⟨s, d, ys, md, out, A', n', c', rfl, rfl, hmd, hg, hr, hb, hnb, hra, ho, hwf, hlen, hsz, hk⟩ := hrel
    obtain ⟨G, rfl⟩ : ∃ G, gk = G + 1 := ⟨gk - 1, by omega⟩
    have FD := Lib.hid (tkfeed_any db A' n' c' ys d wr hb hra.dc hra.dk.inv (fun h => (hnb h).nb))
    have RR : Hid (res = if fedB d ys = false then none
      else if md = plain then some out
      else
        if rTok s (dEat d (ys.take d.n.toNat)) = true then
          if mayT (rNext s (dEat d (ys.take d.n.toNat))).t md = true ∧ longT (rNext s (dEat d (ys.take d.n.toNat))).t ≤ (plain : Int) - md then
            readN plain G (rNext s (dEat d (ys.take d.n.toNat))) (rDec s (dEat d (ys.take d.n.toNat))) (ys.drop d.n.toNat) (md + (longT (rNext s (dEat d (ys.take d.n.toNat))).t).toNat) (out ++ [(rNext s (dEat d (ys.take d.n.toNat))).t])
          else none
        else readN plain G (rNext s (dEat d (ys.take d.n.toNat))) (rDec s (dEat d (ys.take d.n.toNat))) (ys.drop d.n.toNat) md out) := hr.symm
    have DE := Lib.hid (dEat_ok d (ys.take d.n.toNat) (fun z hz => hb.byte z (List.mem_of_mem_take hz)) hra.dk)
    have YL := Lib.hid hb.len
    have HNB := Lib.hid hnb
    have HRA := Lib.hid hra
    have HO := Lib.hid ho
    have HWF := Lib.hid hwf
    have HK := Lib.hid hk
    have HG := Lib.hid hg
    have HSZ := Lib.hid hsz
    obtain ⟨wv, rfl⟩ : ∃ x, x = wr := ⟨_, rfl⟩
    clear hr hb hnb hra ho hwf hk hg hsz RA B2 K2 HR HB
    go_wp2_with fail
    refine FD.out.mono ?_
    rintro e w3 ⟨A2, n2, c2, rfl, k3, hf3⟩
    have O3 := Lib.hid (HO.out.keeps k3 (fun b hb e => by have := HO.out.block hb; have e : b = db := e; omega))
    have K3 := Lib.hid (HK.out.trans k3 (T := None) (fun _ h => h) (fun k hk (e : k = db) => by have := HDB.out; omega))
    have SZ3 : Hid (B ≤ w3.heap.size) := Nat.le_trans HSZ.out k3.size
    cases hfd : fedB d ys with
    | false =>
      have RES : Hid (res = none) := by show _ = _; rw [RR.out, if_pos hfd]
      clear FD hf3 k3 hfd RR
      -- nothing is told
      go_wp2
      go_ret2
      exact ⟨_, by rw [RES.out]; rfl, by rw [RES.out]; exact OwnT.nil _ _, by rw [RES.out]; simp, K3.out⟩
    | true =>
    obtain ⟨hn2, hb3, hsb3, hd3⟩ := hf3 hfd
    have NB3 : Hid (0 < n2 → LB A2 db) := fun h0 => (HNB.out (by have := YL.out; omega)).of hsb3
    obtain ⟨dd, hdd⟩ : ∃ x, dEat d (ys.take d.n.toNat) = x := ⟨_, rfl⟩
    obtain ⟨yy, hyy⟩ : ∃ x, ys.drop d.n.toNat = x := ⟨_, rfl⟩
    rw [hdd, hyy] at RR
    rw [hdd] at DE hd3
    rw [hyy] at hb3
    have RR3 : Hid (res = if md = plain then some out else if rTok s dd = true then
          if mayT (rNext s dd).t md = true ∧ longT (rNext s dd).t ≤ (plain : Int) - md then
            readN plain G (rNext s dd) (rDec s dd) yy (md + (longT (rNext s dd).t).toNat) (out ++ [(rNext s dd).t])
          else none
        else readN plain G (rNext s dd) (rDec s dd) yy md out) := by show _ = _; rw [RR.out, if_neg (by rw [hfd]; decide)]
    have B3 := Lib.hid hb3
    have RA3 : Hid (RAt w3 db ⟨sb, b1, g1, b2, g2, b3, g3⟩ s dd) := by
      have q := HRA.out
      obtain ⟨o1, o2, o3, o4, o5, o6⟩ := q.ord
      have l0 := q.lo
      dsimp only at o1 o2 o3 o4 o5 o6 l0
      exact ⟨k3.blk q.st (by show ¬ sb = db; omega), q.tr.keeps k3 (fun k h1 h2 => by show ¬ k = db; have h1 : g1 ≤ k := h1; omega) q.ord, hd3, DE.out, q.ok, q.ord, q.lo⟩
    clear FD hf3 k3 hfd RR hdd hyy hb3 hsb3 hd3 DE HRA HO HK HSZ HNB YL
    by_cases hmp : md = plain
    · subst hmp
      have RES : Hid (res = some out) := by show _ = _; rw [RR3.out, if_pos rfl]
      go_wp2
      go_ret2
      exact ⟨_, by rw [RES.out]; rfl, by rw [RES.out]; exact O3.out.lower BW.out, by rw [RES.out]; exact HWF.out, K3.out⟩
    have e1 : ((md : Int) == plain) = false := by simp; omega
    have mdl : md < plain := by omega
    have NX := Lib.hid (tknext_any db ⟨sb, b1, g1, b2, g2, b3, g3⟩ s dd w3 RA3.out)
    go_wp2_with fail
    refine NX.out.mono ?_
    rintro e w4 ⟨he, h4, k4⟩
    have RA4 := Lib.hid h4
    have O4 := Lib.hid (O3.out.keeps k4 (fun b hb e => by have := O3.out.block hb; have e : b = db ∨ (g1 ≤ b ∧ b ≤ sb) := e; have := NE.out; omega))
    have B4 := Lib.hid (B3.out.keeps k4 (fun b off h0 hb e hh => by
      have hn := NB3.out h0 b off e
      have hh : b = db ∨ (g1 ≤ b ∧ b ≤ sb) := hh
      have := NE.out
      omega))
    have K4 := Lib.hid (K3.out.trans k4 (T := None) (fun _ h => h) (fun k hk e => by have e : k = db ∨ (g1 ≤ k ∧ k ≤ sb) := e; have := HDB.out; have := NE.out; omega))
    have SZ4 : Hid (B ≤ w4.heap.size) := Nat.le_trans SZ3.out k4.size
    clear NX h4 k4 O3 B3 K3 SZ3
    cases hrt : rTok s dd with
    | false =>
      have MU := Lib.hid (muR_next RA3.out.ok hrt)
      have RES : Hid (readN plain G (rNext s dd) (rDec s dd) yy md out = res) := by show _ = _; rw [RR3.out, if_neg (by omega), if_neg (by rw [hrt]; decide)]
      rw [hrt, if_neg (by decide)] at he
      subst he
      unfold tagg
      clear hrt RR3 RA3
      have KX : Hid (Keeps None w4 (w4.alloc (.cells #[.int .i64 0, .int .i64 0, .int .u8 0] 43))) := (Keeps.refl None w4).alloc _
      go_wp2
      go_roundg G
      case measure => omega
      case rel => exact ⟨rNext s dd, rDec s dd, yy, md, out, A2, n2, c2, rfl, rfl, hmd, by have := MU.out; have := HG.out; omega, RES.out, B4.out.keeps KX.out (fun _ _ _ _ _ h => h), NB3.out, RA4.out.later KX.out, O4.out.keeps KX.out (fun _ _ h => h), HWF.out, hlen, Nat.le_trans SZ4.out KX.out.size, K4.out.trans KX.out (fun _ h => h) (fun _ _ h => h)⟩
    | true =>
      rw [hrt, if_pos rfl] at he
      have RR5 : Hid (res = if mayT (rNext s dd).t md = true ∧ longT (rNext s dd).t ≤ (plain : Int) - md then
            readN plain G (rNext s dd) (rDec s dd) yy (md + (longT (rNext s dd).t).toNat) (out ++ [(rNext s dd).t])
          else none) := by show _ = _; rw [RR3.out, if_neg (by omega), if_pos hrt]
      have MU := Lib.hid (muR_le RA4.out.ok)
      have WT := Lib.hid RA4.out.ok.wf
      obtain ⟨sn, hsn⟩ : ∃ x, rNext s dd = x := ⟨_, rfl⟩
      rw [hsn] at RR5 MU RA4 he WT
      obtain ⟨⟨tn, td, tb⟩, htt⟩ : ∃ x, sn.t = x := ⟨_, rfl⟩
      rw [htt] at RR5 he WT
      subst he
      unfold tagg
      have wt := WT.out
      obtain ⟨wa, wb, wc, wd, we, wg⟩ := wt
      dsimp only at wa wb wc wd we wg
      have KX : Hid (Keeps None w4 (w4.alloc (.cells #[.int .i64 tn, .int .i64 td, .int .u8 tb] 43))) := (Keeps.refl None w4).alloc _
      have BX : Hid (Blk (w4.alloc (.cells #[.int .i64 tn, .int .i64 td, .int .u8 tb] 43)) w4.heap.size (tcell ⟨tn, td, tb⟩) 43) := Blk.new w4 (tcell ⟨tn, td, tb⟩) 43
      have MAY := Lib.hid (fun w' => tkmay_any tn td tb md w')
      have LON := Lib.hid (fun w' => tklong2_any tn td tb w')
      clear hrt RR3 RA3 hsn htt
      go_wp2_with fail
      refine (MAY.out _).mono ?_
      rintro e w5 ⟨rfl, k5⟩
      have K45 := Lib.hid (KX.out.trans k5 (T := None) (fun _ h => h) (fun _ _ h => h))
      have K5 := Lib.hid (K4.out.trans K45.out (T := None) (fun _ h => h) (fun _ _ h => h))
      have B5 := Lib.hid (k5.blk BX.out (fun h => h))
      clear k5 KX BX K4
      cases hmay : mayT ⟨tn, td, tb⟩ md with
      | false =>
        have RES : Hid (res = none) := by show _ = _; rw [RR5.out, if_neg (by rw [hmay]; simp)]
        clear RR5 hmay
        -- nothing is told
        go_wp2
        go_ret2
        exact ⟨_, by rw [RES.out]; rfl, by rw [RES.out]; exact OwnT.nil _ _, by rw [RES.out]; simp, K5.out⟩
      | true =>
      obtain ⟨lp1, lp2⟩ := longT_pos hmay
      obtain ⟨ln, hln⟩ : ∃ x : Nat, longT ⟨tn, td, tb⟩ = x := ⟨(longT ⟨tn, td, tb⟩).toNat, by omega⟩
      rw [hln] at RR5 LON lp1 lp2
      have c0 := B5.out.cellD 0 _ rfl
      have c1 := B5.out.cellD 1 _ rfl
      have c2 := B5.out.cellD 2 _ rfl
      go_wp2_with fail
      refine (LON.out _).mono ?_
      rintro e w6 ⟨rfl, k6⟩
      have K46 := Lib.hid (K45.out.trans k6 (T := None) (fun _ h => h) (fun _ _ h => h))
      have K6 := Lib.hid (K5.out.trans k6 (T := None) (fun _ h => h) (fun _ _ h => h))
      have B6 := Lib.hid (k6.blk B5.out (fun h => h))
      clear k6 K45 B5 K5 c0 c1 c2
      by_cases hfit : (ln : Int) ≤ (plain : Int) - md
      · have e2 : decide ((plain : Int) - md < ln) = false := decide_eq_false (by omega)
        have RES : Hid (readN plain G sn (rDec s dd) yy (md + ln) (out ++ [⟨tn, td, tb⟩]) = res) := by show _ = _; rw [RR5.out, if_pos ⟨hmay, hfit⟩, Int.toNat_natCast]
        have c0 := B6.out.cellD 0 _ rfl
        have c1 := B6.out.cellD 1 _ rfl
        have c2 := B6.out.cellD 2 _ rfl
        clear RR5 hmay
        go_wp2_with fail
        refine (LON.out _).mono ?_
        rintro e w7 ⟨rfl, k7⟩
        have K47 := Lib.hid (K46.out.trans k7 (T := None) (fun _ h => h) (fun _ _ h => h))
        have K7 := Lib.hid (K6.out.trans k7 (T := None) (fun _ h => h) (fun _ _ h => h))
        have B7 := Lib.hid (k7.blk B6.out (fun h => h))
        have O7 := Lib.hid (O4.out.keeps K47.out (fun _ _ h => h))
        have SZ7 : Hid (B ≤ w7.heap.size) := Nat.le_trans SZ4.out K47.out.size
        clear k7 B6 K46 K6 c0 c1 c2
        have c0 := B7.out.cellD 0 _ rfl
        have c1 := B7.out.cellD 1 _ rfl
        have c2 := B7.out.cellD 2 _ rfl
        have OL : Hid (out.length ≤ 1000000) := show out.length ≤ 1000000 by omega
        go_wp2_with (at_builtin; refine Hid.out ?_)
        refine Lib.hid ?_
        refine wpList_append_tok (ts := out) (B := B) (T := 43) ⟨tn, td, tb⟩ (O7.out.keeps ((Keeps.refl None w7).alloc _) (fun _ _ h => h)) (Blk.new w7 (tcell ⟨tn, td, tb⟩) 43) OL.out (Nat.le_trans SZ7.out ((Keeps.refl None w7).alloc _).size) rfl rfl rfl rfl rfl ?_
        intro v8 w8 o8 k8
        have K78 := Lib.hid (((Keeps.refl None w7).alloc (.cells #[.int .i64 tn, .int .i64 td, .int .u8 tb] 43)).trans k8 (T := fun k => u8.ownBlock = some k) (fun _ h => h.elim) (fun _ _ h => h))
        have NOB : Hid (∀ k, u8.ownBlock = some k → B ≤ k) := fun k hk => (O7.out.block hk).1
        have NOW : Hid (∀ k, k < W.heap.size → ¬ u8.ownBlock = some k) := fun k hk e => by have := NOB.out k e; have := BW.out; omega
        have K8 := Lib.hid (K7.out.trans K78.out (T := None) (fun _ h => h) (fun k hk e => NOW.out k hk e))
        have B8 := Lib.hid ((B4.out.keeps K47.out (fun _ _ _ _ _ h => h)).keeps K78.out (fun b off h0 hb e hh => by have h1 := NB3.out h0 b off e; have h2 := NOB.out b hh; omega))
        have RA8 := Lib.hid ((RA4.out.later K47.out).keeps K78.out (fun k hk hh => by have hk : k = db ∨ (g1 ≤ k ∧ k ≤ sb) := hk; have h2 := NOB.out k hh; have := NE.out; omega))
        have O8 := Lib.hid o8
        have W8 : Hid (∀ t ∈ out ++ [⟨tn, td, tb⟩], TokWf t) := fun t ht => by
          rcases List.mem_append.1 ht with h | h
          · exact HWF.out t h
          · rw [List.mem_singleton.1 h]; exact WT.out
        have SZ8 : Hid (B ≤ w8.heap.size) := Nat.le_trans SZ7.out K78.out.size
        clear o8 k8 c0 c1 c2 K47 K7 B7 O7 K78 RA4 O4 B4
        go_wp2
        go_roundg G
        case measure => omega
        case rel => exact ⟨sn, rDec s dd, yy, md + ln, _, A2, n2, c2, rfl, by go_num, by omega, by have := MU.out; have := HG.out; omega, RES.out, B8.out, NB3.out, RA8.out, O8.out, W8.out, by simp; omega, SZ8.out, K8.out⟩
      · have e2 : decide ((plain : Int) - md < ln) = true := decide_eq_true (by omega)
        have RES : Hid (res = none) := by show _ = _; rw [RR5.out, if_neg (by intro hh; exact hfit hh.2)]
        clear RR5 hmay
        -- nothing is told
        go_wp2
        go_ret2
        exact ⟨_, by rw [RES.out]; rfl, by rw [RES.out]; exact OwnT.nil _ _, by rw [RES.out]; simp, K6.out⟩
end Go.Proofs.Ytggjdkkobhefeaa
