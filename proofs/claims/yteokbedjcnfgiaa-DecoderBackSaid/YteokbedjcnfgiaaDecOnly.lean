/-
  For every row of bytes, every row of chances and every number of bits, the law DecoderOnly returns true: bytes from which bits were unpacked, and behind which the decoder is Clean, are just those that these bits are packed in. No condition.
-/
import Derived.Test.YteokbedjcnfgiaaDecFill
import Derived.Test.YteokbedjcnfgiaaStrEq
import Derived.Test.YteokbedjcnfgiaaMix2
import Derived.Test.YteokbedjcnfgiaaCodLength
namespace Go.Proofs.Yteokbedjcnfgiaa
open Go.RowKit Go.ChangeShapes Go.WideShapes Go.ChangeAt

/-- A coder and a decoder. -/
structure CD (W w : World) (gc bc bd : Nat) (s : CSt) (d : DSt) : Prop where
  c : CAt w bc gc 93 s.l s.w
  d : DAt w bd 90 d
  keeps : Keeps (fun k => W.heap.size ≤ k) W w
  fresh : W.heap.size ≤ bc ∧ W.heap.size ≤ gc ∧ W.heap.size ≤ bd
  apart : bd ≠ bc ∧ bd ≠ gc
theorem CD.stepC {W w w' : World} {gc bc bd g' : Nat} {s s2 : CSt} {d : DSt} (h : CD W w gc bc bd s d) (hg : g' = gc ∨ w.heap.size ≤ g') (h1 : CAt w' bc g' 93 s2.l s2.w) (hk : Keeps (fun k => k = bc ∨ k = gc) w w') : CD W w' g' bc bd s2 d := by
  obtain ⟨hc, hd, hkk, ⟨f1, f2, f3⟩, a1, a2⟩ := h
  have l1 := Blk.lt hd
  have hs := hkk.size
  exact ⟨h1, hd.keeps hk (by omega), hkk.trans hk (fun _ h => h) (fun x hx h => by omega), ⟨f1, by omega, f3⟩, a1, by omega⟩
theorem CD.stepD {W w w' : World} {gc bc bd : Nat} {s : CSt} {d d2 : DSt} (h : CD W w gc bc bd s d) (h1 : DAt w' bd 90 d2) (hk : Keeps (fun k => k = bd) w w') : CD W w' gc bc bd s d2 := by
  obtain ⟨hc, hd, hkk, ⟨f1, f2, f3⟩, a1, a2⟩ := h
  exact ⟨hc.keeps hk (by omega) (by omega), h1, hkk.trans hk (fun _ h => h) (fun x hx h => by omega), ⟨f1, f2, f3⟩, a1, a2⟩
theorem CD.drewN {W w : World} {gc bc bd : Nat} {s : CSt} {d : DSt} (h : CD W w gc bc bd s d) (n : Nat) : CD W (w.drewN n) gc bc bd s d := ⟨h.c, h.d, h.keeps.drewN n, h.fresh, h.apart⟩
theorem CD.drew {W w : World} {gc bc bd : Nat} {s : CSt} {d : DSt} (h : CD W w gc bc bd s d) : CD W w.drew gc bc bd s d := ⟨h.c, h.d, h.keeps.drew, h.fresh, h.apart⟩
theorem CD.later {W w w' : World} {gc bc bd : Nat} {s : CSt} {d : DSt} (h : CD W w gc bc bd s d) (hk : Keeps None w w') : CD W w' gc bc bd s d := ⟨h.c.keeps hk (fun h => h) (fun h => h), h.d.keeps hk (fun h => h), h.keeps.trans hk (fun _ h => h) (fun _ _ h => h.elim), h.fresh, h.apart⟩
/-- A slice of what came in reads as ever. -/
theorem bs_old {W w : World} {A : Option Addr} {n cap : Nat} {zs : List Int} (h : Bs W A n cap zs) (hk : Keeps (fun k => W.heap.size ≤ k) W w) : Bs w A n cap zs := h.later hk

set_option maxRecDepth 100000 in
set_option maxHeartbeats 3200000 in
theorem only17_any (A A3 : Option Addr) (n cap n3 cap3 : Nat) (N : Int) (zs ps : List Int) (W : World) (h : Bs W A n cap zs) (hl3 : ps.length = n3) (h3 : IsSl W A3 n3 cap3 1 (ps.map (.int .i64))) :
    Calls Try.prog 12 #[.slice A n cap, .slice A3 n3 cap3, .int .i64 N] W fun e w' => e = .returned (.bool true) ∧ Below W.heap.size W w' := by
  have ALV : Hid (∀ w, Calls Try.prog 22 #[] w fun e w' => e = .returned (.bool true) ∧ Below w.heap.size w w') := alive17_any
  by_cases g1 : 60 < n
  · have d1 : decide (60 < (n : Int)) = true := decide_eq_true (by omega)
    clear h h3 hl3
    go_enter Try.func12, Try.ntmps12
    go_wp2_with fail
    refine (ALV.out _).mono ?_
    rintro e w1 ⟨rfl, hk⟩
    go_wp2
    go_ret
    exact ⟨rfl, hk⟩
  have d1 : decide (60 < (n : Int)) = false := decide_eq_false (by omega)
  by_cases g2 : N < 0
  · have d2 : decide (N < 0) = true := decide_eq_true g2
    clear h h3 hl3
    go_enter Try.func12, Try.ntmps12
    go_wp2_with fail
    refine (ALV.out _).mono ?_
    rintro e w1 ⟨rfl, hk⟩
    go_wp2
    go_ret
    exact ⟨rfl, hk⟩
  obtain ⟨M, rfl⟩ : ∃ M : Nat, N = M := ⟨N.toNat, by omega⟩
  have d2 : decide ((M : Int) < 0) = false := decide_eq_false g2
  by_cases g3 : 300 < M
  · have d3 : decide (300 < (M : Int)) = true := decide_eq_true (by omega)
    clear h h3 hl3
    go_enter Try.func12, Try.ntmps12
    go_wp2_with fail
    refine (ALV.out _).mono ?_
    rintro e w1 ⟨rfl, hk⟩
    go_wp2
    go_ret
    exact ⟨rfl, hk⟩
  have d3 : decide (300 < (M : Int)) = false := decide_eq_false (by omega)
  by_cases g4 : n3 < M
  · have d4 : decide ((n3 : Int) < M) = true := decide_eq_true (by omega)
    have d5 : decide (n3 < M) = true := decide_eq_true g4
    clear h h3 hl3
    go_enter Try.func12, Try.ntmps12
    go_wp2_with fail
    refine (ALV.out _).mono ?_
    rintro e w1 ⟨rfl, hk⟩
    go_wp2
    go_ret
    exact ⟨rfl, hk⟩
  have d4 : decide ((n3 : Int) < M) = false := decide_eq_false (by omega)
  have d5 : decide (n3 < M) = false := decide_eq_false g4
  have hle := h.le
  have hmx := h.max
  have hmx3 := h3.2.2.1
  have hcp3 := h3.2.1
  have HB := Lib.hid h
  have HBY := Lib.hid h.byte
  have HL := Lib.hid h.len
  have H3 := Lib.hid h3.2.2.2
  have HL3 := Lib.hid hl3
  have OLD := Lib.hid (show ∀ b off, 0 < n → A = some ⟨b, off, none⟩ → b < W.heap.size from fun b off hn e => by
    obtain ⟨b', o', e', hb, _⟩ := h.at_ hn
    rw [e] at e'; cases e'; exact hb)
  clear h h3 hl3 g2
  go_enter Try.func12, Try.ntmps12
  go_wp2_with fail
  refine (ALV.out _).mono ?_
  rintro e w1 ⟨rfl, hk⟩
  have K1 : Hid (Keeps (fun k => W.heap.size ≤ k) W w1) := ⟨hk.os, hk.tape, hk.output, hk.size, fun i hi _ => hk.block i hi⟩
  clear hk ALV
  go_wp2_with fail
  refine (cnew_any _).mono ?_
  rintro e w2 ⟨rfl, c2, k2⟩
  have C2 := Lib.hid c2
  have KK2 := Lib.hid k2
  clear c2 k2
  go_wp2_with fail
  refine (dnew_any _).mono ?_
  rintro e w3 ⟨rfl, c3, k3⟩
  have key : ∃ gc bc bd, bc = w1.heap.size + 1 ∧ bd = w2.heap.size ∧ CD W w3 gc bc bd ⟨[0, 0, 0, 0], 4294967295⟩ ⟨0, 4294967295, 4⟩ := by
    have l2 := C2.out.ltb
    have l2g := C2.out.ltg
    have s1 := K1.out.size
    exact ⟨w1.heap.size, _, _, rfl, rfl, ⟨C2.out.keeps k3 (fun h => h) (fun h => h), c3, (K1.out.trans KK2.out (fun _ h => h) (fun _ _ h => h.elim)).trans k3 (fun _ h => h) (fun _ _ h => h.elim), by omega, by omega⟩⟩
  obtain ⟨gc0, bc, bd, e1, e2, hkey⟩ := key
  rw [← e1, ← e2]
  have KEY := Lib.hid hkey
  clear hkey e1 e2 K1 C2 KK2 c3 k3
  have hNB : 0 < n → NB A bd := fun hn b' off e => by have := OLD.out b' off hn e; have := KEY.out.fresh; omega
  have FILL := Lib.hid (dfill_any bd A n cap zs ⟨0, 4294967295, 4⟩ w3 (bs_old HB.out KEY.out.keeps) KEY.out.d DInv.new hNB (min 4 n) (by simp))
  go_wp2_with fail
  refine FILL.out.mono ?_
  rintro e w4 ⟨A', n', c', rfl, hn', hb4, sb4, hd4, k4⟩
  have key2 : ∃ j : Nat, n' + j = n ∧ Bs w4 A' n' c' (zs.drop j) ∧ DRel ⟨[0, 0, 0, 0], 4294967295⟩ (dEat ⟨0, 4294967295, 4⟩ (zs.take (min 4 n))) (zs.take j) ∧ (dEat ⟨0, 4294967295, 4⟩ (zs.take (min 4 n))).n = 4 - j := by
    have hlen := HL.out
    have e := DRel.eat (zs.take (min 4 n)) DRel.start (fun z hz => HBY.out z (List.mem_of_mem_take hz)) (by simp; omega)
    rw [List.nil_append] at e
    refine ⟨min 4 n, hn', hb4, e.1, ?_⟩
    rw [e.2, List.length_take, hlen]
    show (4 : Int) - _ = _
    omega
  obtain ⟨j, hnj, hb5, hrel5, -⟩ := key2
  generalize dEat ⟨0, 4294967295, 4⟩ (zs.take (min 4 n)) = ds at *
  have P4 := Lib.hid (KEY.out.stepD hd4 k4)
  have B4 := Lib.hid hb5
  have S4 := Lib.hid sb4
  have R4 := Lib.hid hrel5
  clear hb4 hd4 k4 hb5 sb4 hrel5 FILL KEY hNB hn'
  go_wp2
  go_loopw [10, 11] (fun rv iv wr => ∃ (i gc j : Nat) (cs : CSt) (ds : DSt) (A' : Option Addr) (n' c' : Nat), i ≤ M ∧ iv = .int .i64 i ∧ rv = .slice A' n' c' ∧ n' + j = n ∧ CD W wr gc bc bd cs ds ∧ Bs wr A' n' c' (zs.drop j) ∧ SB A A' ∧ DRel cs ds (zs.take j) ∧ cs.l.length ≤ 4 + i) (fun _ iv _ => M - (intOf iv).toNat)
  case atStart => exact ⟨0, gc0, j, _, ds, A', n', c', Nat.zero_le _, rfl, rfl, hnj, P4.out, B4.out, S4.out, R4.out, by decide⟩
  case round =>
    obtain ⟨i, gc, j, cs, ds, A', n', c', hiM, rfl, rfl, hnj, hP, hB, hS, hR, hln⟩ := hrel
    clear P4 B4 S4 R4
    have hmx' := hB.max
    have hle' := hB.le
    have hn0 := hR.n0
    have ND := Lib.hid (dneed_any bd ds wr hP.d)
    have LO := Lib.hid (dlost_any bd ds wr hP.d)
    have HP := Lib.hid hP
    have HBR := Lib.hid hB
    have HS := Lib.hid hS
    have HR := Lib.hid hR
    have hdi := hR.dok.inv
    clear hP hB hS hR
    by_cases hlt : i < M
    · by_cases hneed : 0 < ds.n
      · have nb : dNeedB ds = true := decide_eq_true hneed
        rw [nb] at ND
        clear nb LO
        go_wp2_with fail
        refine ND.out.mono ?_
        rintro e w' ⟨rfl, rfl⟩
        go_wp2
        go_ret
        exact ⟨rfl, HP.out.keeps.below (fun _ h hh => by omega)⟩
      have hn00 : ds.n = 0 := by omega
      have nb : dNeedB ds = false := decide_eq_false hneed
      rw [nb] at ND
      by_cases hlost : ds.w ≤ ds.c
      · have lb : dLostB ds = true := decide_eq_true ⟨hn00, hlost⟩
        rw [lb] at LO
        clear nb lb
        go_wp2_with fail
        refine ND.out.mono ?_
        rintro e w' ⟨rfl, rfl⟩
        go_wp2_with fail
        refine LO.out.mono ?_
        rintro e w' ⟨rfl, kk, rfl⟩
        go_wp2
        go_ret
        exact ⟨rfl, (HP.out.drewN kk).keeps.below (fun _ h hh => by omega)⟩
      have lb : dLostB ds = false := decide_eq_false (fun h => hlost h.2)
      rw [lb] at LO
      obtain ⟨bl, off, rfl, hb3, hc3⟩ := H3.out (by omega)
      have XP := Lib.hid (fun (w' : World) (hk : Keeps (fun k => W.heap.size ≤ k) W w') => (show w'.cell? ⟨bl, off + i, none⟩ = some (.int .i64 (ps.getD i 0)) from by
        rw [hk.cell (p := ⟨bl, off + i, none⟩) hb3 (by simp; exact hb3), hc3 i (by omega), map_getD 0 (by rw [HL3.out]; omega)]))
      obtain ⟨p, hp⟩ : ∃ p, ps.getD i 0 = p := ⟨_, rfl⟩
      rw [hp] at XP
      obtain ⟨b, hbit, -, hR2⟩ := HR.out.step p hn00 (by omega)
      have R2 := Lib.hid hR2
      have cw0 := HR.out.ok.w0
      have cw1 := HR.out.ok.w1
      have cl := cStep_len cs p (bI b)
      have hlen := HL.out
      have OLDA := Lib.hid (show ∀ b' off', 0 < n' → A' = some ⟨b', off', none⟩ → b' < W.heap.size from fun b' off' hn e => by
        obtain ⟨o2, e2⟩ := HS.out b' off' e
        exact OLD.out b' o2 (by omega) e2)
      have fr := HP.out.fresh
      have c1 := XP.out wr HP.out.keeps
      clear nb lb hp hc3 hb3 hR2 hlost hneed HR
      by_cases hp0 : p = 0
      · subst hp0
        have e1 : dHalfB ds = bI b := by simpa [dStepB] using hbit
        have ed : dStepS ds 0 = dHalfS ds := if_pos rfl
        have ec : cStep cs 0 (bI b) = ⟨cHalfL cs.l cs.w (bI b), cHalfW cs.w⟩ := if_pos rfl
        have DH := Lib.hid (fun w h => dhalf_any bd ds w h hdi)
        rw [e1] at DH
        have CH := Lib.hid (fun w h => chalf_any bc gc cs.l cs.w (bI b) w h (by omega) cw1 (by omega))
        have EC := Lib.hid ec
        have ED := Lib.hid ed
        clear e1 ec ed hbit hdi
        generalize bI b = bit at *
        go_wp2_with fail
        refine ND.out.mono ?_
        rintro e w' ⟨rfl, rfl⟩
        go_wp2_with fail
        refine LO.out.mono ?_
        rintro e w' ⟨rfl, kk, rfl⟩
        have HQ := Lib.hid (HP.out.drewN kk)
        go_wp2_with fail
        refine (DH.out _ HQ.out.d).mono ?_
        rintro e w5 ⟨rfl, d5, k5⟩
        have P5 := Lib.hid (HQ.out.stepD d5 k5)
        have B5 := Lib.hid ((HBR.out.drewN kk).keeps k5 (fun b' off' hn _ e h => by have := OLDA.out b' off' hn e; omega))
        clear d5 k5
        go_wp2_with fail
        refine (CH.out _ P5.out.c).mono ?_
        rintro e w6 ⟨rfl, g6, hg6, h6, k6⟩
        have P6 := Lib.hid (P5.out.stepC (s2 := ⟨cHalfL cs.l cs.w bit, cHalfW cs.w⟩) hg6 h6 k6)
        have B6 := Lib.hid (B5.out.keeps k6 (fun b' off' hn _ e h => by have := OLDA.out b' off' hn e; omega))
        rw [← EC.out, ← ED.out] at P6
        clear hg6 h6 k6 EC ED DH CH B5 P5 HQ HBR ND LO
        generalize dStepS ds 0 = ds2 at *
        generalize cStep cs 0 bit = cs2 at *
        have hNB : 0 < n' → NB A' bd := fun hn b' off e => by have := OLDA.out b' off hn e; omega
        have hdr : (zs.drop j).length = n' := by rw [List.length_drop]; omega
        have FILL := Lib.hid (dfill_any bd A' n' c' (zs.drop j) ds2 w6 B6.out P6.out.d R2.out.dok.inv hNB (min ds2.n.toNat n') rfl)
        have hEat := DRel.eat ((zs.drop j).take (min ds2.n.toNat n')) R2.out (fun z hz => HBY.out z (List.mem_of_mem_drop (List.mem_of_mem_take hz))) (by rw [List.length_take, hdr]; have := R2.out.n0; omega)
        rw [← List.take_add] at hEat
        have R3 := Lib.hid hEat.1
        clear hEat hNB R2 hdr B6
        generalize min ds2.n.toNat n' = J at *
        generalize dEat ds2 ((zs.drop j).take J) = ds3 at *
        go_wp2_with fail
        refine FILL.out.mono ?_
        rintro e w7 ⟨A7, n7, c7, rfl, hn7, hb7, sb7, hd7, k7⟩
        have P7 := Lib.hid (P6.out.stepD hd7 k7)
        rw [List.drop_drop] at hb7
        have B7 := Lib.hid hb7
        have S7 := Lib.hid (HS.out.trans sb7)
        clear hb7 sb7 hd7 k7 FILL P6
        go_wp2
        go_roundw
        case rel => exact ⟨i + 1, g6, j + J, cs2, ds3, A7, n7, c7, by omega, by go_num, rfl, by omega, P7.out, B7.out, S7.out, R3.out, by omega⟩
        case measure => simp [intOf]; omega
      · have q1 : (p == 0) = false := by simpa using hp0
        have e1 : dBitB ds p = bI b := by rw [← hbit]; unfold dStepB; rw [if_neg hp0]
        have ed : dStepS ds p = dBitS ds p := if_neg hp0
        have ec : cStep cs p (bI b) = ⟨cBitL cs.l cs.w p (bI b), cBitW cs.w p (bI b)⟩ := if_neg hp0
        have DH := Lib.hid (fun w h => dbit_any bd ds p w h hdi)
        rw [e1] at DH
        have CH := Lib.hid (fun w h => cbit_any bc gc cs.l cs.w p (bI b) w h (by omega) cw1 (by omega))
        have EC := Lib.hid ec
        have ED := Lib.hid ed
        clear e1 ec ed hbit hdi hp0
        generalize bI b = bit at *
        generalize dBitP ds p = nx at *
        go_wp2_with fail
        refine ND.out.mono ?_
        rintro e w' ⟨rfl, rfl⟩
        go_wp2_with fail
        refine LO.out.mono ?_
        rintro e w' ⟨rfl, kk, rfl⟩
        have HQ := Lib.hid (HP.out.drewN kk)
        go_wp2_with fail
        refine (DH.out _ HQ.out.d).mono ?_
        rintro e w5 ⟨rfl, d5, k5⟩
        have P5 := Lib.hid (HQ.out.stepD d5 k5)
        have B5 := Lib.hid ((HBR.out.drewN kk).keeps k5 (fun b' off' hn _ e h => by have := OLDA.out b' off' hn e; omega))
        have c5 := XP.out w5 P5.out.keeps
        clear d5 k5
        go_wp2_with fail
        refine (CH.out _ P5.out.c).mono ?_
        rintro e w6 ⟨rfl, g6, hg6, h6, k6⟩
        have P6 := Lib.hid (P5.out.stepC (s2 := ⟨cBitL cs.l cs.w p bit, cBitW cs.w p bit⟩) hg6 h6 k6)
        have B6 := Lib.hid (B5.out.keeps k6 (fun b' off' hn _ e h => by have := OLDA.out b' off' hn e; omega))
        rw [← EC.out, ← ED.out] at P6
        clear hg6 h6 k6 EC ED DH CH B5 P5 HQ HBR ND LO c5
        generalize dStepS ds p = ds2 at *
        generalize cStep cs p bit = cs2 at *
        have hNB : 0 < n' → NB A' bd := fun hn b' off e => by have := OLDA.out b' off hn e; omega
        have hdr : (zs.drop j).length = n' := by rw [List.length_drop]; omega
        have FILL := Lib.hid (dfill_any bd A' n' c' (zs.drop j) ds2 w6 B6.out P6.out.d R2.out.dok.inv hNB (min ds2.n.toNat n') rfl)
        have hEat := DRel.eat ((zs.drop j).take (min ds2.n.toNat n')) R2.out (fun z hz => HBY.out z (List.mem_of_mem_drop (List.mem_of_mem_take hz))) (by rw [List.length_take, hdr]; have := R2.out.n0; omega)
        rw [← List.take_add] at hEat
        have R3 := Lib.hid hEat.1
        clear hEat hNB R2 hdr B6
        generalize min ds2.n.toNat n' = J at *
        generalize dEat ds2 ((zs.drop j).take J) = ds3 at *
        go_wp2_with fail
        refine FILL.out.mono ?_
        rintro e w7 ⟨A7, n7, c7, rfl, hn7, hb7, sb7, hd7, k7⟩
        have P7 := Lib.hid (P6.out.stepD hd7 k7)
        rw [List.drop_drop] at hb7
        have B7 := Lib.hid hb7
        have S7 := Lib.hid (HS.out.trans sb7)
        clear hb7 sb7 hd7 k7 FILL P6
        go_wp2
        go_roundw
        case rel => exact ⟨i + 1, g6, j + J, cs2, ds3, A7, n7, c7, by omega, by go_num, rfl, by omega, P7.out, B7.out, S7.out, R3.out, by omega⟩
        case measure => simp [intOf]; omega
    · obtain rfl : i = M := by omega
      by_cases hneed : 0 < ds.n
      · have nb : dNeedB ds = true := decide_eq_true hneed
        rw [nb] at ND
        clear nb LO
        go_wp2_with fail
        refine ND.out.mono ?_
        rintro e w' ⟨rfl, rfl⟩
        go_wp2
        go_ret
        exact ⟨rfl, HP.out.keeps.below (fun _ h hh => by omega)⟩
      have hn00 : ds.n = 0 := by omega
      have nb : dNeedB ds = false := decide_eq_false hneed
      rw [nb] at ND
      by_cases hlost : ds.w ≤ ds.c
      · have lb : dLostB ds = true := decide_eq_true ⟨hn00, hlost⟩
        rw [lb] at LO
        clear nb lb
        go_wp2_with fail
        refine ND.out.mono ?_
        rintro e w' ⟨rfl, rfl⟩
        go_wp2_with fail
        refine LO.out.mono ?_
        rintro e w' ⟨rfl, kk, rfl⟩
        go_wp2
        go_ret
        exact ⟨rfl, (HP.out.drewN kk).keeps.below (fun _ h hh => by omega)⟩
      have lb : dLostB ds = false := decide_eq_false (fun h => hlost h.2)
      rw [lb] at LO
      obtain ⟨hlj, hcl⟩ := HR.out.clean hn00 (fun z hz => HBY.out z (List.mem_of_mem_take hz))
      have hlen := HL.out
      have htl : (zs.take j).length = j := by rw [List.length_take]; omega
      rw [htl] at hlj
      have h4 := HR.out.ok.len
      obtain ⟨bA, oA, rfl, -, -⟩ := HB.out.at_ (by omega)
      have hsub : (n : Int) - n' = j := by omega
      have qlen : ((cs.l.length : Int) == j) = true := by simp; omega
      have jn : j ≤ n := by omega
      have jc : j ≤ cap := by omega
      have DN := Lib.hid (fun w h => cdone_any bc gc cs.l cs.w w h (by omega))
      have CLE := Lib.hid (fun w h => dclean_any bd ds w h)
      have TK := Lib.hid (fun kk => ((bs_old HB.out (HP.out.drewN kk).keeps).take jn))
      have okb := HR.out.ok.byte
      clear nb lb hneed HBR HR HS hdi hn0 hnj htl h4 hlost hlj
      by_cases hc : ds.c = 0
      · have cb : dCleanB ds = true := decide_eq_true ⟨hn00, hc⟩
        rw [cb] at CLE
        have eq := hcl.1 hc
        obtain ⟨sm, HSM⟩ : ∃ sm, Hid (strOf cs.l = sm) := ⟨_, rfl⟩
        have HST : Hid (strOf (zs.take j) = sm) := by show _ = _; rw [← eq]; exact HSM.out
        clear eq hcl cb hc okb hn00
        go_wp2_with fail
        refine ND.out.mono ?_
        rintro e w' ⟨rfl, rfl⟩
        go_wp2_with fail
        refine LO.out.mono ?_
        rintro e w' ⟨rfl, kk, rfl⟩
        have HQ := Lib.hid (HP.out.drewN kk)
        have TQ := Lib.hid (TK.out kk)
        clear TK HP ND LO
        go_wp2
        obtain ⟨mS, mh⟩ : ∃ S : World → Prop, ∀ w', S w' ↔ (((convert 27 9 (.slice (some ⟨bA, oA, none⟩) j cap)).run Try.prog w' = .ok (.string sm) w')) := ⟨_, fun _ => Iff.rfl⟩
        have mk0 : ∀ x : Memb mS, (convert 27 9 (.slice (some ⟨bA, oA, none⟩) j cap)).run Try.prog x.at_ = .ok (.string sm) x.at_ := fun x => ((mh _).1 x.is)
        have mn : Nonempty (Memb mS) := ⟨⟨((wr.drewN kk)).drew, (mh _).2 (HST.out ▸ run_str TQ.out.drew)⟩⟩
        have mH := Lib.hid mh
        clear mh
        refine wp_region_mix2 [1, 3, 11] (InS mS) (by kernel_rfl) (by kernel_rfl) (InS.mk ((mH.out _).2 (HST.out ▸ run_str TQ.out.drew))) ?_
        refine wpMix2_seg 1 (InS mS) (by kernel_rfl) (by decide) (cl_base [] rfl (by kernel_rfl)) ?_
        simp only [List.take_succ_cons, List.take_zero, List.drop_succ_cons, List.drop_zero]
        repeat (first | go_big_quiet_step (fail) | (go_big_quiet_want; first | refine quiet_conv mk0 rfl rfl rfl (by simp only [Act.put, List.setIfInBounds_toArray, List.set_cons_succ, List.set_cons_zero]; rfl) ?_; go_big_quiet_on))
        refine wpQuiet_nil ?_
        refine wpMix2_eff (by kernel_rfl) ?_
        go_wp2_with fail
        refine (CLE.out _ HQ.out.drew.d).mono ?_
        rintro e w' ⟨rfl, rfl⟩
        go_wp2
        refine MixK2.on (cls_base (InS.mk ((mH.out _).2 (HST.out ▸ run_str TQ.out.drew)))) ?_
        refine wpMix2_seg 1 (InS mS) (by kernel_rfl) (by decide) (cl_base [] rfl (by kernel_rfl)) ?_
        simp only [List.take_succ_cons, List.take_zero, List.drop_succ_cons, List.drop_zero]
        repeat (first | go_big_quiet_step (fail) | (go_big_quiet_want; first | refine quiet_conv mk0 rfl rfl rfl (by simp only [Act.put, List.setIfInBounds_toArray, List.set_cons_succ, List.set_cons_zero]; rfl) ?_; go_big_quiet_on))
        refine wpQuiet_nil ?_
        refine wpMix2_eff (by kernel_rfl) ?_
        go_wp2_with fail
        refine (DN.out _ HQ.out.drew.c).mono ?_
        rintro e w7 ⟨v7, rfl, o7, k7⟩
        obtain ⟨A7, cap7, rfl, bs7, -⟩ := o7.shape
        have BS7 := Lib.hid bs7
        have P7 := Lib.hid (HQ.out.drew.later k7)
        have T7 := Lib.hid (TQ.out.drew.keeps k7 (fun _ _ _ _ _ h => h))
        clear o7 bs7 k7
        go_wp2
        obtain ⟨mL4S, mL4h⟩ : ∃ S : World → Prop, ∀ w', S w' ↔ (((convert 27 9 (.slice A7 cs.l.length cap7)).run Try.prog w' = .ok (.string sm) w')) := ⟨_, fun _ => Iff.rfl⟩
        have mL4k0 : ∀ x : Memb mL4S, (convert 27 9 (.slice A7 cs.l.length cap7)).run Try.prog x.at_ = .ok (.string sm) x.at_ := fun x => ((mL4h _).1 x.is)
        have mL4n : Nonempty (Memb mL4S) := ⟨⟨_, (mL4h _).2 (HSM.out ▸ run_str BS7.out)⟩⟩
        have mL4H := Lib.hid mL4h
        clear mL4h
        refine MixK2.late (D := InS mL4S) (x := 4) (by kernel_rfl) (cls_cons (InS.mk ((mL4H.out _).2 (HSM.out ▸ run_str BS7.out))) (cls_base (InS.mk ((mH.out _).2 (HST.out ▸ run_str T7.out))))) ?_
        refine wpMix2_seg 1 (InS mL4S) (by kernel_rfl) (by decide) (cl_one rfl) ?_
        simp only [List.take_succ_cons, List.take_zero, List.drop_succ_cons, List.drop_zero]
        repeat (first | go_big_quiet_step (fail) | (go_big_quiet_want; first | refine quiet_conv mk0 rfl rfl rfl (by simp only [Act.put, List.setIfInBounds_toArray, List.set_cons_succ, List.set_cons_zero]; rfl) ?_; go_big_quiet_on | refine quiet_conv mL4k0 rfl rfl rfl (by simp only [Act.put, List.setIfInBounds_toArray, List.set_cons_succ, List.set_cons_zero]; rfl) ?_; go_big_quiet_on))
        refine wpQuiet_nil ?_
        refine wpMix2_seg 6 (InS mS) (by kernel_rfl) (by decide) (cl_base [4] rfl (by kernel_rfl)) ?_
        simp only [List.take_succ_cons, List.take_zero, List.drop_succ_cons, List.drop_zero]
        repeat (first | go_big_quiet_step (fail) | (go_big_quiet_want; first | refine quiet_conv mk0 rfl rfl rfl (by simp only [Act.put, List.setIfInBounds_toArray, List.set_cons_succ, List.set_cons_zero]; rfl) ?_; go_big_quiet_on | refine quiet_conv mL4k0 rfl rfl rfl (by simp only [Act.put, List.setIfInBounds_toArray, List.set_cons_succ, List.set_cons_zero]; rfl) ?_; go_big_quiet_on))
        refine wpQuiet_nil ?_
        refine wpMix2_eff (by kernel_rfl) ?_
        go_wp2_with fail
        refine (DN.out _ P7.out.c).mono ?_
        rintro e w8 ⟨v8, rfl, o8, k8⟩
        obtain ⟨A8, cap8, rfl, -, -⟩ := o8.shape
        have P8 := Lib.hid (P7.out.later k8)
        have T8 := Lib.hid (T7.out.keeps k8 (fun _ _ _ _ _ h => h))
        have BS8 := Lib.hid (BS7.out.keeps k8 (fun _ _ _ _ _ h => h))
        clear o8 k8
        go_wp2
        refine MixK2.on (cls_cons (InS.mk ((mL4H.out _).2 (HSM.out ▸ run_str BS8.out))) (cls_base (InS.mk ((mH.out _).2 (HST.out ▸ run_str T8.out))))) ?_
        refine wpMix2_seg 6 (InS mS) (by kernel_rfl) (by decide) (cl_base [4] rfl (by kernel_rfl)) ?_
        simp only [List.take_succ_cons, List.take_zero, List.drop_succ_cons, List.drop_zero]
        repeat (first | go_big_quiet_step (fail) | (go_big_quiet_want; first | refine quiet_conv mk0 rfl rfl rfl (by simp only [Act.put, List.setIfInBounds_toArray, List.set_cons_succ, List.set_cons_zero]; rfl) ?_; go_big_quiet_on | refine quiet_conv mL4k0 rfl rfl rfl (by simp only [Act.put, List.setIfInBounds_toArray, List.set_cons_succ, List.set_cons_zero]; rfl) ?_; go_big_quiet_on))
        refine wpQuiet_nil ?_
        refine wpMix2_nil ?_
        clear mk0 mn mH mL4k0 mL4n mL4H
        go_wp2
        go_ret
        exact ⟨by first | rfl | (simp; done) | simp_all, P8.out.keeps.below (fun _ h hh => by omega)⟩
      · have cb : dCleanB ds = false := decide_eq_false (fun h => hc h.2)
        rw [cb] at CLE
        obtain ⟨sm, hsm⟩ : ∃ sm, strOf cs.l = sm := ⟨_, rfl⟩
        obtain ⟨st, hst⟩ : ∃ st, strOf (zs.take j) = st := ⟨_, rfl⟩
        have SE : (sm.toList == st.toList) = false := by
          rw [← hsm, ← hst, strOf_beq okb (fun z hz => HBY.out z (List.mem_of_mem_take hz))]
          exact decide_eq_false (fun e => hc (hcl.2 e))
        have HSM := Lib.hid hsm
        have HST := Lib.hid hst
        clear hsm hst hcl cb hc okb hn00
        go_wp2_with fail
        refine ND.out.mono ?_
        rintro e w' ⟨rfl, rfl⟩
        go_wp2_with fail
        refine LO.out.mono ?_
        rintro e w' ⟨rfl, kk, rfl⟩
        have HQ := Lib.hid (HP.out.drewN kk)
        have TQ := Lib.hid (TK.out kk)
        clear TK HP ND LO
        go_wp2
        obtain ⟨mS, mh⟩ : ∃ S : World → Prop, ∀ w', S w' ↔ (((convert 27 9 (.slice (some ⟨bA, oA, none⟩) j cap)).run Try.prog w' = .ok (.string st) w')) := ⟨_, fun _ => Iff.rfl⟩
        have mk0 : ∀ x : Memb mS, (convert 27 9 (.slice (some ⟨bA, oA, none⟩) j cap)).run Try.prog x.at_ = .ok (.string st) x.at_ := fun x => ((mh _).1 x.is)
        have mn : Nonempty (Memb mS) := ⟨⟨((wr.drewN kk)).drew, (mh _).2 (HST.out ▸ run_str TQ.out.drew)⟩⟩
        have mH := Lib.hid mh
        clear mh
        refine wp_region_mix2 [1, 3, 11] (InS mS) (by kernel_rfl) (by kernel_rfl) (InS.mk ((mH.out _).2 (HST.out ▸ run_str TQ.out.drew))) ?_
        refine wpMix2_seg 1 (InS mS) (by kernel_rfl) (by decide) (cl_base [] rfl (by kernel_rfl)) ?_
        simp only [List.take_succ_cons, List.take_zero, List.drop_succ_cons, List.drop_zero]
        repeat (first | go_big_quiet_step (fail) | (go_big_quiet_want; first | refine quiet_conv mk0 rfl rfl rfl (by simp only [Act.put, List.setIfInBounds_toArray, List.set_cons_succ, List.set_cons_zero]; rfl) ?_; go_big_quiet_on))
        refine wpQuiet_nil ?_
        refine wpMix2_eff (by kernel_rfl) ?_
        go_wp2_with fail
        refine (CLE.out _ HQ.out.drew.d).mono ?_
        rintro e w' ⟨rfl, rfl⟩
        go_wp2
        refine MixK2.on (cls_base (InS.mk ((mH.out _).2 (HST.out ▸ run_str TQ.out.drew)))) ?_
        refine wpMix2_seg 1 (InS mS) (by kernel_rfl) (by decide) (cl_base [] rfl (by kernel_rfl)) ?_
        simp only [List.take_succ_cons, List.take_zero, List.drop_succ_cons, List.drop_zero]
        repeat (first | go_big_quiet_step (fail) | (go_big_quiet_want; first | refine quiet_conv mk0 rfl rfl rfl (by simp only [Act.put, List.setIfInBounds_toArray, List.set_cons_succ, List.set_cons_zero]; rfl) ?_; go_big_quiet_on))
        refine wpQuiet_nil ?_
        refine wpMix2_eff (by kernel_rfl) ?_
        go_wp2_with fail
        refine (DN.out _ HQ.out.drew.c).mono ?_
        rintro e w7 ⟨v7, rfl, o7, k7⟩
        obtain ⟨A7, cap7, rfl, bs7, -⟩ := o7.shape
        have BS7 := Lib.hid bs7
        have P7 := Lib.hid (HQ.out.drew.later k7)
        have T7 := Lib.hid (TQ.out.drew.keeps k7 (fun _ _ _ _ _ h => h))
        clear o7 bs7 k7
        go_wp2
        obtain ⟨mL4S, mL4h⟩ : ∃ S : World → Prop, ∀ w', S w' ↔ (((convert 27 9 (.slice A7 cs.l.length cap7)).run Try.prog w' = .ok (.string sm) w')) := ⟨_, fun _ => Iff.rfl⟩
        have mL4k0 : ∀ x : Memb mL4S, (convert 27 9 (.slice A7 cs.l.length cap7)).run Try.prog x.at_ = .ok (.string sm) x.at_ := fun x => ((mL4h _).1 x.is)
        have mL4n : Nonempty (Memb mL4S) := ⟨⟨_, (mL4h _).2 (HSM.out ▸ run_str BS7.out)⟩⟩
        have mL4H := Lib.hid mL4h
        clear mL4h
        refine MixK2.late (D := InS mL4S) (x := 4) (by kernel_rfl) (cls_cons (InS.mk ((mL4H.out _).2 (HSM.out ▸ run_str BS7.out))) (cls_base (InS.mk ((mH.out _).2 (HST.out ▸ run_str T7.out))))) ?_
        refine wpMix2_seg 1 (InS mL4S) (by kernel_rfl) (by decide) (cl_one rfl) ?_
        simp only [List.take_succ_cons, List.take_zero, List.drop_succ_cons, List.drop_zero]
        repeat (first | go_big_quiet_step (fail) | (go_big_quiet_want; first | refine quiet_conv mk0 rfl rfl rfl (by simp only [Act.put, List.setIfInBounds_toArray, List.set_cons_succ, List.set_cons_zero]; rfl) ?_; go_big_quiet_on | refine quiet_conv mL4k0 rfl rfl rfl (by simp only [Act.put, List.setIfInBounds_toArray, List.set_cons_succ, List.set_cons_zero]; rfl) ?_; go_big_quiet_on))
        refine wpQuiet_nil ?_
        refine wpMix2_seg 6 (InS mS) (by kernel_rfl) (by decide) (cl_base [4] rfl (by kernel_rfl)) ?_
        simp only [List.take_succ_cons, List.take_zero, List.drop_succ_cons, List.drop_zero]
        repeat (first | go_big_quiet_step (fail) | (go_big_quiet_want; first | refine quiet_conv mk0 rfl rfl rfl (by simp only [Act.put, List.setIfInBounds_toArray, List.set_cons_succ, List.set_cons_zero]; rfl) ?_; go_big_quiet_on | refine quiet_conv mL4k0 rfl rfl rfl (by simp only [Act.put, List.setIfInBounds_toArray, List.set_cons_succ, List.set_cons_zero]; rfl) ?_; go_big_quiet_on))
        refine wpQuiet_nil ?_
        refine wpMix2_eff (by kernel_rfl) ?_
        go_wp2_with fail
        refine (DN.out _ P7.out.c).mono ?_
        rintro e w8 ⟨v8, rfl, o8, k8⟩
        obtain ⟨A8, cap8, rfl, -, -⟩ := o8.shape
        have P8 := Lib.hid (P7.out.later k8)
        have T8 := Lib.hid (T7.out.keeps k8 (fun _ _ _ _ _ h => h))
        have BS8 := Lib.hid (BS7.out.keeps k8 (fun _ _ _ _ _ h => h))
        clear o8 k8
        go_wp2
        refine MixK2.on (cls_cons (InS.mk ((mL4H.out _).2 (HSM.out ▸ run_str BS8.out))) (cls_base (InS.mk ((mH.out _).2 (HST.out ▸ run_str T8.out))))) ?_
        refine wpMix2_seg 6 (InS mS) (by kernel_rfl) (by decide) (cl_base [4] rfl (by kernel_rfl)) ?_
        simp only [List.take_succ_cons, List.take_zero, List.drop_succ_cons, List.drop_zero]
        repeat (first | go_big_quiet_step (fail) | (go_big_quiet_want; first | refine quiet_conv mk0 rfl rfl rfl (by simp only [Act.put, List.setIfInBounds_toArray, List.set_cons_succ, List.set_cons_zero]; rfl) ?_; go_big_quiet_on | refine quiet_conv mL4k0 rfl rfl rfl (by simp only [Act.put, List.setIfInBounds_toArray, List.set_cons_succ, List.set_cons_zero]; rfl) ?_; go_big_quiet_on))
        refine wpQuiet_nil ?_
        refine wpMix2_nil ?_
        clear mk0 mn mH mL4k0 mL4n mL4H
        go_wp2
        go_ret
        exact ⟨by first | rfl | (simp; done) | simp_all, P8.out.keeps.below (fun _ h hh => by omega)⟩
set_option maxRecDepth 100000 in
theorem DecoderOnly_lifted (os : Os) (started : os.Started) (H : Type) (enc : TypeId × Value → H) :
    ReturnsInHanded {} Try.checked os 12 .any (Rows.decoderOnlySpec.pre6 enc Try.prog Try.f12 Rows.decoderOnlyRow.domain false) (Rows.decoderOnlySpec.post enc Try.prog Try.f12 false true false false) := by
  refine returnsInHanded_of_change (C := Try.checked) Try.own started (by kernel_rfl) Try.func12
    (ChangeSpec.witness6 (enc := enc) (C := Try.checked) false ⟨#[], #[.slice none 0 0, .slice none 0 0, .int .i64 0], []⟩ 8 (by kernel_rfl) (by kernel_rfl) (by kernel_rfl) (by kernel_rfl)) ?_
  intro W base args ds gs before hval0 hW hcnd _
  have hval : ∀ (j : Nat) t v, Try.f12.params[j]? = some t → args[j]? = some v → Value.okWide Try.prog W .any base t v := hval0
  have hW' := hW
  obtain ⟨p, q, hA0, hV, rfl, hfz, hnd⟩ := hW
  have hA : DataW.TrodAll enc Try.prog W 0 (fun _ => true) true Try.f12.params.toList args.toList ds p := hA0
  rw [Try.params12] at hA hval
  obtain ⟨v0, vs0, d0, ds0, p0, q0, hargs, rfl, rfl, h0, r0⟩ := trodAll_cons hA
  obtain ⟨v1, vs1, d1, ds1, p1, q1, rfl, rfl, rfl, h1, r1⟩ := trodAll_cons r0
  obtain ⟨v2, vs2, d2, ds2, p2, q2, rfl, rfl, rfl, h2, r2⟩ := trodAll_cons r1
  obtain ⟨rfl, rfl, rfl⟩ := trodAll_nil r2
  obtain rfl : args = #[v0, v1, v2] := by cases args; simp_all
  obtain ⟨rfl, rfl⟩ := trodVars_none hV
  have k0 := h0
  have lt0 : ∀ x ∈ p0, x.block < W.heap.size := by obtain ⟨m, hm⟩ := k0; exact DataW.trod_lt m _ _ _ hm
  obtain ⟨a0, len0, cap0, rfl⟩ := okWide_slice Try.underlying27 (hval 0 27 v0 rfl rfl)
  obtain ⟨z0, s0⟩ := open_bs h0
  have k1 := h1
  have lt1 : ∀ x ∈ p1, x.block < W.heap.size := by obtain ⟨m, hm⟩ := k1; exact DataW.trod_lt m _ _ _ hm
  obtain ⟨a1, len1, cap1, rfl⟩ := okWide_slice Try.underlying55 (hval 1 55 v1 rfl rfl)
  obtain ⟨z1, l1, s1, w1⟩ := open_ints' Try.underlying55 Try.underlying3 (by kernel_rfl) h1
  have k2 := h2
  have lt2 : ∀ x ∈ p2, x.block < W.heap.size := by obtain ⟨m, hm⟩ := k2; exact DataW.trod_lt m _ _ _ hm
  obtain ⟨a2, rfl, rfl, rfl, w2⟩ := open_int Try.underlying3 (hval 2 3 v2 rfl rfl) h2
  clear hA0 hval0
  refine (only17_any a0 a1 len0 cap0 len1 cap1 a2 z0 z1 W s0 l1 s1).mono fun e W' ⟨he, bel⟩ => ?_
  subst he
  exact ⟨_, rfl, _, _, _, [], _, [], hW', trodAll_mk1 (shut_bool Try.underlying4 _), (trodAll_cons_mk (Below.trod Try.laidOut (by kernel_rfl) (of_decide_eq_true (by kernel_rfl)) k0 bel lt0) (trodAll_cons_mk (Below.trod Try.laidOut (by kernel_rfl) (of_decide_eq_true (by kernel_rfl)) k1 bel lt1) (trodAll_cons_mk (Below.trod Try.laidOut (by kernel_rfl) (of_decide_eq_true (by kernel_rfl)) k2 bel lt2) trodAll_mk0))), rfl, bel.frame _, fun h => by cases h⟩

set_option maxRecDepth 100000 in
theorem DecoderOnly_closed : joinedFacts Try.checked.prog 12 Try.f12 Rows.decoderOnlySpec Rows.decoderOnlyRow = true := by
  unfold joinedFacts
  rw [closed_laid, closed_maps, closed_heard, closed_plain, closed_mayEnter, closed_lifts, closed_make]
  kernel_rfl

theorem DecoderOnly_holds : Rows.DecoderOnlySaid :=
  OpenClaim.holds_of_wide 12 Try.f12 rfl rfl rfl rfl rfl rfl rfl ⟨rfl, rfl, rfl, rfl, rfl⟩ rfl rfl rfl rfl rfl (by kernel_rfl) Try.func12 DecoderOnly_closed
    (of_decide_eq_true (by kernel_rfl)) (by unfold Func.isWrapper; first | (rw [if_pos (by decide +kernel)]; kernel_rfl) | (rw [if_neg (by decide +kernel)]; exact ⟨rfl, rfl⟩))
    (fun os started H enc _ => DecoderOnly_lifted os started H enc)
#print axioms DecoderOnly_holds
end Go.Proofs.Yteokbedjcnfgiaa
