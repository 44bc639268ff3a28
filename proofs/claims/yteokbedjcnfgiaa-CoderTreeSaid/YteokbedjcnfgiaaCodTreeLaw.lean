/-
  For every width and every row of numbers, the law CoderTree returns true: coding a number with a tree codes its bits with the chances of its nodes. No condition.
-/
import Derived.Test.YteokbedjcnfgiaaCodTree2
import Derived.Test.YteokbedjcnfgiaaCodLength
namespace Go.Proofs.Yteokbedjcnfgiaa
open Go.RowKit Go.ChangeShapes Go.WideShapes Go.ChangeAt

theorem mask_of (z : Int) (k : Nat) (hk : k ≤ 8) : ∃ v : Nat, v < 2 ^ k ∧ bits .and .i64 z ((2 : Int) ^ k - 1) = v := by
  have h256 := pow_le_256 hk
  have h1 : 1 ≤ 2 ^ k := Nat.one_le_two_pow
  have e : (2 : Int) ^ k - 1 = ((2 ^ k - 1 : Nat) : Int) := by
    have : ((2 ^ k : Nat) : Int) = (2 : Int) ^ k := by simp
    omega
  rw [e]
  refine ⟨(BitVec.ofInt 64 z).toNat &&& (2 ^ k - 1), ?_, ?_⟩
  · have : (BitVec.ofInt 64 z).toNat &&& (2 ^ k - 1) ≤ 2 ^ k - 1 := Nat.and_le_right
    omega
  · have hx : (BitVec.ofInt 64 z).toNat &&& (2 ^ k - 1) ≤ 2 ^ k - 1 := Nat.and_le_right
    show IntKind.i64.wrap ((BitVec.ofInt 64 z &&& BitVec.ofInt 64 ((2 ^ k - 1 : Nat) : Int)).toNat : Int) = _
    rw [BitVec.toNat_and, ofInt_i64 (2 ^ k - 1) (by omega)]
    exact wrap_nat _ (by omega)

theorem wrap_mask {n : Nat} (h : n ≤ 8) : wrap64 ((2 : Int) ^ n - 1) = (2 : Int) ^ n - 1 := by
  have h256 := pow_le_256 h
  have h1 : 1 ≤ 2 ^ n := Nat.one_le_two_pow
  have e : ((2 ^ n : Nat) : Int) = (2 : Int) ^ n := by simp
  rw [← e]
  generalize 2 ^ n = q at *
  unfold wrap64
  first | omega | (simp; omega)

/-- Two coders, two trees. -/
structure CT (W w : World) (B gc gd bc bd bt bp bu bq : Nat) (s s' : CSt) (ps ps' : List Int) : Prop where
  c : CAt w bc gc 93 s.l s.w
  d : CAt w bd gd 93 s'.l s'.w
  t : MTree w bt bp ps
  u : MTree w bu bq ps'
  keeps : Keeps (fun k => W.heap.size ≤ k) W w
  room : B ≤ w.heap.size
  chain : W.heap.size ≤ bc ∧ bc < bd ∧ bd < bp ∧ bp < bt ∧ bt < bq ∧ bq < bu ∧ bu < B
  gcw : W.heap.size ≤ gc ∧ (gc < bc ∨ B ≤ gc)
  gdw : (bc < gd ∧ gd < bd) ∨ B ≤ gd
  gne : gc ≠ gd
theorem CT.tree {W w w' : World} {B gc gd bc bd bt bp bu bq g' : Nat} {s s' s2 : CSt} {ps ps' ps2 : List Int} (h : CT W w B gc gd bc bd bt bp bu bq s s' ps ps') (hg : g' = gc ∨ w.heap.size ≤ g') (h1 : CAt w' bc g' 93 s2.l s2.w) (h2 : MTree w' bt bp ps2) (hk : Keeps (fun k => k = bc ∨ k = gc ∨ k = bp) w w') : CT W w' B g' gd bc bd bt bp bu bq s2 s' ps2 ps' := by
  obtain ⟨hc, hd, ht, hu, hkk, hr, hch, hgc, hgd, hne⟩ := h
  have hs := hk.size
  have l1 := hd.ltg
  exact ⟨h1, hd.keeps hk (by omega) (by omega), h2, hu.keeps hk (by omega) (by omega), hkk.trans hk (fun _ h => h) (fun x hx h => by omega), by omega, hch, by omega, hgd, by omega⟩
theorem CT.bit {W w w' : World} {B gc gd bc bd bt bp bu bq g' : Nat} {s s' s2 : CSt} {ps ps' : List Int} (h : CT W w B gc gd bc bd bt bp bu bq s s' ps ps') (hg : g' = gd ∨ w.heap.size ≤ g') (h1 : CAt w' bd g' 93 s2.l s2.w) (hk : Keeps (fun k => k = bd ∨ k = gd) w w') : CT W w' B gc g' bc bd bt bp bu bq s s2 ps ps' := by
  obtain ⟨hc, hd, ht, hu, hkk, hr, hch, hgc, hgd, hne⟩ := h
  have hs := hk.size
  have l1 := hc.ltg
  exact ⟨hc.keeps hk (by omega) (by omega), h1, ht.keeps hk (by omega) (by omega), hu.keeps hk (by omega) (by omega), hkk.trans hk (fun _ h => h) (fun x hx h => by omega), by omega, hch, hgc, by omega, by omega⟩
theorem CT.turn {W w w' : World} {B gc gd bc bd bt bp bu bq : Nat} {s s' : CSt} {ps ps' ps2 : List Int} (h : CT W w B gc gd bc bd bt bp bu bq s s' ps ps') (h2 : MTree w' bu bq ps2) (hk : Keeps (fun k => k = bq) w w') : CT W w' B gc gd bc bd bt bp bu bq s s' ps ps2 := by
  obtain ⟨hc, hd, ht, hu, hkk, hr, hch, hgc, hgd, hne⟩ := h
  have hs := hk.size
  exact ⟨hc.keeps hk (by omega) (by omega), hd.keeps hk (by omega) (by omega), ht.keeps hk (by omega) (by omega), h2, hkk.trans hk (fun _ h => h) (fun x hx h => by omega), by omega, hch, hgc, hgd, hne⟩
theorem CT.drew {W w : World} {B gc gd bc bd bt bp bu bq : Nat} {s s' : CSt} {ps ps' : List Int} (h : CT W w B gc gd bc bd bt bp bu bq s s' ps ps') : CT W w.drew B gc gd bc bd bt bp bu bq s s' ps ps' :=
  ⟨h.c, h.d, h.t, h.u, h.keeps.drew, h.room, h.chain, h.gcw, h.gdw, h.gne⟩

set_option maxRecDepth 100000 in
set_option maxHeartbeats 3200000 in
theorem tree16_any (width : Int) (A : Option Addr) (m cap : Nat) (zs : List Int) (W : World) (hl : zs.length = m) (hs : IsSl W A m cap 1 (zs.map (.int .i64))) :
    Calls Try.prog 9 #[.int .i64 width, .slice A m cap] W fun e w' => e = .returned (.bool true) ∧ Below W.heap.size W w' := by
  have hmx := hs.2.2.1
  have hcp := hs.2.1
  have ALV : Hid (∀ w, Calls Try.prog 37 #[] w fun e w' => e = .returned (.bool true) ∧ Below w.heap.size w w') := alive16_any
  by_cases g1 : width < 1
  · have d1 : decide (width < 1) = true := decide_eq_true g1
    clear hs hl
    go_enter Try.func9, Try.ntmps9
    go_wp2_with (go_at_call 37; refine (ALV.out _).mono ?_; rintro e w1 ⟨rfl, hk⟩)
    go_ret
    exact ⟨rfl, hk⟩
  have d1 : decide (width < 1) = false := decide_eq_false g1
  by_cases g2 : 8 < width
  · have d2 : decide (8 < width) = true := decide_eq_true g2
    clear hs hl
    go_enter Try.func9, Try.ntmps9
    go_wp2_with (go_at_call 37; refine (ALV.out _).mono ?_; rintro e w1 ⟨rfl, hk⟩)
    go_ret
    exact ⟨rfl, hk⟩
  have d2 : decide (8 < width) = false := decide_eq_false g2
  by_cases hbig : 60 < m
  · have d3 : decide (60 < (m : Int)) = true := by simp; omega
    clear hs hl
    go_enter Try.func9, Try.ntmps9
    go_wp2_with (go_at_call 37; refine (ALV.out _).mono ?_; rintro e w1 ⟨rfl, hk⟩)
    go_ret
    exact ⟨rfl, hk⟩
  have d3 : decide (60 < (m : Int)) = false := by simp; omega
  obtain ⟨n, rfl⟩ : ∃ n : Nat, width = n := ⟨width.toNat, by omega⟩
  have hn1 : 1 ≤ n := by omega
  have hn8 : n ≤ 8 := by omega
  have esz : szN n = n := by unfold szN; omega
  have ok0 := TOk.new n
  have NEW := Lib.hid (fun w => new_any n w)
  rw [esz] at ok0 NEW
  have OK0 := Lib.hid ok0
  have HS := Lib.hid hs
  have HLZ := Lib.hid hl
  clear hs hl esz ok0 g1 g2
  go_enter Try.func9, Try.ntmps9
  go_wp2_with fail
  refine (ALV.out _).mono ?_
  rintro e w1 ⟨rfl, hk⟩
  have K1 : Hid (Keeps (fun k => W.heap.size ≤ k) W w1) := ⟨hk.os, hk.tape, hk.output, hk.size, fun i hi _ => hk.block i hi⟩
  clear hk
  go_wp2_with fail
  refine (cnew_any _).mono ?_
  rintro e w2 ⟨rfl, c2, k2⟩
  have C2 := Lib.hid c2
  have KK2 := Lib.hid k2
  clear c2 k2
  go_wp2_with fail
  refine (cnew_any _).mono ?_
  rintro e w3 ⟨rfl, c3, k3⟩
  have C3 := Lib.hid c3
  have KK3 := Lib.hid k3
  clear c3 k3
  go_wp2_with fail
  refine (NEW.out _).mono ?_
  rintro e w4 ⟨rfl, t4, k4⟩
  have T4 := Lib.hid t4
  have KK4 := Lib.hid k4
  clear t4 k4
  go_wp2_with fail
  refine (NEW.out _).mono ?_
  rintro e w5 ⟨rfl, t5, k5⟩
  have key : ∃ gc gd bc bd bp bt bq bu B, bc = w1.heap.size + 1 ∧ bd = w2.heap.size + 1 ∧ bt = w3.heap.size + 1 ∧ bu = w4.heap.size + 1 ∧ CT W w5 B gc gd bc bd bt bp bu bq ⟨[0, 0, 0, 0], 4294967295⟩ ⟨[0, 0, 0, 0], 4294967295⟩ (List.replicate (2 ^ n) 1024) (List.replicate (2 ^ n) 1024) := by
    have l2 := C2.out.ltb
    have l3 := C3.out.ltb
    have l4 := T4.out.1.lt
    have l5 := t5.1.lt
    have s1 := K1.out.size
    refine ⟨w1.heap.size, w2.heap.size, _, _, w3.heap.size, _, w4.heap.size, _, w4.heap.size + 2, rfl, rfl, rfl, rfl, ?_⟩
    refine ⟨((C2.out.keeps KK3.out (fun h => h) (fun h => h)).keeps KK4.out (fun h => h) (fun h => h)).keeps k5 (fun h => h) (fun h => h), (C3.out.keeps KK4.out (fun h => h) (fun h => h)).keeps k5 (fun h => h) (fun h => h), T4.out.keeps k5 (fun h => h) (fun h => h), t5,
      (((K1.out.trans KK2.out (fun _ h => h) (fun _ _ h => h.elim)).trans KK3.out (fun _ h => h) (fun _ _ h => h.elim)).trans KK4.out (fun _ h => h) (fun _ _ h => h.elim)).trans k5 (fun _ h => h) (fun _ _ h => h.elim), by omega, by omega, by omega, by omega, by omega⟩
  obtain ⟨gc0, gd0, bc, bd, bp, bt, bq, bu, B, e1, e2, e3, e4, hkey⟩ := key
  rw [← e1, ← e2, ← e3, ← e4]
  have KEY := Lib.hid hkey
  clear hkey K1 C2 KK2 C3 KK3 T4 KK4 t5 k5 e1 e2 e3 e4 NEW
  go_wp2
  go_loopw [10] (fun i wr => ∃ (k gc gd : Nat) (s : CSt) (ps : List Int), k ≤ m ∧ i = .int .i64 k ∧ CT W wr B gc gd bc bd bt bp bu bq s s ps ps ∧ TOk ps n ∧ (16777216 ≤ s.w ∧ s.w < 4294967296) ∧ s.l.length ≤ 4 + 8 * k) (fun i _ => m - (intOf i).toNat)
  case atStart => exact ⟨0, gc0, gd0, _, _, Nat.zero_le _, rfl, KEY.out, OK0.out, by decide, by decide⟩
  case round =>
    obtain ⟨k, gc, gd, s, ps, hkm, rfl, hP, hok, ⟨hw0, hw1⟩, hln⟩ := hrel
    clear KEY OK0
    have ch := hP.chain
    have cgc := hP.gcw
    by_cases hlt : k < m
    · obtain ⟨wv, rfl⟩ : ∃ x, x = wr := ⟨_, rfl⟩
      obtain ⟨bl, off, rfl, hb, hc⟩ := HS.out.2.2.2 (by omega)
      have x0 : wv.cell? ⟨bl, off + k, none⟩ = some (.int .i64 (zs.getD k 0)) := by
        rw [hP.keeps.cell (p := ⟨bl, off + k, none⟩) hb (by simp; exact hb), hc k (by omega), map_getD 0 (by rw [HLZ.out]; exact hlt)]
      obtain ⟨v, hv, ev⟩ := mask_of (zs.getD k 0) n hn8
      have wr1 : wrap64 ((2 : Int) ^ n - 1) = (2 : Int) ^ n - 1 := wrap_mask hn8
      rw [← wr1] at ev
      clear wr1
      have hw : wrap64 ((2 : Int) ^ n) = ((2 ^ n : Nat) : Int) := pow_wrap hn8
      have hv8 : v < 256 := Nat.lt_of_lt_of_le hv (pow_le_256 hn8)
      generalize zs.getD k 0 = z at *
      have START := Lib.hid (TLoop.start v hok hw0 hw1)
      have CT1 := Lib.hid (ctree_in bc gc bt bp s ps n v wv hP.c hP.t hok hw0 hw1 (by omega) (by omega) (by omega) (by omega) (by omega) hv)
      obtain ⟨FIN, hfin⟩ : ∃ F, F = tRun v n ⟨s, ps, 1⟩ := ⟨_, rfl⟩
      rw [← hfin] at START CT1
      have HP := Lib.hid hP
      have SLEN := Lib.hid hln
      clear hP hok hw0 hc hfin hln ch cgc hb
      go_wp2_with fail
      refine CT1.out.mono ?_
      rintro e w2 ⟨rfl, g2, hg2, c2, t2, k2⟩
      have HP2 := Lib.hid (HP.out.tree hg2 c2 t2 k2)
      clear hg2 c2 t2 k2 HP CT1 x0 ev hw
      go_wp2
      go_loopw [12, 13] (fun nd iv wr => ∃ (j gd : Nat) (t : TSt), iv = .int .i64 ((j : Int) - 1) ∧ nd = .int .i64 t.node ∧ TLoop v n j t FIN (s.l.length + n) ∧ CT W wr B g2 gd bc bd bt bp bu bq FIN.c t.c FIN.ps t.ps) (fun _ iv _ => (intOf iv + 1).toNat)
      case atStart => exact ⟨n, gd, ⟨s, ps, 1⟩, rfl, rfl, START.out, HP2.out⟩
      case round =>
        obtain ⟨j, gd, t, hi, rfl, HL, hQ⟩ := hrel
        clear HP2 START
        cases j with
        | zero =>
          have e0 : ((0 : Nat) : Int) - 1 = -1 := rfl
          rw [e0] at hi
          subst hi
          have e1 : t = FIN := HL.run
          subst e1
          have HQ := Lib.hid hQ
          have HLL := Lib.hid HL
          clear hQ HL e0
          go_wp2
          go_roundw
          case rel => exact ⟨k + 1, g2, gd, t.c, t.ps, by omega, by go_num, HQ.out, HLL.out.ok, ⟨HLL.out.w0, HLL.out.w1⟩, by have := HLL.out.len; have := SLEN.out; omega⟩
          case measure => simp [intOf]; omega
        | succ i =>
          have e0 : ((i + 1 : Nat) : Int) - 1 = i := by omega
          rw [e0] at hi
          subst hi
          have ev := bit_of v i hv8
          obtain ⟨v0, v1⟩ := vbit_bd v i
          have n0 := HL.node0
          obtain ⟨-, n1⟩ := HL.node
          have le8 := HL.le
          have slen := SLEN.out
          have AT := Lib.hid (fun w h => at_any bu bq t.ps t.node w h HL.ok.le HL.ok.2.2.2.2)
          have BI := Lib.hid (cbit_any bd gd t.c.l t.c.w (atN t.ps t.node) (vbit v i) wr hQ.d (by have := HL.w0; omega) HL.w1 (by have := HL.len; omega))
          have NX := Lib.hid HL.step
          have HQ := Lib.hid hQ
          have OKT := Lib.hid HL.ok
          clear e0 HL hQ
          have NE : Hid (2 * t.node + vbit v i = (tStep v i t).node) := rfl
          have PE : Hid (turnN t.ps t.node (vbit v i) = (tStep v i t).ps) := rfl
          have CE : Hid (cBitL t.c.l t.c.w (atN t.ps t.node) (vbit v i) = (tStep v i t).c.l ∧ cBitW t.c.w (atN t.ps t.node) (vbit v i) = (tStep v i t).c.w) := ⟨rfl, rfl⟩
          generalize tStep v i t = t2 at *
          generalize vbit v i = bit at *
          rw [CE.out.1, CE.out.2] at BI
          generalize atN t.ps t.node = p at *
          have AD := Lib.hid (fun w => adapt_any p bit w)
          generalize adapt p bit = nx at *
          have TU := Lib.hid (fun w h => turn_any bu bq t.ps t.node bit w h OKT.out.le OKT.out.2.2.2.2)
          rw [PE.out] at TU
          obtain ⟨nd, hnd⟩ : ∃ nd, nd = t.node := ⟨_, rfl⟩
          rw [← hnd] at AT TU n0 n1 NE ⊢
          clear hnd
          go_wp2_with fail
          refine (AT.out _ HQ.out.u).mono ?_
          rintro e w3 ⟨rfl, rfl⟩
          go_wp2_with fail
          refine BI.out.mono ?_
          rintro e w3 ⟨rfl, g3, hg3, c3, k3⟩
          have HQ3 := Lib.hid (HQ.out.bit hg3 c3 k3)
          clear hg3 c3 k3
          go_wp2_with fail
          refine (AT.out _ HQ3.out.u).mono ?_
          rintro e w4 ⟨rfl, rfl⟩
          go_wp2_with (go_at_call 52; refine (AD.out _).mono ?_; rintro e w' ⟨rfl, rfl⟩)
          refine (TU.out _ HQ3.out.u).mono ?_
          rintro e w5 ⟨rfl, t5, k5⟩
          have HQ5 := Lib.hid (HQ3.out.turn t5 k5)
          clear t5 k5
          go_wp2
          go_roundw
          case rel => exact ⟨i, g3, t2, rfl, by rw [NE.out], NX.out, HQ5.out⟩
          case measure => simp [intOf]
    · have hw : wrap64 ((2 : Int) ^ n) = ((2 ^ n : Nat) : Int) := pow_wrap hn8
      have h256 := pow_le_256 hn8
      have HP := Lib.hid hP
      have OK := Lib.hid hok
      have SLEN := Lib.hid hln
      clear hP hok hln hw0
      obtain ⟨wv, rfl⟩ : ∃ x, x = wr := ⟨_, rfl⟩
      go_wp2
      go_loop [15] (fun i => ∃ q : Nat, q ≤ 2 ^ n ∧ i = .int .i64 q) (fun i => 2 ^ n - (intOf i).toNat)
      case atStart => exact ⟨0, Nat.zero_le _, rfl⟩
      case round =>
        obtain ⟨q, hq, rfl⟩ := hrel
        have AT := Lib.hid (at_any bt bp ps q wv HP.out.t OK.out.le OK.out.2.2.2.2)
        have AU := Lib.hid (at_any bu bq ps q wv HP.out.u OK.out.le OK.out.2.2.2.2)
        generalize atN ps (q : Int) = pv at *
        have E2 : Hid (((2 ^ n : Nat) : Int) = (2 : Int) ^ n) := by simp [Hid]
        by_cases hlq : q < 2 ^ n
        · have dq : decide ((q : Int) < (2 : Int) ^ n) = true := decide_eq_true (E2.out ▸ Int.ofNat_lt.2 hlq)
          generalize 2 ^ n = M at *
          go_wp2_with fail
          refine AT.out.mono ?_
          rintro e w' ⟨rfl, rfl⟩
          go_wp2_with fail
          refine AU.out.mono ?_
          rintro e w' ⟨rfl, rfl⟩
          go_wp2
          go_round
          case rel => exact ⟨q + 1, by omega, by go_num⟩
          case measure => simp [intOf]; omega
        · have dq : decide ((q : Int) < (2 : Int) ^ n) = false := decide_eq_false (E2.out ▸ fun h => hlq (Int.ofNat_lt.1 h))
          have C1 := Lib.hid (fun w h => cdone_any bc gc s.l s.w w h (by have := SLEN.out; omega))
          have D1 := Lib.hid (fun w h => cdone_any bd gd s.l s.w w h (by have := SLEN.out; omega))
          obtain ⟨sm, HSM⟩ : ∃ sm, Hid (strOf s.l = sm) := ⟨_, rfl⟩
          clear AT AU
          go_wp2
          obtain ⟨mS, mh⟩ : ∃ S : World → Prop, ∀ w', S w' ↔ (True) := ⟨_, fun _ => Iff.rfl⟩
          have mn : Nonempty (Memb mS) := ⟨⟨(wv).drew, (mh _).2 trivial⟩⟩
          have mH := Lib.hid mh
          clear mh
          refine wp_region_mix2 [1, 4] (InS mS) (by kernel_rfl) (by kernel_rfl) (InS.mk ((mH.out _).2 trivial)) ?_
          refine wpMix2_seg 1 (InS mS) (by kernel_rfl) (by decide) (cl_base [] rfl (by kernel_rfl)) ?_
          simp only [List.take_succ_cons, List.take_zero, List.drop_succ_cons, List.drop_zero]
          repeat (go_big_quiet_step (fail))
          refine wpQuiet_nil ?_
          refine wpMix2_eff (by kernel_rfl) ?_
          go_wp2_with fail
          refine (C1.out _ HP.out.drew.c).mono ?_
          rintro e w7 ⟨v7, rfl, o7, k7⟩
          obtain ⟨A7, cap7, rfl, bs7, -⟩ := o7.shape
          have BS7 := Lib.hid bs7
          have K7 := Lib.hid k7
          have HD7 := Lib.hid (HP.out.drew.d.keeps k7 (fun h => h) (fun h => h))
          clear o7 bs7 k7
          go_wp2
          obtain ⟨mL2S, mL2h⟩ : ∃ S : World → Prop, ∀ w', S w' ↔ (((convert 27 9 (.slice A7 s.l.length cap7)).run Try.prog w' = .ok (.string sm) w')) := ⟨_, fun _ => Iff.rfl⟩
          have mL2k0 : ∀ x : Memb mL2S, (convert 27 9 (.slice A7 s.l.length cap7)).run Try.prog x.at_ = .ok (.string sm) x.at_ := fun x => ((mL2h _).1 x.is)
          have mL2n : Nonempty (Memb mL2S) := ⟨⟨_, (mL2h _).2 (HSM.out ▸ run_str BS7.out)⟩⟩
          have mL2H := Lib.hid mL2h
          clear mL2h
          refine MixK2.late (D := InS mL2S) (x := 2) (by kernel_rfl) (cls_cons (InS.mk ((mL2H.out _).2 (HSM.out ▸ run_str BS7.out))) (cls_base (InS.mk ((mH.out _).2 trivial)))) ?_
          refine wpMix2_seg 1 (InS mL2S) (by kernel_rfl) (by decide) (cl_one rfl) ?_
          simp only [List.take_succ_cons, List.take_zero, List.drop_succ_cons, List.drop_zero]
          repeat (first | go_big_quiet_step (fail) | (go_big_quiet_want; first | refine quiet_conv mL2k0 rfl rfl rfl (by simp only [Act.put, List.setIfInBounds_toArray, List.set_cons_succ, List.set_cons_zero]; rfl) ?_; go_big_quiet_on))
          refine wpQuiet_nil ?_
          refine wpMix2_seg 1 (InS mS) (by kernel_rfl) (by decide) (cl_base [2] rfl (by kernel_rfl)) ?_
          simp only [List.take_succ_cons, List.take_zero, List.drop_succ_cons, List.drop_zero]
          repeat (first | go_big_quiet_step (fail) | (go_big_quiet_want; first | refine quiet_conv mL2k0 rfl rfl rfl (by simp only [Act.put, List.setIfInBounds_toArray, List.set_cons_succ, List.set_cons_zero]; rfl) ?_; go_big_quiet_on))
          refine wpQuiet_nil ?_
          refine wpMix2_eff (by kernel_rfl) ?_
          go_wp2_with fail
          refine (D1.out _ HD7.out).mono ?_
          rintro e w8 ⟨v8, rfl, o8, k8⟩
          obtain ⟨A8, cap8, rfl, bs8, -⟩ := o8.shape
          have BS8 := Lib.hid bs8
          have BS7' := Lib.hid (BS7.out.keeps k8 (fun _ _ _ _ _ h => h))
          have K8 := Lib.hid (K7.out.trans k8 (fun _ h => h) (fun _ _ h => h))
          clear o8 bs8 k8
          go_wp2
          obtain ⟨mL5S, mL5h⟩ : ∃ S : World → Prop, ∀ w', S w' ↔ (((convert 27 9 (.slice A8 s.l.length cap8)).run Try.prog w' = .ok (.string sm) w')) := ⟨_, fun _ => Iff.rfl⟩
          have mL5k0 : ∀ x : Memb mL5S, (convert 27 9 (.slice A8 s.l.length cap8)).run Try.prog x.at_ = .ok (.string sm) x.at_ := fun x => ((mL5h _).1 x.is)
          have mL5n : Nonempty (Memb mL5S) := ⟨⟨_, (mL5h _).2 (HSM.out ▸ run_str BS8.out)⟩⟩
          have mL5H := Lib.hid mL5h
          clear mL5h
          refine MixK2.late (D := InS mL5S) (x := 5) (by kernel_rfl) (cls_cons (InS.mk ((mL5H.out _).2 (HSM.out ▸ run_str BS8.out))) (cls_cons (InS.mk ((mL2H.out _).2 (HSM.out ▸ run_str BS7'.out))) (cls_base (InS.mk ((mH.out _).2 trivial))))) ?_
          refine wpMix2_seg 1 (InS mL5S) (by kernel_rfl) (by decide) (cl_one rfl) ?_
          simp only [List.take_succ_cons, List.take_zero, List.drop_succ_cons, List.drop_zero]
          repeat (first | go_big_quiet_step (fail) | (go_big_quiet_want; first | refine quiet_conv mL2k0 rfl rfl rfl (by simp only [Act.put, List.setIfInBounds_toArray, List.set_cons_succ, List.set_cons_zero]; rfl) ?_; go_big_quiet_on | refine quiet_conv mL5k0 rfl rfl rfl (by simp only [Act.put, List.setIfInBounds_toArray, List.set_cons_succ, List.set_cons_zero]; rfl) ?_; go_big_quiet_on))
          refine wpQuiet_nil ?_
          refine wpMix2_seg 2 (InS mS) (by kernel_rfl) (by decide) (cl_base [5, 2] rfl (by kernel_rfl)) ?_
          simp only [List.take_succ_cons, List.take_zero, List.drop_succ_cons, List.drop_zero]
          repeat (first | go_big_quiet_step (fail) | (go_big_quiet_want; first | refine quiet_conv mL2k0 rfl rfl rfl (by simp only [Act.put, List.setIfInBounds_toArray, List.set_cons_succ, List.set_cons_zero]; rfl) ?_; go_big_quiet_on | refine quiet_conv mL5k0 rfl rfl rfl (by simp only [Act.put, List.setIfInBounds_toArray, List.set_cons_succ, List.set_cons_zero]; rfl) ?_; go_big_quiet_on))
          refine wpQuiet_nil ?_
          refine wpMix2_nil ?_
          clear  mn mH mL2k0 mL2n mL2H mL5k0 mL5n mL5H
          go_wp2
          go_ret
          exact ⟨by simp, (HP.out.keeps.drew.trans K8.out (T := fun i => W.heap.size ≤ i) (fun _ h => h) (fun _ _ h => h.elim)).below (fun i hi h => by omega)⟩

set_option maxRecDepth 100000 in
theorem CoderTree_lifted (os : Os) (started : os.Started) (H : Type) (enc : TypeId × Value → H) :
    ReturnsInHanded {} Try.checked os 9 .any (Rows.coderTreeSpec.pre6 enc Try.prog Try.f9 Rows.coderTreeRow.domain false) (Rows.coderTreeSpec.post enc Try.prog Try.f9 false true false false) := by
  refine returnsInHanded_of_change (C := Try.checked) Try.own started (by kernel_rfl) Try.func9
    (ChangeSpec.witness6 (enc := enc) (C := Try.checked) false ⟨#[], #[.int .i64 0, .slice none 0 0], []⟩ 8 (by kernel_rfl) (by kernel_rfl) (by kernel_rfl) (by kernel_rfl)) ?_
  intro W base args ds gs before hval0 hW hcnd _
  have hval : ∀ (j : Nat) t v, Try.f9.params[j]? = some t → args[j]? = some v → Value.okWide Try.prog W .any base t v := hval0
  have hW' := hW
  obtain ⟨p, q, hA0, hV, rfl, hfz, hnd⟩ := hW
  have hA : DataW.TrodAll enc Try.prog W 0 (fun _ => true) true Try.f9.params.toList args.toList ds p := hA0
  rw [Try.params9] at hA hval
  obtain ⟨v0, vs0, d0, ds0, p0, q0, hargs, rfl, rfl, h0, r0⟩ := trodAll_cons hA
  obtain ⟨v1, vs1, d1, ds1, p1, q1, rfl, rfl, rfl, h1, r1⟩ := trodAll_cons r0
  obtain ⟨rfl, rfl, rfl⟩ := trodAll_nil r1
  obtain rfl : args = #[v0, v1] := by cases args; simp_all
  obtain ⟨rfl, rfl⟩ := trodVars_none hV
  have k0 := h0
  have lt0 : ∀ x ∈ p0, x.block < W.heap.size := by obtain ⟨m, hm⟩ := k0; exact DataW.trod_lt m _ _ _ hm
  obtain ⟨a0, rfl, rfl, rfl, w0⟩ := open_int Try.underlying3 (hval 0 3 v0 rfl rfl) h0
  have k1 := h1
  have lt1 : ∀ x ∈ p1, x.block < W.heap.size := by obtain ⟨m, hm⟩ := k1; exact DataW.trod_lt m _ _ _ hm
  obtain ⟨a1, len1, cap1, rfl⟩ := okWide_slice Try.underlying55 (hval 1 55 v1 rfl rfl)
  obtain ⟨z1, l1, s1, w1⟩ := open_ints' Try.underlying55 Try.underlying3 (by kernel_rfl) h1
  clear hA0 hval0
  refine (tree16_any a0 a1 len1 cap1 z1 W l1 s1).mono fun e W' ⟨he, bel⟩ => ?_
  subst he
  exact ⟨_, rfl, _, _, _, [], _, [], hW', trodAll_mk1 (shut_bool Try.underlying4 _), (trodAll_cons_mk (Below.trod Try.laidOut (by kernel_rfl) (of_decide_eq_true (by kernel_rfl)) k0 bel lt0) (trodAll_cons_mk (Below.trod Try.laidOut (by kernel_rfl) (of_decide_eq_true (by kernel_rfl)) k1 bel lt1) trodAll_mk0)), rfl, bel.frame _, fun h => by cases h⟩

set_option maxRecDepth 100000 in
theorem CoderTree_closed : joinedFacts Try.checked.prog 9 Try.f9 Rows.coderTreeSpec Rows.coderTreeRow = true := by
  unfold joinedFacts
  rw [closed_laid, closed_maps, closed_heard, closed_plain, closed_mayEnter, closed_lifts, closed_make]
  kernel_rfl

theorem CoderTree_holds : Rows.CoderTreeSaid :=
  OpenClaim.holds_of_wide 9 Try.f9 rfl rfl rfl rfl rfl rfl rfl ⟨rfl, rfl, rfl, rfl, rfl⟩ rfl rfl rfl rfl rfl (by kernel_rfl) Try.func9 CoderTree_closed
    (of_decide_eq_true (by kernel_rfl)) (by unfold Func.isWrapper; first | (rw [if_pos (by decide +kernel)]; kernel_rfl) | (rw [if_neg (by decide +kernel)]; exact ⟨rfl, rfl⟩))
    (fun os started H enc _ => CoderTree_lifted os started H enc)
#print axioms CoderTree_holds
end Go.Proofs.Yteokbedjcnfgiaa
