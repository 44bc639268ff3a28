
/-
  For every number of plain bytes and every row of feeds, the law LzPlays returns true: at each call as many bytes are taken, the same bytes are made, and the state is the same, as the definition says. No condition.
-/
import Derived.Test.YtnanbnaikmaljaaLzPXRZ4
import Derived.Test.YtnanbnaikmaljaaLzPXLzAl
import Derived.Test.YtnanbnaikmaljaaLzPXLzFacts
import Derived.Test.YtnanbnaikmaljaaLzPa
namespace Go.Proofs.Ytnanbnaikmaljaa
open Go.RowKit Go.ChangeShapes Go.WideShapes Go.ChangeAt Go.Deep

theorem ZRel.start (p : Nat) : ZRel (lz0 p) (rz0 p) :=
  ⟨rfl, MAgree.start, rfl, rfl, rfl, rfl, rfl, fun _ => rfl, fun h => absurd (show (0 : Nat) = 4 from h) (by decide), fun h => by rcases h with h | h <;> exact absurd (show (0 : Nat) = _ from h) (by decide), fun h => absurd (show (0 : Nat) = 3 from h) (by decide), fun h => absurd (show (0 : Nat) = 4 from h) (by decide), fun h => absurd (show (0 : Int) < 0 from h) (by decide)⟩
theorem PP.lz0 (p : Nat) : PP (lz0 p).s.m := PP.start
theorem drop_same {zs : List Int} {n i j : Nat} (hl : zs.length = n) (hi : i ≤ n) (hj : j ≤ n) (h : zs.drop i = zs.drop j) : i = j := by
  have := congrArg List.length h
  rw [List.length_drop, List.length_drop] at this
  omega
theorem rzb_lt {w w' : World} {R : RZL} {v : Value} {r : RZ} (h : RZAt w R v r) (k : Keeps None w w') {b : Nat} (hb : RZB R v b) : b < w'.heap.size := by
  have h1 := h.less
  have h2 := k.size
  rcases hb with hb | hb
  · have := hb.2; omega
  · have := (h.ow.blockB hb).2; omega
/-- Where both lie: the reference's behind the program's, both behind all that came in. -/
structure LzTwo (B : Nat) (L : LzL) (R : RZL) : Prop where
  a : B ≤ L.db
  b : L.zb < R.db
set_option maxRecDepth 100000 in
set_option maxHeartbeats 6400000 in
theorem plays20_any (plain : Int) (A : Option Addr) (m cap : Nat) (xs : List Value) (F : Nat → Fd) (W : World) (h : FdsAt W A m cap xs F) :
    Calls Try.prog 4 #[.int .i64 plain, .slice A m cap] W fun e w' => e = .returned (.bool true) ∧ Below W.heap.size W w' := by
  have hle := h.sl.2.1
  have hmx := h.sl.2.2.1
  have FS := Lib.hid h
  clear h
  by_cases g2 : 60 < m
  · have d2 : decide (60 < (m : Int)) = true := decide_eq_true (by omega)
    go_enter Try.func4, Try.ntmps4
    go_wp2_with fail
    refine (alive20_any W).mono ?_
    rintro e w1 ⟨rfl, k1⟩
    have K1 := Lib.hid k1
    clear k1
    go_wp2
    go_ret
    exact ⟨by first | rfl | simp, K1.out.below (fun _ _ h => h)⟩
  have d2 : decide (60 < (m : Int)) = false := decide_eq_false (by omega)
  by_cases g1 : plain < 0 ∨ 8192 < plain
  · skip
    go_enter Try.func4, Try.ntmps4
    go_wp2_with fail
    refine (alive20_any W).mono ?_
    rintro e w1 ⟨rfl, k1⟩
    have K1 := Lib.hid k1
    clear k1
    go_wp2_with fail
    refine (lznew_no plain _ g1).mono ?_
    rintro e w' ⟨rfl, rfl⟩
    go_wp2_with fail
    refine (rlznew_no plain _ g1).mono ?_
    rintro e w' ⟨rfl, rfl⟩
    go_wp2_with fail
    refine (num20_any _ _).mono ?_
    rintro e w' ⟨rfl, rfl⟩
    go_wp2
    go_loopw [10] (fun jv wr => jv = .int .i64 0 ∧ Keeps None W wr) (fun _ _ => 0)
    case atStart => exact ⟨rfl, K1.out⟩
    case round =>
      obtain ⟨rfl, hk⟩ := hrel
      have HK := Lib.hid hk
      clear hk K1
      by_cases h0 : 0 < m
      · have e1 : decide ((0 : Int) < (m : Int)) = true := decide_eq_true (by omega)
        have e1n : decide (0 < m) = true := decide_eq_true h0
        go_wp2
        go_ret
        exact ⟨by first | rfl | simp, HK.out.below (fun _ _ h => h)⟩
      · have e1 : decide ((0 : Int) < (m : Int)) = false := decide_eq_false (by omega)
        have e1n : decide (0 < m) = false := decide_eq_false h0
        go_wp2
        go_ret
        exact ⟨by first | rfl | simp, HK.out.below (fun _ _ h => h)⟩
  obtain ⟨p, rfl⟩ : ∃ p : Nat, plain = p := ⟨plain.toNat, by omega⟩
  have p8 : p ≤ 8192 := by omega
  clear g1 g2
  go_enter Try.func4, Try.ntmps4
  go_wp2_with fail
  refine (alive20_any W).mono ?_
  rintro e w1 ⟨rfl, k1⟩
  have K1 := Lib.hid k1
  clear k1
  go_wp2_with fail
  refine (lznew_yes p _ p8).mono ?_
  rintro e w2 ⟨L, rfl, z2, l2, k2⟩
  have Z2 := Lib.hid z2
  have L2 : Hid (W.heap.size ≤ L.db) := Nat.le_trans K1.out.size l2
  have K2 : Hid (Keeps None W w2) := K1.out.trans k2 (fun _ h => h) (fun _ _ h => h)
  clear z2 l2 k2 K1
  go_wp2_with fail
  refine (rlznew_yes p w2 p8).mono ?_
  rintro e w3 ⟨R, rfl, z3, l3, -, k3⟩
  have Y3 := Lib.hid z3
  have Z3 := Lib.hid (Z2.out.later k3)
  have TW : Hid (LzTwo W.heap.size L R) := ⟨L2.out, Nat.lt_of_lt_of_le Z2.out.c.lt l3⟩
  have K3 : Hid (Keeps (fun k => W.heap.size ≤ k) W w3) := K2.out.trans k3 (fun _ h => h.elim) (fun _ _ h => h.elim)
  clear z3 l3 k3 K2 Z2 L2
  go_wp2_with fail
  refine (num20_any _ _).mono ?_
  rintro e w' ⟨rfl, rfl⟩
  go_wp2
  go_loopw [10] (fun jv wr => ∃ (j : Nat) (z : LzS) (r : RZ) (v' : Value), j ≤ m ∧ jv = .int .i64 (j : Int) ∧ LzAt wr L z ∧ LzOk z ∧ z.plain = p ∧ PP z.s.m ∧ ZRel z r ∧ RZAt wr R v' r ∧ Keeps (fun k => W.heap.size ≤ k) W wr) (fun jv _ => m - (intOf jv).toNat)
  case atStart => exact ⟨0, lz0 p, rz0 p, _, Nat.zero_le _, rfl, Z3.out, LzOk.start p8, rfl, PP.lz0 p, ZRel.start p, Y3.out, K3.out⟩
  case round =>
    clear Z3 Y3 K3
    obtain ⟨j, z, r, v', hjm, rfl, hz, hok, hpl, hpp, hrl, hy, hk⟩ := hrel
    have HZ := Lib.hid hz
    have HY := Lib.hid hy
    have OK := Lib.hid hok
    have HK := Lib.hid hk
    have PL := Lib.hid hpl
    have PPP := Lib.hid hpp
    have RL := Lib.hid hrl
    clear hz hok hk hpl hpp hrl hy
    obtain ⟨wv, rfl⟩ : ∃ x, x = wr := ⟨_, rfl⟩
    by_cases him : j < m
    · obtain ⟨bl, off, rfl, x0, x1, hbs⟩ := FS.out.cells HK.out (fun k hk h => absurd h (by omega)) him
      have hrb := (FS.out.at_ j him).rb
      obtain ⟨⟨A1, l1, c1, zs, rm⟩, hF⟩ : ∃ x, F j = x := ⟨_, rfl⟩
      rw [hF] at x0 x1 hbs hrb
      dsimp only at x0 x1 hbs hrb
      have HFJ := Lib.hid hF
      have HBS := Lib.hid hbs
      have hle1 := hbs.le
      have hmx1 := hbs.max
      have LZS := Lib.hid hbs.len
      have INB : Hid (∀ b off, 0 < l1 → A1 = some ⟨b, off, none⟩ → b < W.heap.size) := fun b off h0 e => by
        have q := (FS.out.at_ j him).b
        rw [hF] at q
        obtain ⟨b2, o2, e2, hlt, -⟩ := q.at_ h0
        rw [show A1 = some ⟨b2, o2, none⟩ from e2] at e
        cases e
        exact hlt
      clear hbs hF
      by_cases g3 : 300 < l1
      · have d3 : decide (300 < (l1 : Int)) = true := decide_eq_true (by omega)
        have d3n : decide (300 < l1) = true := decide_eq_true g3
        go_wp2
        go_ret
        exact ⟨by first | rfl | simp, HK.out.below (fun k hk h => absurd h (by omega))⟩
      have d3 : decide (300 < (l1 : Int)) = false := decide_eq_false (by omega)
      have d3n : decide (300 < l1) = false := decide_eq_false g3
      have FD := Lib.hid (fun A5 c5 w' (h' : LzAt w' L z) (hb' : Bs w' A5 l1 c5 zs) nb => lzfeed_any L z A5 l1 c5 zs rm w' h' OK.out hb' nb hrb)
      have RD := Lib.hid (fun w' (h' : RZAt w' R v' r) (hb' : Bs w' A1 l1 c1 zs) nb => rlzfeed_any R v' z r A1 l1 c1 zs rm w' h' RL.out OK.out PPP.out hb' nb hrb)
      obtain ⟨RS, RH⟩ := lzF_res rm (lzM z l1 + 1) z zs [] (by rw [LZS.out]; omega) OK.out HBS.out.byte (by show ((0 : Nat) : Int) ≤ _; omega)
      have OK3 := lzF_ok rm (lzM z l1 + 1) z zs [] OK.out HBS.out.byte
      obtain ⟨⟨z3, ys3, out3⟩, hr⟩ : ∃ x, lzF rm (lzM z l1 + 1) z zs [] = x := ⟨_, rfl⟩
      rw [hr] at FD RD RS OK3
      have OKZ := Lib.hid OK3
      have PL3 : Hid (z3.plain = p) := RS.plain.trans PL.out
      have h38 : z3.h.length ≤ 8192 := by have q1 := OK3.hp; have q2 := PL3.out; dsimp only at q1; omega
      have SEP1 : Hid (∀ k, LzB L k → W.heap.size ≤ k ∧ k ≤ L.zb) := fun k h => by have h0 := HZ.out.ne; have h1 := TW.out.a; have h : k = L.db ∨ (L.T.g1 ≤ k ∧ k ≤ L.T.sb) ∨ k = L.wb ∨ k = L.zb := h; omega
      have SEP2 : Hid (∀ k, RZB R v' k → R.db ≤ k) := fun k h => by
        have ho := HY.out.ord
        obtain ⟨o1, o2, o3, o4, o5, o6, o7⟩ := ho
        rcases h with h | h
        · exact h.1
        · have := (HY.out.ow.blockB h).1; omega
      clear OK3 RS RH hr
      obtain ⟨hr1, hr2⟩ := hrb
      go_wp2
      obtain ⟨mS, mh⟩ : ∃ S : World → Prop, ∀ w', S w' ↔ (w'.cell? ⟨bl, off + j * 2, none⟩ = some (.slice A1 l1 c1) ∧ w'.cell? ⟨bl, off + j * 2 + 1, none⟩ = some (.int .i64 rm)) := ⟨_, fun _ => Iff.rfl⟩
      have mk0 : ∀ x : Memb mS, x.at_.cell? ⟨bl, off + j * 2, none⟩ = some (.slice A1 l1 c1) := fun x => ((mh _).1 x.is).1
      have mk1 : ∀ x : Memb mS, x.at_.cell? ⟨bl, off + j * 2 + 1, none⟩ = some (.int .i64 rm) := fun x => ((mh _).1 x.is).2
      have mn : Nonempty (Memb mS) := ⟨⟨(wv).drew, (mh _).2 ⟨x0, x1⟩⟩⟩
      have mH := Lib.hid mh
      clear mh
      refine wp_region_mix [6, 12] (InS mS) (by kernel_rfl) (by kernel_rfl) (InS.mk ((mH.out _).2 ⟨x0, x1⟩)) ?_
      refine wpMix_seg 6 (by kernel_rfl) (by decide) ?_
      simp only [List.take_succ_cons, List.take_zero, List.drop_succ_cons, List.drop_zero]
      repeat (go_big_quiet_step (fail))
      refine wpQuiet_nil ?_
      refine wpMix_eff (by kernel_rfl) ?_
      go_wp2_with (at_builtin; refine Hid.out ?_)
      refine Lib.hid ?_
      refine wpList_append_bs (Own.nil _ wv.heap.size) HBS.out.drew (by simp; omega) (Nat.le_refl _) rfl rfl rfl rfl rfl ?_
      intro v4 w4 ho4 hk4
      rw [List.nil_append] at ho4
      have k4 : Keeps None wv w4 := (Keeps.refl None wv).drew.trans hk4 (T := None) (fun _ h => h) (fun i hi e => by simp [Value.ownBlock] at e)
      obtain ⟨A4, c4, rfl, b4, in4⟩ := ho4.shape
      have l4 := b4.le
      have m4 := b4.max
      rw [LZS.out] at l4 b4 ⊢
      have B4 := Lib.hid b4
      have I4 := Lib.hid in4
      have K4 := Lib.hid k4
      have KW4 : Hid (Keeps (fun k => W.heap.size ≤ k) W w4) := HK.out.trans k4 (T := fun k => W.heap.size ≤ k) (fun _ h => h) (fun _ _ h => h.elim)
      obtain ⟨b9, off9, he9, y0, y1, -⟩ := FS.out.cells KW4.out (fun k hk h => absurd h (by omega)) him
      cases he9
      rw [HFJ.out] at y0 y1
      dsimp only at y0 y1
      clear ho4 hk4 k4 b4 in4
      go_wp2
      refine MixK.on (InS.mk ((mH.out _).2 (⟨y0, y1⟩))) ?_
      refine wpMix_seg 5 (by kernel_rfl) (by decide) ?_
      simp only [List.take_succ_cons, List.take_zero, List.drop_succ_cons, List.drop_zero]
      repeat (go_big_quiet_step (fail))
      refine wpQuiet_nil ?_
      refine wpMix_eff (by kernel_rfl) ?_
      go_wp2_with fail
      refine (FD.out A4 c4 w4 (HZ.out.later K4.out) B4.out (fun h0 b off e hk => by have h1 := (I4.out b off e).1; have h2 := (SEP1.out b hk).2; have h3 := HZ.out.c.lt; omega)).mono ?_
      rintro e w5 ⟨i, v, hi, hy, rfl, z4, ok4, o4, k5⟩
      obtain ⟨A5, c5, rfl, b5, in5⟩ := o4.shape
      have l5 := b5.le
      have m5 := b5.max
      dsimp only at l5 hy z4 ok4 b5 ⊢
      have Z5 := Lib.hid z4
      have Y5 := Lib.hid ((HY.out.later K4.out).keeps k5 (fun k hk h => by have h1 := SEP2.out k hk; have h2 := (SEP1.out k h).2; have h3 := TW.out.b; omega))
      have B5 := Lib.hid b5
      have A5N : Hid (∀ b off, 0 < out3.length → A5 = some ⟨b, off, none⟩ → ¬ RZB R v' b) := fun b off h0 e hk => by have h1 := (in5 b off e).1; have h2 := rzb_lt HY.out K4.out hk; omega
      have HI := Lib.hid (show ys3 = zs.drop i from hy)
      have K5 : Hid (Keeps (fun k => W.heap.size ≤ k) W w5) := KW4.out.trans k5 (T := fun k => W.heap.size ≤ k) (fun _ h => h) (fun k _ h => (SEP1.out k h).1)
      obtain ⟨b9, off9, he9, y0, y1, y2⟩ := FS.out.cells K5.out (fun k hk h => absurd h (by omega)) him
      cases he9
      rw [HFJ.out] at y0 y1 y2
      dsimp only at y0 y1 y2
      have A5B := Lib.hid y2
      clear y2
      clear o4 k5 b5 in5 z4 ok4 hy KW4 K4 B4 I4
      go_wp2
      refine MixK.on (InS.mk ((mH.out _).2 (⟨y0, y1⟩))) ?_
      refine wpMix_seg 7 (by kernel_rfl) (by decide) ?_
      simp only [List.take_succ_cons, List.take_zero, List.drop_succ_cons, List.drop_zero]
      repeat (go_big_quiet_step (fail))
      refine wpQuiet_nil ?_
      refine wpMix_nil ?_
      clear mk0 mk1 mn mH
      go_wp2
      obtain ⟨mS, mh⟩ : ∃ S : World → Prop, ∀ w', S w' ↔ (w'.cell? ⟨bl, off + j * 2, none⟩ = some (.slice A1 l1 c1) ∧ w'.cell? ⟨bl, off + j * 2 + 1, none⟩ = some (.int .i64 rm)) := ⟨_, fun _ => Iff.rfl⟩
      have mk0 : ∀ x : Memb mS, x.at_.cell? ⟨bl, off + j * 2, none⟩ = some (.slice A1 l1 c1) := fun x => ((mh _).1 x.is).1
      have mk1 : ∀ x : Memb mS, x.at_.cell? ⟨bl, off + j * 2 + 1, none⟩ = some (.int .i64 rm) := fun x => ((mh _).1 x.is).2
      have mn : Nonempty (Memb mS) := ⟨⟨(w5).drew, (mh _).2 ⟨y0, y1⟩⟩⟩
      have mH := Lib.hid mh
      clear mh
      refine wp_region_mix [11] (InS mS) (by kernel_rfl) (by kernel_rfl) (InS.mk ((mH.out _).2 ⟨y0, y1⟩)) ?_
      refine wpMix_seg 11 (by kernel_rfl) (by decide) ?_
      simp only [List.take_succ_cons, List.take_zero, List.drop_succ_cons, List.drop_zero]
      repeat (go_big_quiet_step (fail))
      refine wpQuiet_nil ?_
      refine wpMix_eff (by kernel_rfl) ?_
      go_wp2_with fail
      refine (RD.out w5.drew (Y5.out.later (Keeps.refl None w5).drew) A5B.out.drew (fun h0 b off e hk => by have h1 := INB.out b off h0 e; have h2 := SEP2.out b hk; have h3 := TW.out.a; have h4 := TW.out.b; have h5 := HZ.out.ne; omega)).mono ?_
      rintro e w6 ⟨i2, ov, v2, r2, hi2, hy2, rfl, z6, rel6, pp6, o6, nv6, k6⟩
      obtain rfl : i = i2 := drop_same LZS.out hi hi2 (HI.out.symm.trans hy2)
      obtain ⟨A6, c6, rfl, b6, -⟩ := o6.shape
      obtain ⟨A7, c7, rfl, b7, -⟩ := z6.ow.shape
      have l6 := b6.le
      have m6 := b6.max
      have l7 := b7.le
      have m7 := b7.max
      dsimp only at l6 b6 rel6 pp6 ⊢
      have B6 := Lib.hid b6
      have B7 := Lib.hid (B5.out.keeps (S := RZB R v') ((Keeps.refl _ w5).drew.trans k6 (fun _ h => h) (fun _ _ h => h)) (fun b off h0 hb e hk => A5N.out b off h0 e hk))
      have Z7 := Lib.hid (Z5.out.keeps (S := RZB R v') ((Keeps.refl _ w5).drew.trans k6 (fun _ h => h) (fun _ _ h => h)) (fun k hk h => by have h1 := SEP2.out k h; have h2 := (SEP1.out k hk).2; have h3 := TW.out.b; omega))
      have Y7 := Lib.hid z6
      have REL := Lib.hid rel6
      have PP7 := Lib.hid pp6
      have K7 : Hid (Keeps (fun k => W.heap.size ≤ k) W w6) := K5.out.drew.trans k6 (T := fun k => W.heap.size ≤ k) (fun _ h => h) (fun k _ h => by have h1 := SEP2.out k h; have h3 := TW.out.a; have h4 := TW.out.b; have h5 := HZ.out.ne; show _ ≤ _; omega)
      obtain ⟨b9, off9, he9, y0, y1, -⟩ := FS.out.cells K7.out (fun k hk h => absurd h (by omega)) him
      cases he9
      rw [HFJ.out] at y0 y1
      dsimp only at y0 y1
      clear o6 k6 b6 b7 z6 rel6 pp6 nv6 hy2 K5 Z5 Y5 B5 A5B
      go_wp2
      refine MixK.on (InS.mk ((mH.out _).2 (⟨y0, y1⟩))) ?_
      refine wpMix_seg 5 (by kernel_rfl) (by decide) ?_
      simp only [List.take_succ_cons, List.take_zero, List.drop_succ_cons, List.drop_zero]
      repeat (go_big_quiet_step (fail))
      refine wpQuiet_nil ?_
      refine wpMix_nil ?_
      clear mk0 mk1 mn mH
      have HO7 : Hid (r2.out = z3.h) := REL.out.out
      rw [HO7.out] at Y7 l7
      obtain ⟨oo, OLN⟩ : ∃ x, Hid (out3.length = x) := ⟨_, rfl⟩
      obtain ⟨hn, EM⟩ : ∃ x, Hid (z3.h.length = x) := ⟨_, rfl⟩
      rw [OLN.out] at B6 B7 l5 l6 ⊢
      rw [EM.out] at Y7 l7 h38
      obtain ⟨sm, HSM⟩ : ∃ sm, Hid (strOf out3 = sm) := ⟨_, rfl⟩
      have q1 : w6.cell? ⟨R.zb, 1, none⟩ = some (.int .i64 z3.st) := by rw [← REL.out.st]; exact Y7.out.cc.cellD 1 _ rfl
      have q2 : w6.cell? ⟨R.zb, 2, none⟩ = some (.slice A7 hn c7) := Y7.out.cc.cellD 2 _ rfl
      have ST := Lib.hid (fun w' h => lzstate_any L z3 w' h)
      have MD := Lib.hid (fun w' h => lzmade_any L z3 w' h)
      rw [EM.out] at MD
      obtain ⟨st3, HST⟩ : ∃ x, Hid (z3.st = x) := ⟨_, rfl⟩
      rw [HST.out] at ST q1 ⊢
      go_wp2
      obtain ⟨mS, mh⟩ : ∃ S : World → Prop, ∀ w', S w' ↔ (w'.cell? ⟨R.zb, 1, none⟩ = some (.int .i64 st3) ∧ w'.cell? ⟨R.zb, 2, none⟩ = some (.slice A7 hn c7) ∧ ((convert 22 9 (.slice A5 oo c5)).run Try.prog w' = .ok (.string sm) w') ∧ ((convert 22 9 (.slice A6 oo c6)).run Try.prog w' = .ok (.string sm) w')) := ⟨_, fun _ => Iff.rfl⟩
      have mk0 : ∀ x : Memb mS, x.at_.cell? ⟨R.zb, 1, none⟩ = some (.int .i64 st3) := fun x => ((mh _).1 x.is).1
      have mk1 : ∀ x : Memb mS, x.at_.cell? ⟨R.zb, 2, none⟩ = some (.slice A7 hn c7) := fun x => ((mh _).1 x.is).2.1
      have mk2 : ∀ x : Memb mS, (convert 22 9 (.slice A5 oo c5)).run Try.prog x.at_ = .ok (.string sm) x.at_ := fun x => ((mh _).1 x.is).2.2.1
      have mk3 : ∀ x : Memb mS, (convert 22 9 (.slice A6 oo c6)).run Try.prog x.at_ = .ok (.string sm) x.at_ := fun x => ((mh _).1 x.is).2.2.2
      have mn : Nonempty (Memb mS) := ⟨⟨(w6).drew, (mh _).2 ⟨q1, q2, HSM.out ▸ run_str B7.out.drew, HSM.out ▸ run_str B6.out.drew⟩⟩⟩
      have mH := Lib.hid mh
      clear mh
      refine wp_region_mix [20, 29] (InS mS) (by kernel_rfl) (by kernel_rfl) (InS.mk ((mH.out _).2 ⟨q1, q2, HSM.out ▸ run_str B7.out.drew, HSM.out ▸ run_str B6.out.drew⟩)) ?_
      refine wpMix_seg 20 (by kernel_rfl) (by decide) ?_
      simp only [List.take_succ_cons, List.take_zero, List.drop_succ_cons, List.drop_zero]
      repeat (first | go_big_quiet_step (fail) | (go_big_quiet_want; first | refine quiet_conv mk2 rfl rfl rfl (by simp only [Act.put, List.setIfInBounds_toArray, List.set_cons_succ, List.set_cons_zero]; rfl) ?_; go_big_quiet_on | refine quiet_conv mk3 rfl rfl rfl (by simp only [Act.put, List.setIfInBounds_toArray, List.set_cons_succ, List.set_cons_zero]; rfl) ?_; go_big_quiet_on))
      refine wpQuiet_nil ?_
      refine wpMix_eff (by kernel_rfl) ?_
      go_wp2_with fail
      refine (ST.out _ (Z7.out.later (Keeps.refl None w6).drew)).mono ?_
      rintro e w' ⟨rfl, rfl⟩
      go_wp2
      refine MixK.on (InS.mk ((mH.out _).2 ⟨q1, q2, HSM.out ▸ run_str B7.out.drew, HSM.out ▸ run_str B6.out.drew⟩)) ?_
      refine wpMix_seg 8 (by kernel_rfl) (by decide) ?_
      simp only [List.take_succ_cons, List.take_zero, List.drop_succ_cons, List.drop_zero]
      repeat (first | go_big_quiet_step (fail) | (go_big_quiet_want; first | refine quiet_conv mk2 rfl rfl rfl (by simp only [Act.put, List.setIfInBounds_toArray, List.set_cons_succ, List.set_cons_zero]; rfl) ?_; go_big_quiet_on | refine quiet_conv mk3 rfl rfl rfl (by simp only [Act.put, List.setIfInBounds_toArray, List.set_cons_succ, List.set_cons_zero]; rfl) ?_; go_big_quiet_on))
      refine wpQuiet_nil ?_
      refine wpMix_eff (by kernel_rfl) ?_
      go_wp2_with fail
      refine (MD.out _ (Z7.out.later (Keeps.refl None w6).drew)).mono ?_
      rintro e w' ⟨rfl, rfl⟩
      go_wp2
      refine MixK.on (InS.mk ((mH.out _).2 ⟨q1, q2, HSM.out ▸ run_str B7.out.drew, HSM.out ▸ run_str B6.out.drew⟩)) ?_
      refine wpMix_seg 7 (by kernel_rfl) (by decide) ?_
      simp only [List.take_succ_cons, List.take_zero, List.drop_succ_cons, List.drop_zero]
      repeat (first | go_big_quiet_step (fail) | (go_big_quiet_want; first | refine quiet_conv mk2 rfl rfl rfl (by simp only [Act.put, List.setIfInBounds_toArray, List.set_cons_succ, List.set_cons_zero]; rfl) ?_; go_big_quiet_on | refine quiet_conv mk3 rfl rfl rfl (by simp only [Act.put, List.setIfInBounds_toArray, List.set_cons_succ, List.set_cons_zero]; rfl) ?_; go_big_quiet_on))
      refine wpQuiet_nil ?_
      refine wpMix_nil ?_
      clear mk0 mk1 mk2 mk3 mn mH
      go_wp2
      go_roundw
      case rel => exact ⟨j + 1, z3, r2, _, him, by go_num, Z7.out.later (Keeps.refl None w6).drew, OKZ.out, PL3.out, PP7.out, REL.out, by exact Y7.out.later (Keeps.refl None w6).drew, K7.out.drew⟩
      case measure => simp [intOf]; omega
    · go_wp2
      go_ret
      exact ⟨by first | rfl | simp, HK.out.below (fun k hk h => absurd h (by omega))⟩
theorem plays20_all (plain : Int) (A : Option Addr) (m cap : Nat) (xs : List Value) (W : World) (hs : IsSl W A m cap 2 xs) (h : ∀ i, i < m → ∃ c, FdAt W xs i c) :
    Calls Try.prog 4 #[.int .i64 plain, .slice A m cap] W fun e w' => e = .returned (.bool true) ∧ Below W.heap.size W w' := by
  obtain ⟨F, hF⟩ := fds_of hs h
  exact plays20_any plain A m cap xs F W hF
set_option maxRecDepth 100000 in
theorem LzPlays_lifted (os : Os) (started : os.Started) (H : Type) (enc : TypeId × Value → H) :
    ReturnsInHanded {} Try.checked os 4 .any (Rows.lzPlaysSpec.pre6 enc Try.prog Try.f4 Rows.lzPlaysRow.domain false) (Rows.lzPlaysSpec.post enc Try.prog Try.f4 false true false false) := by
  refine returnsInHanded_of_change (C := Try.checked) Try.own started (by kernel_rfl) Try.func4
    (ChangeSpec.witness6 (enc := enc) (C := Try.checked) false ⟨#[], #[.int .i64 0, .slice none 0 0], []⟩ 8 (by kernel_rfl) (by kernel_rfl) (by kernel_rfl) (by kernel_rfl)) ?_
  intro W base args ds gs before hval0 hW hcnd _
  have hval : ∀ (j : Nat) t v, Try.f4.params[j]? = some t → args[j]? = some v → Value.okWide Try.prog W .any base t v := hval0
  have hW' := hW
  obtain ⟨p, q, hA0, hV, rfl, hfz, hnd⟩ := hW
  have hA : DataW.TrodAll enc Try.prog W 0 (fun _ => true) true Try.f4.params.toList args.toList ds p := hA0
  rw [Try.params4] at hA hval
  obtain ⟨v0, vs0, d0, ds0, p0, q0, hargs, rfl, rfl, h0, r0⟩ := trodAll_cons hA
  obtain ⟨v1, vs1, d1, ds1, p1, q1, rfl, rfl, rfl, h1, r1⟩ := trodAll_cons r0
  obtain ⟨rfl, rfl, rfl⟩ := trodAll_nil r1
  obtain rfl : args = #[v0, v1] := by cases args; simp_all
  obtain ⟨rfl, rfl⟩ := trodVars_none hV
  have k0 := h0
  have lt0 : ∀ x ∈ p0, x.block < W.heap.size := by obtain ⟨m, hm⟩ := k0; exact DataW.trod_lt m _ _ _ hm
  obtain ⟨a0, rfl, rfl, rfl, w0⟩ := open_int Try.underlying3 (hval 0 3 v0 rfl rfl) h0
  have k1 := h1
  have lt1 : ∀ x ∈ p1, x.block < W.heap.size := by obtain ⟨m, hm⟩ := k1; exact DataW.trod_lt m _ _ _ hm
  obtain ⟨a1, len1, cap1, rfl⟩ := okWide_slice Try.underlying32 (hval 1 32 v1 rfl rfl)
  obtain ⟨z1, s1, f1⟩ := open_structs' Try.underlying32 Try.underlying42 (by kernel_rfl) (by kernel_rfl) (by decide) h1
  clear hA0 hval0
  refine (plays20_all a0 a1 len1 cap1 z1 W s1 (fun i hi => by obtain ⟨A, l, c, zs, e0, hb⟩ := fld_bytesZ f1 (j := 0) rfl rfl hi; obtain ⟨y1, e1, w1⟩ := fld_int f1 (j := 1) rfl Try.underlying3 hi; exact ⟨⟨A, l, c, zs, y1⟩, e0, e1, hb, wf_i64_bd w1⟩)).mono fun e W' ⟨he, bel⟩ => ?_
  subst he
  exact ⟨_, rfl, _, _, _, [], _, [], hW', trodAll_mk1 (shut_bool Try.underlying4 _), (trodAll_cons_mk (Below.trod Try.laidOut (by kernel_rfl) (of_decide_eq_true (by kernel_rfl)) k0 bel lt0) (trodAll_cons_mk (Below.trod Try.laidOut (by kernel_rfl) (of_decide_eq_true (by kernel_rfl)) k1 bel lt1) trodAll_mk0)), rfl, bel.frame _, fun h => by cases h⟩

set_option maxRecDepth 100000 in
theorem LzPlays_closed : joinedFacts Try.checked.prog 4 Try.f4 Rows.lzPlaysSpec Rows.lzPlaysRow = true := by
  unfold joinedFacts
  rw [closed_laid, closed_maps, closed_heard, closed_plain, closed_mayEnter, closed_lifts, closed_make]
  kernel_rfl

theorem LzPlays_holds : Rows.LzPlaysSaid :=
  OpenClaim.holds_of_wide 4 Try.f4 rfl rfl rfl rfl rfl rfl rfl ⟨rfl, rfl, rfl, rfl, rfl⟩ rfl rfl rfl rfl rfl (by kernel_rfl) Try.func4 LzPlays_closed
    (of_decide_eq_true (by kernel_rfl)) (by unfold Func.isWrapper; first | (rw [if_pos (by decide +kernel)]; kernel_rfl) | (rw [if_neg (by decide +kernel)]; exact ⟨rfl, rfl⟩))
    (fun os started H enc _ => LzPlays_lifted os started H enc)
#print axioms LzPlays_holds
end Go.Proofs.Ytnanbnaikmaljaa
