/-
  For every number of plain bytes and every row of feeds, the law LzWaits returns true: an Lz waits for bytes only when all were taken, for room only when there is none, and it stays Done, and Bad. No condition.
-/
import Derived.Test.YtggjdkkobhefeaaLzAl
import Derived.Test.YtggjdkkobhefeaaLzFacts
import Derived.Test.YtggjdkkobhefeaaInit
namespace Go.Proofs.Ytggjdkkobhefeaa
open Go.RowKit Go.ChangeShapes Go.WideShapes Go.ChangeAt Go.Deep

set_option maxRecDepth 100000 in
set_option maxHeartbeats 6400000 in
theorem waits20_any (plain : Int) (A : Option Addr) (m cap : Nat) (xs : List Value) (F : Nat → Fd) (W : World) (h : FdsAt W A m cap xs F) (hp : -9223372036854775808 ≤ plain ∧ plain ≤ 9223372036854775807) :
    Calls Try.prog 4 #[.int .i64 plain, .slice A m cap] W fun e w' => e = .returned (.bool true) ∧ Below W.heap.size W w' := by
  have hle := h.sl.2.1
  have hmx := h.sl.2.2.1
  have FS := Lib.hid h
  clear h
  obtain ⟨hp1, hp2⟩ := hp
  by_cases g1 : plain < 0 ∨ 8192 < plain
  · skip
    go_enter Try.func4, Try.ntmps4
    go_wp2_with fail
    refine (alive20_any W).mono ?_
    rintro e w1 ⟨rfl, k1⟩
    have K1 := Lib.hid k1
    clear k1
    go_wp2_with fail
    refine (lznew_no plain _ g1).mono ?_
    rintro e w' ⟨rfl, rfl⟩
    go_wp2_with fail
    refine (num20_any _ _).mono ?_
    rintro e w' ⟨rfl, rfl⟩
    go_wp2_with fail
    refine (num20_any _ _).mono ?_
    rintro e w' ⟨rfl, rfl⟩
    go_wp2
    go_ret
    exact ⟨by first | rfl | simp, K1.out.below (fun _ _ h => h)⟩
  obtain ⟨p, rfl⟩ : ∃ p : Nat, plain = p := ⟨plain.toNat, by omega⟩
  have p8 : p ≤ 8192 := by omega
  clear g1
  go_enter Try.func4, Try.ntmps4
  go_wp2_with fail
  refine (alive20_any W).mono ?_
  rintro e w1 ⟨rfl, k1⟩
  have K1 := Lib.hid k1
  clear k1
  go_wp2_with fail
  refine (lznew_yes p _ p8).mono ?_
  rintro e w2 ⟨L, rfl, z2, l2, k2⟩
  have Z2 := Lib.hid z2
  have L2 : Hid (W.heap.size ≤ L.db) := Nat.le_trans K1.out.size l2
  have K2 : Hid (Keeps (fun k => W.heap.size ≤ k) W w2) := K1.out.trans k2 (T := fun k => W.heap.size ≤ k) (fun _ h => h.elim) (fun _ _ h => h.elim)
  clear z2 l2 k2
  go_wp2_with fail
  refine (num20_any _ _).mono ?_
  rintro e w' ⟨rfl, rfl⟩
  by_cases g2 : 60 < m
  · have d2 : decide (60 < (m : Int)) = true := decide_eq_true (by omega)
    go_wp2_with fail
    refine (num20_any _ _).mono ?_
    rintro e w' ⟨rfl, rfl⟩
    go_wp2
    go_ret
    exact ⟨by first | rfl | simp, K2.out.below (fun k hk h => absurd h (by omega))⟩
  have d2 : decide (60 < (m : Int)) = false := decide_eq_false (by omega)
  go_wp2
  go_loopw [8, 9, 10] (fun ov mv jv wr => ∃ (j : Nat) (z : LzS), j ≤ m ∧ jv = .int .i64 (j : Int) ∧ mv = .int .i64 (z.h.length : Int) ∧ ov = .int .i64 (if z.st = 3 ∨ z.st = 4 then z.st else 0) ∧ LzAt wr L z ∧ LzOk z ∧ z.plain = p ∧ Keeps (fun k => W.heap.size ≤ k) W wr) (fun _ _ jv _ => m - (intOf jv).toNat)
  case atStart => exact ⟨0, lz0 p, Nat.zero_le _, rfl, rfl, rfl, Z2.out, LzOk.start p8, rfl, K2.out⟩
  case round =>
    clear Z2 K2
    obtain ⟨j, z, hjm, rfl, rfl, rfl, hz, hok, hpl, hk⟩ := hrel
    have HZ := Lib.hid hz
    have OK := Lib.hid hok
    have HK := Lib.hid hk
    have PL := Lib.hid hpl
    have HLEN : z.h.length ≤ p := by have := hok.hp; omega
    clear hz hok hk hpl
    obtain ⟨wv, rfl⟩ : ∃ x, x = wr := ⟨_, rfl⟩
    by_cases him : j < m
    · obtain ⟨bl, off, rfl, x0, x1, hbs⟩ := FS.out.cells HK.out (fun k hk h => absurd h (by omega)) him
      have hrb := (FS.out.at_ j him).rb
      obtain ⟨⟨A1, l1, c1, zs, rm⟩, hF⟩ : ∃ x, F j = x := ⟨_, rfl⟩
      rw [hF] at x0 x1 hbs hrb
      dsimp only at x0 x1 hbs hrb
      have HFJ := Lib.hid hF
      have HBS := Lib.hid hbs
      have hle1 := hbs.le
      have hmx1 := hbs.max
      have NB : Hid (0 < l1 → ∀ b off, A1 = some ⟨b, off, none⟩ → ¬ LzB L b) := fun h0 b off e hk => by
        have q := (FS.out.at_ j him).b
        rw [hF] at q
        obtain ⟨b2, o2, e2, hlt, -⟩ := q.at_ h0
        rw [show A1 = some ⟨b2, o2, none⟩ from e2] at e
        cases e
        have := L2.out
        have h0 := HZ.out.ne
        have hk : b = L.db ∨ (L.T.g1 ≤ b ∧ b ≤ L.T.sb) ∨ b = L.wb ∨ b = L.zb := hk
        omega
      have FD := Lib.hid (fun w' (h' : LzAt w' L z) (hb' : Bs w' A1 l1 c1 zs) => lzfeed_any L z A1 l1 c1 zs rm w' h' OK.out hb' NB.out hrb)
      obtain ⟨RS, RH⟩ := lzF_res rm (lzM z l1 + 1) z zs [] (by rw [hbs.len]; omega) OK.out hbs.byte (by show ((0 : Nat) : Int) ≤ _; omega)
      have RH := RH z.h (by rw [List.append_nil])
      have TERM := fun hs => lzF_term rm (lzM z l1 + 1) z zs hs
      obtain ⟨⟨z3, ys3, out3⟩, hr⟩ : ∃ x, lzF rm (lzM z l1 + 1) z zs [] = x := ⟨_, rfl⟩
      rw [hr] at FD RS RH TERM
      dsimp only at RH
      have LZS := Lib.hid hbs.len
      obtain ⟨oo, hoo⟩ : ∃ x, out3.length = x := ⟨_, rfl⟩
      have OLN := Lib.hid hoo
      obtain ⟨hn, hhn⟩ : ∃ x, z.h.length = x := ⟨_, rfl⟩
      have EM : Hid ((z3.h.length : Int) = (hn : Int) + (oo : Int)) := by show _ = _; rw [RH, List.length_append, hhn, hoo]; omega
      have PL3 : Hid (z3.plain = p) := RS.plain.trans PL.out
      have OK3 : Hid (1 ≤ z3.st ∧ z3.st ≤ 4 ∧ z3.h.length ≤ z3.plain) := by
        have := (lzF_ok rm (lzM z l1 + 1) z zs [] OK.out HBS.out.byte)
        rw [hr] at this
        exact ⟨this.st1, this.st4, this.hp⟩
      have rs1 := RS.need
      have rs2 := RS.full
      have rs3 := RS.len
      dsimp only at rs1 rs2 rs3
      rw [hoo] at rs2 rs3
      rw [hhn] at HLEN ⊢
      have ho8 : hn + oo ≤ 8192 := by have q1 := OK3.out.2.2; have q2 : z3.plain = p := PL3.out; have q3 := EM.out; omega
      have S14 : z.st = 3 ∨ z.st = 4 ∨ ¬ (z.st = 3 ∨ z.st = 4) := by omega
      clear hbs RS hr hoo hhn hF
      obtain ⟨hr1, hr2⟩ := hrb
      rcases S14 with s3 | s3 | s3
      · skip
        have hT := TERM (.inl s3)
        obtain ⟨rfl, e2, e3⟩ : z3 = z ∧ ys3 = zs ∧ out3 = [] := by simpa using hT
        have EYS := Lib.hid e2
        have o0 : oo = 0 := by have := OLN.out; rw [e3] at this; exact this.symm
        have o1 : ((oo : Int) == 0) = true := by simp [o0]
        have o2 : ((oo : Int) != 0) = false := by simp [o0]
        have ES : Hid (z3.st = 3) := s3
        have RF : True := trivial
        rw [show (if z3.st = 3 ∨ z3.st = 4 then z3.st else 0) = 3 by rw [s3]; rfl]
        clear hT TERM rs1 rs2 RH e2 e3 o0 s3
        -- the room is none, or as told: wtI0 what is taken
        by_cases hrm : rm < 0
        · have e1 : decide (rm < 0) = true := decide_eq_true hrm
          have e2 : decide ((0 : Int) < (oo : Int)) = false := decide_eq_false (by omega)
          have e2n : decide (0 < oo) = false := decide_eq_false (by omega)
          clear rs3 RF
          -- a round: wtI0 what is taken
          go_wp2
          obtain ⟨mS, mh⟩ : ∃ S : World → Prop, ∀ w', S w' ↔ (w'.cell? ⟨bl, off + j * 2, none⟩ = some (.slice A1 l1 c1) ∧ w'.cell? ⟨bl, off + j * 2 + 1, none⟩ = some (.int .i64 rm)) := ⟨_, fun _ => Iff.rfl⟩
          have mk0 : ∀ x : Memb mS, x.at_.cell? ⟨bl, off + j * 2, none⟩ = some (.slice A1 l1 c1) := fun x => ((mh _).1 x.is).1
          have mk1 : ∀ x : Memb mS, x.at_.cell? ⟨bl, off + j * 2 + 1, none⟩ = some (.int .i64 rm) := fun x => ((mh _).1 x.is).2
          have mn : Nonempty (Memb mS) := ⟨⟨(wv).drew, (mh _).2 ⟨x0, x1⟩⟩⟩
          have mH := Lib.hid mh
          clear mh
          refine wp_region_mix [11] (InS mS) (by kernel_rfl) (by kernel_rfl) (InS.mk ((mH.out _).2 ⟨x0, x1⟩)) ?_
          refine wpMix_seg 11 (by kernel_rfl) (by decide) ?_
          simp only [List.take_succ_cons, List.take_zero, List.drop_succ_cons, List.drop_zero]
          repeat (go_big_quiet_step (fail))
          refine wpQuiet_nil ?_
          refine wpMix_eff (by kernel_rfl) ?_
          go_wp2_with fail
          refine (FD.out _ (HZ.out.later (Keeps.refl None wv).drew) HBS.out.drew).mono ?_
          rintro e w3 ⟨i, v, hi, hy, rfl, z4, ok4, o4, k4⟩
          obtain ⟨A3, c3, rfl, b3, -⟩ := o4.shape
          have l3 := b3.le
          have m3 := b3.max
          dsimp only at l3 hy z4 ok4 ⊢
          rw [OLN.out] at l3 ⊢
          rw [ES.out]
          have Z4 := Lib.hid z4
          have OK4 := Lib.hid ok4
          have K4 : Hid (Keeps (fun k => W.heap.size ≤ k) W w3) := HK.out.drew.trans k4 (T := fun k => W.heap.size ≤ k) (fun _ h => h) (fun k hk h => by have := L2.out; have h0 := Z4.out.ne; have h : k = L.db ∨ (L.T.g1 ≤ k ∧ k ≤ L.T.sb) ∨ k = L.wb ∨ k = L.zb := h; show W.heap.size ≤ k; omega)
          obtain ⟨b9, off9, he9, y0, y1, -⟩ := FS.out.cells K4.out (fun k hk h => absurd h (by omega)) him
          cases he9
          rw [HFJ.out] at y0 y1
          dsimp only at y0 y1
          clear o4 k4 b3 z4 ok4
          go_wp2
          refine MixK.on (InS.mk ((mH.out _).2 (⟨y0, y1⟩))) ?_
          refine wpMix_seg 7 (by kernel_rfl) (by decide) ?_
          simp only [List.take_succ_cons, List.take_zero, List.drop_succ_cons, List.drop_zero]
          repeat (go_big_quiet_step (fail))
          refine wpQuiet_nil ?_
          refine wpMix_nil ?_
          clear mk0 mk1 mn mH
          have i0 : i = 0 := by have := congrArg List.length hy; rw [EYS.out, List.length_drop, LZS.out] at this; omega
          have q3 : ((i : Int) == 0) = true := by simp [i0]
          have q4 : ((i : Int) != 0) = false := by simp [i0]
          clear i0
          have q1 : decide ((i : Int) < 0) = false := decide_eq_false (by omega)
          have q2 : decide ((l1 : Int) < (i : Int)) = false := decide_eq_false (by omega)
          have q2n : decide (l1 < i) = false := decide_eq_false (by omega)
          clear hi hy
          go_wp2_with fail
          refine (lzstate_any L z3 _ Z4.out).mono ?_
          rw [ES.out]
          rintro e w' ⟨rfl, rfl⟩
          go_wp2_with fail
          refine (lzmade_any L z3 _ Z4.out).mono ?_
          rw [EM.out]
          rintro e w' ⟨rfl, rfl⟩
          go_wp2
          go_roundw
          case rel => exact ⟨j + 1, z3, him, by go_num, by rw [EM.out], by rw [ES.out]; rfl, Z4.out, OK4.out, PL3.out, K4.out⟩
          case measure => simp [intOf]; omega
        · have e1 : decide (rm < 0) = false := decide_eq_false hrm
          have e2 : decide (rm < (oo : Int)) = false := decide_eq_false (by omega)
          clear rs3 RF
          -- a round: wtI0 what is taken
          go_wp2
          obtain ⟨mS, mh⟩ : ∃ S : World → Prop, ∀ w', S w' ↔ (w'.cell? ⟨bl, off + j * 2, none⟩ = some (.slice A1 l1 c1) ∧ w'.cell? ⟨bl, off + j * 2 + 1, none⟩ = some (.int .i64 rm)) := ⟨_, fun _ => Iff.rfl⟩
          have mk0 : ∀ x : Memb mS, x.at_.cell? ⟨bl, off + j * 2, none⟩ = some (.slice A1 l1 c1) := fun x => ((mh _).1 x.is).1
          have mk1 : ∀ x : Memb mS, x.at_.cell? ⟨bl, off + j * 2 + 1, none⟩ = some (.int .i64 rm) := fun x => ((mh _).1 x.is).2
          have mn : Nonempty (Memb mS) := ⟨⟨(wv).drew, (mh _).2 ⟨x0, x1⟩⟩⟩
          have mH := Lib.hid mh
          clear mh
          refine wp_region_mix [11] (InS mS) (by kernel_rfl) (by kernel_rfl) (InS.mk ((mH.out _).2 ⟨x0, x1⟩)) ?_
          refine wpMix_seg 11 (by kernel_rfl) (by decide) ?_
          simp only [List.take_succ_cons, List.take_zero, List.drop_succ_cons, List.drop_zero]
          repeat (go_big_quiet_step (fail))
          refine wpQuiet_nil ?_
          refine wpMix_eff (by kernel_rfl) ?_
          go_wp2_with fail
          refine (FD.out _ (HZ.out.later (Keeps.refl None wv).drew) HBS.out.drew).mono ?_
          rintro e w3 ⟨i, v, hi, hy, rfl, z4, ok4, o4, k4⟩
          obtain ⟨A3, c3, rfl, b3, -⟩ := o4.shape
          have l3 := b3.le
          have m3 := b3.max
          dsimp only at l3 hy z4 ok4 ⊢
          rw [OLN.out] at l3 ⊢
          rw [ES.out]
          have Z4 := Lib.hid z4
          have OK4 := Lib.hid ok4
          have K4 : Hid (Keeps (fun k => W.heap.size ≤ k) W w3) := HK.out.drew.trans k4 (T := fun k => W.heap.size ≤ k) (fun _ h => h) (fun k hk h => by have := L2.out; have h0 := Z4.out.ne; have h : k = L.db ∨ (L.T.g1 ≤ k ∧ k ≤ L.T.sb) ∨ k = L.wb ∨ k = L.zb := h; show W.heap.size ≤ k; omega)
          obtain ⟨b9, off9, he9, y0, y1, -⟩ := FS.out.cells K4.out (fun k hk h => absurd h (by omega)) him
          cases he9
          rw [HFJ.out] at y0 y1
          dsimp only at y0 y1
          clear o4 k4 b3 z4 ok4
          go_wp2
          refine MixK.on (InS.mk ((mH.out _).2 (⟨y0, y1⟩))) ?_
          refine wpMix_seg 7 (by kernel_rfl) (by decide) ?_
          simp only [List.take_succ_cons, List.take_zero, List.drop_succ_cons, List.drop_zero]
          repeat (go_big_quiet_step (fail))
          refine wpQuiet_nil ?_
          refine wpMix_nil ?_
          clear mk0 mk1 mn mH
          have i0 : i = 0 := by have := congrArg List.length hy; rw [EYS.out, List.length_drop, LZS.out] at this; omega
          have q3 : ((i : Int) == 0) = true := by simp [i0]
          have q4 : ((i : Int) != 0) = false := by simp [i0]
          clear i0
          have q1 : decide ((i : Int) < 0) = false := decide_eq_false (by omega)
          have q2 : decide ((l1 : Int) < (i : Int)) = false := decide_eq_false (by omega)
          have q2n : decide (l1 < i) = false := decide_eq_false (by omega)
          clear hi hy
          go_wp2_with fail
          refine (lzstate_any L z3 _ Z4.out).mono ?_
          rw [ES.out]
          rintro e w' ⟨rfl, rfl⟩
          go_wp2_with fail
          refine (lzmade_any L z3 _ Z4.out).mono ?_
          rw [EM.out]
          rintro e w' ⟨rfl, rfl⟩
          go_wp2
          go_roundw
          case rel => exact ⟨j + 1, z3, him, by go_num, by rw [EM.out], by rw [ES.out]; rfl, Z4.out, OK4.out, PL3.out, K4.out⟩
          case measure => simp [intOf]; omega
      · skip
        have hT := TERM (.inr s3)
        obtain ⟨rfl, e2, e3⟩ : z3 = z ∧ ys3 = zs ∧ out3 = [] := by simpa using hT
        have EYS := Lib.hid e2
        have o0 : oo = 0 := by have := OLN.out; rw [e3] at this; exact this.symm
        have o1 : ((oo : Int) == 0) = true := by simp [o0]
        have o2 : ((oo : Int) != 0) = false := by simp [o0]
        have ES : Hid (z3.st = 4) := s3
        have RF : True := trivial
        rw [show (if z3.st = 3 ∨ z3.st = 4 then z3.st else 0) = 4 by rw [s3]; rfl]
        clear hT TERM rs1 rs2 RH e2 e3 o0 s3
        -- the room is none, or as told: wtI0 what is taken
        by_cases hrm : rm < 0
        · have e1 : decide (rm < 0) = true := decide_eq_true hrm
          have e2 : decide ((0 : Int) < (oo : Int)) = false := decide_eq_false (by omega)
          have e2n : decide (0 < oo) = false := decide_eq_false (by omega)
          clear rs3 RF
          -- a round: wtI0 what is taken
          go_wp2
          obtain ⟨mS, mh⟩ : ∃ S : World → Prop, ∀ w', S w' ↔ (w'.cell? ⟨bl, off + j * 2, none⟩ = some (.slice A1 l1 c1) ∧ w'.cell? ⟨bl, off + j * 2 + 1, none⟩ = some (.int .i64 rm)) := ⟨_, fun _ => Iff.rfl⟩
          have mk0 : ∀ x : Memb mS, x.at_.cell? ⟨bl, off + j * 2, none⟩ = some (.slice A1 l1 c1) := fun x => ((mh _).1 x.is).1
          have mk1 : ∀ x : Memb mS, x.at_.cell? ⟨bl, off + j * 2 + 1, none⟩ = some (.int .i64 rm) := fun x => ((mh _).1 x.is).2
          have mn : Nonempty (Memb mS) := ⟨⟨(wv).drew, (mh _).2 ⟨x0, x1⟩⟩⟩
          have mH := Lib.hid mh
          clear mh
          refine wp_region_mix [11] (InS mS) (by kernel_rfl) (by kernel_rfl) (InS.mk ((mH.out _).2 ⟨x0, x1⟩)) ?_
          refine wpMix_seg 11 (by kernel_rfl) (by decide) ?_
          simp only [List.take_succ_cons, List.take_zero, List.drop_succ_cons, List.drop_zero]
          repeat (go_big_quiet_step (fail))
          refine wpQuiet_nil ?_
          refine wpMix_eff (by kernel_rfl) ?_
          go_wp2_with fail
          refine (FD.out _ (HZ.out.later (Keeps.refl None wv).drew) HBS.out.drew).mono ?_
          rintro e w3 ⟨i, v, hi, hy, rfl, z4, ok4, o4, k4⟩
          obtain ⟨A3, c3, rfl, b3, -⟩ := o4.shape
          have l3 := b3.le
          have m3 := b3.max
          dsimp only at l3 hy z4 ok4 ⊢
          rw [OLN.out] at l3 ⊢
          rw [ES.out]
          have Z4 := Lib.hid z4
          have OK4 := Lib.hid ok4
          have K4 : Hid (Keeps (fun k => W.heap.size ≤ k) W w3) := HK.out.drew.trans k4 (T := fun k => W.heap.size ≤ k) (fun _ h => h) (fun k hk h => by have := L2.out; have h0 := Z4.out.ne; have h : k = L.db ∨ (L.T.g1 ≤ k ∧ k ≤ L.T.sb) ∨ k = L.wb ∨ k = L.zb := h; show W.heap.size ≤ k; omega)
          obtain ⟨b9, off9, he9, y0, y1, -⟩ := FS.out.cells K4.out (fun k hk h => absurd h (by omega)) him
          cases he9
          rw [HFJ.out] at y0 y1
          dsimp only at y0 y1
          clear o4 k4 b3 z4 ok4
          go_wp2
          refine MixK.on (InS.mk ((mH.out _).2 (⟨y0, y1⟩))) ?_
          refine wpMix_seg 7 (by kernel_rfl) (by decide) ?_
          simp only [List.take_succ_cons, List.take_zero, List.drop_succ_cons, List.drop_zero]
          repeat (go_big_quiet_step (fail))
          refine wpQuiet_nil ?_
          refine wpMix_nil ?_
          clear mk0 mk1 mn mH
          have i0 : i = 0 := by have := congrArg List.length hy; rw [EYS.out, List.length_drop, LZS.out] at this; omega
          have q3 : ((i : Int) == 0) = true := by simp [i0]
          have q4 : ((i : Int) != 0) = false := by simp [i0]
          clear i0
          have q1 : decide ((i : Int) < 0) = false := decide_eq_false (by omega)
          have q2 : decide ((l1 : Int) < (i : Int)) = false := decide_eq_false (by omega)
          have q2n : decide (l1 < i) = false := decide_eq_false (by omega)
          clear hi hy
          go_wp2_with fail
          refine (lzstate_any L z3 _ Z4.out).mono ?_
          rw [ES.out]
          rintro e w' ⟨rfl, rfl⟩
          go_wp2_with fail
          refine (lzmade_any L z3 _ Z4.out).mono ?_
          rw [EM.out]
          rintro e w' ⟨rfl, rfl⟩
          go_wp2
          go_roundw
          case rel => exact ⟨j + 1, z3, him, by go_num, by rw [EM.out], by rw [ES.out]; rfl, Z4.out, OK4.out, PL3.out, K4.out⟩
          case measure => simp [intOf]; omega
        · have e1 : decide (rm < 0) = false := decide_eq_false hrm
          have e2 : decide (rm < (oo : Int)) = false := decide_eq_false (by omega)
          clear rs3 RF
          -- a round: wtI0 what is taken
          go_wp2
          obtain ⟨mS, mh⟩ : ∃ S : World → Prop, ∀ w', S w' ↔ (w'.cell? ⟨bl, off + j * 2, none⟩ = some (.slice A1 l1 c1) ∧ w'.cell? ⟨bl, off + j * 2 + 1, none⟩ = some (.int .i64 rm)) := ⟨_, fun _ => Iff.rfl⟩
          have mk0 : ∀ x : Memb mS, x.at_.cell? ⟨bl, off + j * 2, none⟩ = some (.slice A1 l1 c1) := fun x => ((mh _).1 x.is).1
          have mk1 : ∀ x : Memb mS, x.at_.cell? ⟨bl, off + j * 2 + 1, none⟩ = some (.int .i64 rm) := fun x => ((mh _).1 x.is).2
          have mn : Nonempty (Memb mS) := ⟨⟨(wv).drew, (mh _).2 ⟨x0, x1⟩⟩⟩
          have mH := Lib.hid mh
          clear mh
          refine wp_region_mix [11] (InS mS) (by kernel_rfl) (by kernel_rfl) (InS.mk ((mH.out _).2 ⟨x0, x1⟩)) ?_
          refine wpMix_seg 11 (by kernel_rfl) (by decide) ?_
          simp only [List.take_succ_cons, List.take_zero, List.drop_succ_cons, List.drop_zero]
          repeat (go_big_quiet_step (fail))
          refine wpQuiet_nil ?_
          refine wpMix_eff (by kernel_rfl) ?_
          go_wp2_with fail
          refine (FD.out _ (HZ.out.later (Keeps.refl None wv).drew) HBS.out.drew).mono ?_
          rintro e w3 ⟨i, v, hi, hy, rfl, z4, ok4, o4, k4⟩
          obtain ⟨A3, c3, rfl, b3, -⟩ := o4.shape
          have l3 := b3.le
          have m3 := b3.max
          dsimp only at l3 hy z4 ok4 ⊢
          rw [OLN.out] at l3 ⊢
          rw [ES.out]
          have Z4 := Lib.hid z4
          have OK4 := Lib.hid ok4
          have K4 : Hid (Keeps (fun k => W.heap.size ≤ k) W w3) := HK.out.drew.trans k4 (T := fun k => W.heap.size ≤ k) (fun _ h => h) (fun k hk h => by have := L2.out; have h0 := Z4.out.ne; have h : k = L.db ∨ (L.T.g1 ≤ k ∧ k ≤ L.T.sb) ∨ k = L.wb ∨ k = L.zb := h; show W.heap.size ≤ k; omega)
          obtain ⟨b9, off9, he9, y0, y1, -⟩ := FS.out.cells K4.out (fun k hk h => absurd h (by omega)) him
          cases he9
          rw [HFJ.out] at y0 y1
          dsimp only at y0 y1
          clear o4 k4 b3 z4 ok4
          go_wp2
          refine MixK.on (InS.mk ((mH.out _).2 (⟨y0, y1⟩))) ?_
          refine wpMix_seg 7 (by kernel_rfl) (by decide) ?_
          simp only [List.take_succ_cons, List.take_zero, List.drop_succ_cons, List.drop_zero]
          repeat (go_big_quiet_step (fail))
          refine wpQuiet_nil ?_
          refine wpMix_nil ?_
          clear mk0 mk1 mn mH
          have i0 : i = 0 := by have := congrArg List.length hy; rw [EYS.out, List.length_drop, LZS.out] at this; omega
          have q3 : ((i : Int) == 0) = true := by simp [i0]
          have q4 : ((i : Int) != 0) = false := by simp [i0]
          clear i0
          have q1 : decide ((i : Int) < 0) = false := decide_eq_false (by omega)
          have q2 : decide ((l1 : Int) < (i : Int)) = false := decide_eq_false (by omega)
          have q2n : decide (l1 < i) = false := decide_eq_false (by omega)
          clear hi hy
          go_wp2_with fail
          refine (lzstate_any L z3 _ Z4.out).mono ?_
          rw [ES.out]
          rintro e w' ⟨rfl, rfl⟩
          go_wp2_with fail
          refine (lzmade_any L z3 _ Z4.out).mono ?_
          rw [EM.out]
          rintro e w' ⟨rfl, rfl⟩
          go_wp2
          go_roundw
          case rel => exact ⟨j + 1, z3, him, by go_num, by rw [EM.out], by rw [ES.out]; rfl, Z4.out, OK4.out, PL3.out, K4.out⟩
          case measure => simp [intOf]; omega
      · rw [if_neg s3]
        have RN := rs1 s3
        have RF := rs2 s3
        clear TERM rs1 rs2 s3 RH
        have ST : z3.st = 1 ∨ z3.st = 2 ∨ z3.st = 3 ∨ z3.st = 4 := by have := OK3.out; omega
        rcases ST with s1 | s1 | s1 | s1
        · have ES := Lib.hid s1
          have EY := Lib.hid (RN s1)
          clear RN s1
          -- the room is none, or as told: wtIl what is taken
          by_cases hrm : rm < 0
          · have e1 : decide (rm < 0) = true := decide_eq_true hrm
            have e2 : decide ((0 : Int) < (oo : Int)) = false := decide_eq_false (by omega)
            have e2n : decide (0 < oo) = false := decide_eq_false (by omega)
            clear rs3 RF
            -- a round: wtIl what is taken
            go_wp2
            obtain ⟨mS, mh⟩ : ∃ S : World → Prop, ∀ w', S w' ↔ (w'.cell? ⟨bl, off + j * 2, none⟩ = some (.slice A1 l1 c1) ∧ w'.cell? ⟨bl, off + j * 2 + 1, none⟩ = some (.int .i64 rm)) := ⟨_, fun _ => Iff.rfl⟩
            have mk0 : ∀ x : Memb mS, x.at_.cell? ⟨bl, off + j * 2, none⟩ = some (.slice A1 l1 c1) := fun x => ((mh _).1 x.is).1
            have mk1 : ∀ x : Memb mS, x.at_.cell? ⟨bl, off + j * 2 + 1, none⟩ = some (.int .i64 rm) := fun x => ((mh _).1 x.is).2
            have mn : Nonempty (Memb mS) := ⟨⟨(wv).drew, (mh _).2 ⟨x0, x1⟩⟩⟩
            have mH := Lib.hid mh
            clear mh
            refine wp_region_mix [11] (InS mS) (by kernel_rfl) (by kernel_rfl) (InS.mk ((mH.out _).2 ⟨x0, x1⟩)) ?_
            refine wpMix_seg 11 (by kernel_rfl) (by decide) ?_
            simp only [List.take_succ_cons, List.take_zero, List.drop_succ_cons, List.drop_zero]
            repeat (go_big_quiet_step (fail))
            refine wpQuiet_nil ?_
            refine wpMix_eff (by kernel_rfl) ?_
            go_wp2_with fail
            refine (FD.out _ (HZ.out.later (Keeps.refl None wv).drew) HBS.out.drew).mono ?_
            rintro e w3 ⟨i, v, hi, hy, rfl, z4, ok4, o4, k4⟩
            obtain ⟨A3, c3, rfl, b3, -⟩ := o4.shape
            have l3 := b3.le
            have m3 := b3.max
            dsimp only at l3 hy z4 ok4 ⊢
            rw [OLN.out] at l3 ⊢
            rw [ES.out]
            have Z4 := Lib.hid z4
            have OK4 := Lib.hid ok4
            have K4 : Hid (Keeps (fun k => W.heap.size ≤ k) W w3) := HK.out.drew.trans k4 (T := fun k => W.heap.size ≤ k) (fun _ h => h) (fun k hk h => by have := L2.out; have h0 := Z4.out.ne; have h : k = L.db ∨ (L.T.g1 ≤ k ∧ k ≤ L.T.sb) ∨ k = L.wb ∨ k = L.zb := h; show W.heap.size ≤ k; omega)
            obtain ⟨b9, off9, he9, y0, y1, -⟩ := FS.out.cells K4.out (fun k hk h => absurd h (by omega)) him
            cases he9
            rw [HFJ.out] at y0 y1
            dsimp only at y0 y1
            clear o4 k4 b3 z4 ok4
            go_wp2
            refine MixK.on (InS.mk ((mH.out _).2 (⟨y0, y1⟩))) ?_
            refine wpMix_seg 7 (by kernel_rfl) (by decide) ?_
            simp only [List.take_succ_cons, List.take_zero, List.drop_succ_cons, List.drop_zero]
            repeat (go_big_quiet_step (fail))
            refine wpQuiet_nil ?_
            refine wpMix_nil ?_
            clear mk0 mk1 mn mH
            have il : i = l1 := by have h9 := EY.out; rw [hy] at h9; have := congrArg List.length h9; rw [List.length_drop, LZS.out, List.length_nil] at this; omega
            have q3 : ((i : Int) == (l1 : Int)) = true := by simp [il]
            have q4 : ((i : Int) != (l1 : Int)) = false := by simp [il]
            have q5 : (i == l1) = true := by simp [il]
            have q6 : (i != l1) = false := by simp [il]
            clear il
            have q1 : decide ((i : Int) < 0) = false := decide_eq_false (by omega)
            have q2 : decide ((l1 : Int) < (i : Int)) = false := decide_eq_false (by omega)
            have q2n : decide (l1 < i) = false := decide_eq_false (by omega)
            clear hi hy
            go_wp2_with fail
            refine (lzstate_any L z3 _ Z4.out).mono ?_
            rw [ES.out]
            rintro e w' ⟨rfl, rfl⟩
            go_wp2_with fail
            refine (lzmade_any L z3 _ Z4.out).mono ?_
            rw [EM.out]
            rintro e w' ⟨rfl, rfl⟩
            go_wp2
            go_roundw
            case rel => exact ⟨j + 1, z3, him, by go_num, by rw [EM.out], by rw [ES.out]; rfl, Z4.out, OK4.out, PL3.out, K4.out⟩
            case measure => simp [intOf]; omega
          · have e1 : decide (rm < 0) = false := decide_eq_false hrm
            have e2 : decide (rm < (oo : Int)) = false := decide_eq_false (by omega)
            clear rs3 RF
            -- a round: wtIl what is taken
            go_wp2
            obtain ⟨mS, mh⟩ : ∃ S : World → Prop, ∀ w', S w' ↔ (w'.cell? ⟨bl, off + j * 2, none⟩ = some (.slice A1 l1 c1) ∧ w'.cell? ⟨bl, off + j * 2 + 1, none⟩ = some (.int .i64 rm)) := ⟨_, fun _ => Iff.rfl⟩
            have mk0 : ∀ x : Memb mS, x.at_.cell? ⟨bl, off + j * 2, none⟩ = some (.slice A1 l1 c1) := fun x => ((mh _).1 x.is).1
            have mk1 : ∀ x : Memb mS, x.at_.cell? ⟨bl, off + j * 2 + 1, none⟩ = some (.int .i64 rm) := fun x => ((mh _).1 x.is).2
            have mn : Nonempty (Memb mS) := ⟨⟨(wv).drew, (mh _).2 ⟨x0, x1⟩⟩⟩
            have mH := Lib.hid mh
            clear mh
            refine wp_region_mix [11] (InS mS) (by kernel_rfl) (by kernel_rfl) (InS.mk ((mH.out _).2 ⟨x0, x1⟩)) ?_
            refine wpMix_seg 11 (by kernel_rfl) (by decide) ?_
            simp only [List.take_succ_cons, List.take_zero, List.drop_succ_cons, List.drop_zero]
            repeat (go_big_quiet_step (fail))
            refine wpQuiet_nil ?_
            refine wpMix_eff (by kernel_rfl) ?_
            go_wp2_with fail
            refine (FD.out _ (HZ.out.later (Keeps.refl None wv).drew) HBS.out.drew).mono ?_
            rintro e w3 ⟨i, v, hi, hy, rfl, z4, ok4, o4, k4⟩
            obtain ⟨A3, c3, rfl, b3, -⟩ := o4.shape
            have l3 := b3.le
            have m3 := b3.max
            dsimp only at l3 hy z4 ok4 ⊢
            rw [OLN.out] at l3 ⊢
            rw [ES.out]
            have Z4 := Lib.hid z4
            have OK4 := Lib.hid ok4
            have K4 : Hid (Keeps (fun k => W.heap.size ≤ k) W w3) := HK.out.drew.trans k4 (T := fun k => W.heap.size ≤ k) (fun _ h => h) (fun k hk h => by have := L2.out; have h0 := Z4.out.ne; have h : k = L.db ∨ (L.T.g1 ≤ k ∧ k ≤ L.T.sb) ∨ k = L.wb ∨ k = L.zb := h; show W.heap.size ≤ k; omega)
            obtain ⟨b9, off9, he9, y0, y1, -⟩ := FS.out.cells K4.out (fun k hk h => absurd h (by omega)) him
            cases he9
            rw [HFJ.out] at y0 y1
            dsimp only at y0 y1
            clear o4 k4 b3 z4 ok4
            go_wp2
            refine MixK.on (InS.mk ((mH.out _).2 (⟨y0, y1⟩))) ?_
            refine wpMix_seg 7 (by kernel_rfl) (by decide) ?_
            simp only [List.take_succ_cons, List.take_zero, List.drop_succ_cons, List.drop_zero]
            repeat (go_big_quiet_step (fail))
            refine wpQuiet_nil ?_
            refine wpMix_nil ?_
            clear mk0 mk1 mn mH
            have il : i = l1 := by have h9 := EY.out; rw [hy] at h9; have := congrArg List.length h9; rw [List.length_drop, LZS.out, List.length_nil] at this; omega
            have q3 : ((i : Int) == (l1 : Int)) = true := by simp [il]
            have q4 : ((i : Int) != (l1 : Int)) = false := by simp [il]
            have q5 : (i == l1) = true := by simp [il]
            have q6 : (i != l1) = false := by simp [il]
            clear il
            have q1 : decide ((i : Int) < 0) = false := decide_eq_false (by omega)
            have q2 : decide ((l1 : Int) < (i : Int)) = false := decide_eq_false (by omega)
            have q2n : decide (l1 < i) = false := decide_eq_false (by omega)
            clear hi hy
            go_wp2_with fail
            refine (lzstate_any L z3 _ Z4.out).mono ?_
            rw [ES.out]
            rintro e w' ⟨rfl, rfl⟩
            go_wp2_with fail
            refine (lzmade_any L z3 _ Z4.out).mono ?_
            rw [EM.out]
            rintro e w' ⟨rfl, rfl⟩
            go_wp2
            go_roundw
            case rel => exact ⟨j + 1, z3, him, by go_num, by rw [EM.out], by rw [ES.out]; rfl, Z4.out, OK4.out, PL3.out, K4.out⟩
            case measure => simp [intOf]; omega
        · have ES := Lib.hid s1
          have EF := RF s1
          clear RN RF s1
          by_cases hrm : rm < 0
          · have e1 : decide (rm < 0) = true := decide_eq_true hrm
            have o0 : oo = 0 := by omega
            have e2 : decide ((0 : Int) < (oo : Int)) = false := decide_eq_false (by omega)
            have e2n : decide (0 < oo) = false := decide_eq_false (by omega)
            have o1 : ((oo : Int) == 0) = true := by simp [o0]
            have o2 : ((oo : Int) != 0) = false := by simp [o0]
            clear o0 EF rs3
            -- a round: wtIn what is taken
            go_wp2
            obtain ⟨mS, mh⟩ : ∃ S : World → Prop, ∀ w', S w' ↔ (w'.cell? ⟨bl, off + j * 2, none⟩ = some (.slice A1 l1 c1) ∧ w'.cell? ⟨bl, off + j * 2 + 1, none⟩ = some (.int .i64 rm)) := ⟨_, fun _ => Iff.rfl⟩
            have mk0 : ∀ x : Memb mS, x.at_.cell? ⟨bl, off + j * 2, none⟩ = some (.slice A1 l1 c1) := fun x => ((mh _).1 x.is).1
            have mk1 : ∀ x : Memb mS, x.at_.cell? ⟨bl, off + j * 2 + 1, none⟩ = some (.int .i64 rm) := fun x => ((mh _).1 x.is).2
            have mn : Nonempty (Memb mS) := ⟨⟨(wv).drew, (mh _).2 ⟨x0, x1⟩⟩⟩
            have mH := Lib.hid mh
            clear mh
            refine wp_region_mix [11] (InS mS) (by kernel_rfl) (by kernel_rfl) (InS.mk ((mH.out _).2 ⟨x0, x1⟩)) ?_
            refine wpMix_seg 11 (by kernel_rfl) (by decide) ?_
            simp only [List.take_succ_cons, List.take_zero, List.drop_succ_cons, List.drop_zero]
            repeat (go_big_quiet_step (fail))
            refine wpQuiet_nil ?_
            refine wpMix_eff (by kernel_rfl) ?_
            go_wp2_with fail
            refine (FD.out _ (HZ.out.later (Keeps.refl None wv).drew) HBS.out.drew).mono ?_
            rintro e w3 ⟨i, v, hi, hy, rfl, z4, ok4, o4, k4⟩
            obtain ⟨A3, c3, rfl, b3, -⟩ := o4.shape
            have l3 := b3.le
            have m3 := b3.max
            dsimp only at l3 hy z4 ok4 ⊢
            rw [OLN.out] at l3 ⊢
            rw [ES.out]
            have Z4 := Lib.hid z4
            have OK4 := Lib.hid ok4
            have K4 : Hid (Keeps (fun k => W.heap.size ≤ k) W w3) := HK.out.drew.trans k4 (T := fun k => W.heap.size ≤ k) (fun _ h => h) (fun k hk h => by have := L2.out; have h0 := Z4.out.ne; have h : k = L.db ∨ (L.T.g1 ≤ k ∧ k ≤ L.T.sb) ∨ k = L.wb ∨ k = L.zb := h; show W.heap.size ≤ k; omega)
            obtain ⟨b9, off9, he9, y0, y1, -⟩ := FS.out.cells K4.out (fun k hk h => absurd h (by omega)) him
            cases he9
            rw [HFJ.out] at y0 y1
            dsimp only at y0 y1
            clear o4 k4 b3 z4 ok4
            go_wp2
            refine MixK.on (InS.mk ((mH.out _).2 (⟨y0, y1⟩))) ?_
            refine wpMix_seg 7 (by kernel_rfl) (by decide) ?_
            simp only [List.take_succ_cons, List.take_zero, List.drop_succ_cons, List.drop_zero]
            repeat (go_big_quiet_step (fail))
            refine wpQuiet_nil ?_
            refine wpMix_nil ?_
            clear mk0 mk1 mn mH
            skip
            have q1 : decide ((i : Int) < 0) = false := decide_eq_false (by omega)
            have q2 : decide ((l1 : Int) < (i : Int)) = false := decide_eq_false (by omega)
            have q2n : decide (l1 < i) = false := decide_eq_false (by omega)
            clear hi hy
            go_wp2_with fail
            refine (lzstate_any L z3 _ Z4.out).mono ?_
            rw [ES.out]
            rintro e w' ⟨rfl, rfl⟩
            go_wp2_with fail
            refine (lzmade_any L z3 _ Z4.out).mono ?_
            rw [EM.out]
            rintro e w' ⟨rfl, rfl⟩
            go_wp2
            go_roundw
            case rel => exact ⟨j + 1, z3, him, by go_num, by rw [EM.out], by rw [ES.out]; rfl, Z4.out, OK4.out, PL3.out, K4.out⟩
            case measure => simp [intOf]; omega
          · have e1 : decide (rm < 0) = false := decide_eq_false hrm
            have o0 : rm = (oo : Int) := by omega
            have e2 : decide (rm < (oo : Int)) = false := decide_eq_false (by omega)
            have o1 : ((oo : Int) == rm) = true := by simp [o0]
            have o2 : ((oo : Int) != rm) = false := by simp [o0]
            clear o0 EF rs3
            -- a round: wtIn what is taken
            go_wp2
            obtain ⟨mS, mh⟩ : ∃ S : World → Prop, ∀ w', S w' ↔ (w'.cell? ⟨bl, off + j * 2, none⟩ = some (.slice A1 l1 c1) ∧ w'.cell? ⟨bl, off + j * 2 + 1, none⟩ = some (.int .i64 rm)) := ⟨_, fun _ => Iff.rfl⟩
            have mk0 : ∀ x : Memb mS, x.at_.cell? ⟨bl, off + j * 2, none⟩ = some (.slice A1 l1 c1) := fun x => ((mh _).1 x.is).1
            have mk1 : ∀ x : Memb mS, x.at_.cell? ⟨bl, off + j * 2 + 1, none⟩ = some (.int .i64 rm) := fun x => ((mh _).1 x.is).2
            have mn : Nonempty (Memb mS) := ⟨⟨(wv).drew, (mh _).2 ⟨x0, x1⟩⟩⟩
            have mH := Lib.hid mh
            clear mh
            refine wp_region_mix [11] (InS mS) (by kernel_rfl) (by kernel_rfl) (InS.mk ((mH.out _).2 ⟨x0, x1⟩)) ?_
            refine wpMix_seg 11 (by kernel_rfl) (by decide) ?_
            simp only [List.take_succ_cons, List.take_zero, List.drop_succ_cons, List.drop_zero]
            repeat (go_big_quiet_step (fail))
            refine wpQuiet_nil ?_
            refine wpMix_eff (by kernel_rfl) ?_
            go_wp2_with fail
            refine (FD.out _ (HZ.out.later (Keeps.refl None wv).drew) HBS.out.drew).mono ?_
            rintro e w3 ⟨i, v, hi, hy, rfl, z4, ok4, o4, k4⟩
            obtain ⟨A3, c3, rfl, b3, -⟩ := o4.shape
            have l3 := b3.le
            have m3 := b3.max
            dsimp only at l3 hy z4 ok4 ⊢
            rw [OLN.out] at l3 ⊢
            rw [ES.out]
            have Z4 := Lib.hid z4
            have OK4 := Lib.hid ok4
            have K4 : Hid (Keeps (fun k => W.heap.size ≤ k) W w3) := HK.out.drew.trans k4 (T := fun k => W.heap.size ≤ k) (fun _ h => h) (fun k hk h => by have := L2.out; have h0 := Z4.out.ne; have h : k = L.db ∨ (L.T.g1 ≤ k ∧ k ≤ L.T.sb) ∨ k = L.wb ∨ k = L.zb := h; show W.heap.size ≤ k; omega)
            obtain ⟨b9, off9, he9, y0, y1, -⟩ := FS.out.cells K4.out (fun k hk h => absurd h (by omega)) him
            cases he9
            rw [HFJ.out] at y0 y1
            dsimp only at y0 y1
            clear o4 k4 b3 z4 ok4
            go_wp2
            refine MixK.on (InS.mk ((mH.out _).2 (⟨y0, y1⟩))) ?_
            refine wpMix_seg 7 (by kernel_rfl) (by decide) ?_
            simp only [List.take_succ_cons, List.take_zero, List.drop_succ_cons, List.drop_zero]
            repeat (go_big_quiet_step (fail))
            refine wpQuiet_nil ?_
            refine wpMix_nil ?_
            clear mk0 mk1 mn mH
            skip
            have q1 : decide ((i : Int) < 0) = false := decide_eq_false (by omega)
            have q2 : decide ((l1 : Int) < (i : Int)) = false := decide_eq_false (by omega)
            have q2n : decide (l1 < i) = false := decide_eq_false (by omega)
            clear hi hy
            go_wp2_with fail
            refine (lzstate_any L z3 _ Z4.out).mono ?_
            rw [ES.out]
            rintro e w' ⟨rfl, rfl⟩
            go_wp2_with fail
            refine (lzmade_any L z3 _ Z4.out).mono ?_
            rw [EM.out]
            rintro e w' ⟨rfl, rfl⟩
            go_wp2
            go_roundw
            case rel => exact ⟨j + 1, z3, him, by go_num, by rw [EM.out], by rw [ES.out]; rfl, Z4.out, OK4.out, PL3.out, K4.out⟩
            case measure => simp [intOf]; omega
        · have ES := Lib.hid s1
          clear RN s1
          -- the room is none, or as told: wtIn what is taken
          by_cases hrm : rm < 0
          · have e1 : decide (rm < 0) = true := decide_eq_true hrm
            have e2 : decide ((0 : Int) < (oo : Int)) = false := decide_eq_false (by omega)
            have e2n : decide (0 < oo) = false := decide_eq_false (by omega)
            clear rs3 RF
            -- a round: wtIn what is taken
            go_wp2
            obtain ⟨mS, mh⟩ : ∃ S : World → Prop, ∀ w', S w' ↔ (w'.cell? ⟨bl, off + j * 2, none⟩ = some (.slice A1 l1 c1) ∧ w'.cell? ⟨bl, off + j * 2 + 1, none⟩ = some (.int .i64 rm)) := ⟨_, fun _ => Iff.rfl⟩
            have mk0 : ∀ x : Memb mS, x.at_.cell? ⟨bl, off + j * 2, none⟩ = some (.slice A1 l1 c1) := fun x => ((mh _).1 x.is).1
            have mk1 : ∀ x : Memb mS, x.at_.cell? ⟨bl, off + j * 2 + 1, none⟩ = some (.int .i64 rm) := fun x => ((mh _).1 x.is).2
            have mn : Nonempty (Memb mS) := ⟨⟨(wv).drew, (mh _).2 ⟨x0, x1⟩⟩⟩
            have mH := Lib.hid mh
            clear mh
            refine wp_region_mix [11] (InS mS) (by kernel_rfl) (by kernel_rfl) (InS.mk ((mH.out _).2 ⟨x0, x1⟩)) ?_
            refine wpMix_seg 11 (by kernel_rfl) (by decide) ?_
            simp only [List.take_succ_cons, List.take_zero, List.drop_succ_cons, List.drop_zero]
            repeat (go_big_quiet_step (fail))
            refine wpQuiet_nil ?_
            refine wpMix_eff (by kernel_rfl) ?_
            go_wp2_with fail
            refine (FD.out _ (HZ.out.later (Keeps.refl None wv).drew) HBS.out.drew).mono ?_
            rintro e w3 ⟨i, v, hi, hy, rfl, z4, ok4, o4, k4⟩
            obtain ⟨A3, c3, rfl, b3, -⟩ := o4.shape
            have l3 := b3.le
            have m3 := b3.max
            dsimp only at l3 hy z4 ok4 ⊢
            rw [OLN.out] at l3 ⊢
            rw [ES.out]
            have Z4 := Lib.hid z4
            have OK4 := Lib.hid ok4
            have K4 : Hid (Keeps (fun k => W.heap.size ≤ k) W w3) := HK.out.drew.trans k4 (T := fun k => W.heap.size ≤ k) (fun _ h => h) (fun k hk h => by have := L2.out; have h0 := Z4.out.ne; have h : k = L.db ∨ (L.T.g1 ≤ k ∧ k ≤ L.T.sb) ∨ k = L.wb ∨ k = L.zb := h; show W.heap.size ≤ k; omega)
            obtain ⟨b9, off9, he9, y0, y1, -⟩ := FS.out.cells K4.out (fun k hk h => absurd h (by omega)) him
            cases he9
            rw [HFJ.out] at y0 y1
            dsimp only at y0 y1
            clear o4 k4 b3 z4 ok4
            go_wp2
            refine MixK.on (InS.mk ((mH.out _).2 (⟨y0, y1⟩))) ?_
            refine wpMix_seg 7 (by kernel_rfl) (by decide) ?_
            simp only [List.take_succ_cons, List.take_zero, List.drop_succ_cons, List.drop_zero]
            repeat (go_big_quiet_step (fail))
            refine wpQuiet_nil ?_
            refine wpMix_nil ?_
            clear mk0 mk1 mn mH
            skip
            have q1 : decide ((i : Int) < 0) = false := decide_eq_false (by omega)
            have q2 : decide ((l1 : Int) < (i : Int)) = false := decide_eq_false (by omega)
            have q2n : decide (l1 < i) = false := decide_eq_false (by omega)
            clear hi hy
            go_wp2_with fail
            refine (lzstate_any L z3 _ Z4.out).mono ?_
            rw [ES.out]
            rintro e w' ⟨rfl, rfl⟩
            go_wp2_with fail
            refine (lzmade_any L z3 _ Z4.out).mono ?_
            rw [EM.out]
            rintro e w' ⟨rfl, rfl⟩
            go_wp2
            go_roundw
            case rel => exact ⟨j + 1, z3, him, by go_num, by rw [EM.out], by rw [ES.out]; rfl, Z4.out, OK4.out, PL3.out, K4.out⟩
            case measure => simp [intOf]; omega
          · have e1 : decide (rm < 0) = false := decide_eq_false hrm
            have e2 : decide (rm < (oo : Int)) = false := decide_eq_false (by omega)
            clear rs3 RF
            -- a round: wtIn what is taken
            go_wp2
            obtain ⟨mS, mh⟩ : ∃ S : World → Prop, ∀ w', S w' ↔ (w'.cell? ⟨bl, off + j * 2, none⟩ = some (.slice A1 l1 c1) ∧ w'.cell? ⟨bl, off + j * 2 + 1, none⟩ = some (.int .i64 rm)) := ⟨_, fun _ => Iff.rfl⟩
            have mk0 : ∀ x : Memb mS, x.at_.cell? ⟨bl, off + j * 2, none⟩ = some (.slice A1 l1 c1) := fun x => ((mh _).1 x.is).1
            have mk1 : ∀ x : Memb mS, x.at_.cell? ⟨bl, off + j * 2 + 1, none⟩ = some (.int .i64 rm) := fun x => ((mh _).1 x.is).2
            have mn : Nonempty (Memb mS) := ⟨⟨(wv).drew, (mh _).2 ⟨x0, x1⟩⟩⟩
            have mH := Lib.hid mh
            clear mh
            refine wp_region_mix [11] (InS mS) (by kernel_rfl) (by kernel_rfl) (InS.mk ((mH.out _).2 ⟨x0, x1⟩)) ?_
            refine wpMix_seg 11 (by kernel_rfl) (by decide) ?_
            simp only [List.take_succ_cons, List.take_zero, List.drop_succ_cons, List.drop_zero]
            repeat (go_big_quiet_step (fail))
            refine wpQuiet_nil ?_
            refine wpMix_eff (by kernel_rfl) ?_
            go_wp2_with fail
            refine (FD.out _ (HZ.out.later (Keeps.refl None wv).drew) HBS.out.drew).mono ?_
            rintro e w3 ⟨i, v, hi, hy, rfl, z4, ok4, o4, k4⟩
            obtain ⟨A3, c3, rfl, b3, -⟩ := o4.shape
            have l3 := b3.le
            have m3 := b3.max
            dsimp only at l3 hy z4 ok4 ⊢
            rw [OLN.out] at l3 ⊢
            rw [ES.out]
            have Z4 := Lib.hid z4
            have OK4 := Lib.hid ok4
            have K4 : Hid (Keeps (fun k => W.heap.size ≤ k) W w3) := HK.out.drew.trans k4 (T := fun k => W.heap.size ≤ k) (fun _ h => h) (fun k hk h => by have := L2.out; have h0 := Z4.out.ne; have h : k = L.db ∨ (L.T.g1 ≤ k ∧ k ≤ L.T.sb) ∨ k = L.wb ∨ k = L.zb := h; show W.heap.size ≤ k; omega)
            obtain ⟨b9, off9, he9, y0, y1, -⟩ := FS.out.cells K4.out (fun k hk h => absurd h (by omega)) him
            cases he9
            rw [HFJ.out] at y0 y1
            dsimp only at y0 y1
            clear o4 k4 b3 z4 ok4
            go_wp2
            refine MixK.on (InS.mk ((mH.out _).2 (⟨y0, y1⟩))) ?_
            refine wpMix_seg 7 (by kernel_rfl) (by decide) ?_
            simp only [List.take_succ_cons, List.take_zero, List.drop_succ_cons, List.drop_zero]
            repeat (go_big_quiet_step (fail))
            refine wpQuiet_nil ?_
            refine wpMix_nil ?_
            clear mk0 mk1 mn mH
            skip
            have q1 : decide ((i : Int) < 0) = false := decide_eq_false (by omega)
            have q2 : decide ((l1 : Int) < (i : Int)) = false := decide_eq_false (by omega)
            have q2n : decide (l1 < i) = false := decide_eq_false (by omega)
            clear hi hy
            go_wp2_with fail
            refine (lzstate_any L z3 _ Z4.out).mono ?_
            rw [ES.out]
            rintro e w' ⟨rfl, rfl⟩
            go_wp2_with fail
            refine (lzmade_any L z3 _ Z4.out).mono ?_
            rw [EM.out]
            rintro e w' ⟨rfl, rfl⟩
            go_wp2
            go_roundw
            case rel => exact ⟨j + 1, z3, him, by go_num, by rw [EM.out], by rw [ES.out]; rfl, Z4.out, OK4.out, PL3.out, K4.out⟩
            case measure => simp [intOf]; omega
        · have ES := Lib.hid s1
          clear RN s1
          -- the room is none, or as told: wtIn what is taken
          by_cases hrm : rm < 0
          · have e1 : decide (rm < 0) = true := decide_eq_true hrm
            have e2 : decide ((0 : Int) < (oo : Int)) = false := decide_eq_false (by omega)
            have e2n : decide (0 < oo) = false := decide_eq_false (by omega)
            clear rs3 RF
            -- a round: wtIn what is taken
            go_wp2
            obtain ⟨mS, mh⟩ : ∃ S : World → Prop, ∀ w', S w' ↔ (w'.cell? ⟨bl, off + j * 2, none⟩ = some (.slice A1 l1 c1) ∧ w'.cell? ⟨bl, off + j * 2 + 1, none⟩ = some (.int .i64 rm)) := ⟨_, fun _ => Iff.rfl⟩
            have mk0 : ∀ x : Memb mS, x.at_.cell? ⟨bl, off + j * 2, none⟩ = some (.slice A1 l1 c1) := fun x => ((mh _).1 x.is).1
            have mk1 : ∀ x : Memb mS, x.at_.cell? ⟨bl, off + j * 2 + 1, none⟩ = some (.int .i64 rm) := fun x => ((mh _).1 x.is).2
            have mn : Nonempty (Memb mS) := ⟨⟨(wv).drew, (mh _).2 ⟨x0, x1⟩⟩⟩
            have mH := Lib.hid mh
            clear mh
            refine wp_region_mix [11] (InS mS) (by kernel_rfl) (by kernel_rfl) (InS.mk ((mH.out _).2 ⟨x0, x1⟩)) ?_
            refine wpMix_seg 11 (by kernel_rfl) (by decide) ?_
            simp only [List.take_succ_cons, List.take_zero, List.drop_succ_cons, List.drop_zero]
            repeat (go_big_quiet_step (fail))
            refine wpQuiet_nil ?_
            refine wpMix_eff (by kernel_rfl) ?_
            go_wp2_with fail
            refine (FD.out _ (HZ.out.later (Keeps.refl None wv).drew) HBS.out.drew).mono ?_
            rintro e w3 ⟨i, v, hi, hy, rfl, z4, ok4, o4, k4⟩
            obtain ⟨A3, c3, rfl, b3, -⟩ := o4.shape
            have l3 := b3.le
            have m3 := b3.max
            dsimp only at l3 hy z4 ok4 ⊢
            rw [OLN.out] at l3 ⊢
            rw [ES.out]
            have Z4 := Lib.hid z4
            have OK4 := Lib.hid ok4
            have K4 : Hid (Keeps (fun k => W.heap.size ≤ k) W w3) := HK.out.drew.trans k4 (T := fun k => W.heap.size ≤ k) (fun _ h => h) (fun k hk h => by have := L2.out; have h0 := Z4.out.ne; have h : k = L.db ∨ (L.T.g1 ≤ k ∧ k ≤ L.T.sb) ∨ k = L.wb ∨ k = L.zb := h; show W.heap.size ≤ k; omega)
            obtain ⟨b9, off9, he9, y0, y1, -⟩ := FS.out.cells K4.out (fun k hk h => absurd h (by omega)) him
            cases he9
            rw [HFJ.out] at y0 y1
            dsimp only at y0 y1
            clear o4 k4 b3 z4 ok4
            go_wp2
            refine MixK.on (InS.mk ((mH.out _).2 (⟨y0, y1⟩))) ?_
            refine wpMix_seg 7 (by kernel_rfl) (by decide) ?_
            simp only [List.take_succ_cons, List.take_zero, List.drop_succ_cons, List.drop_zero]
            repeat (go_big_quiet_step (fail))
            refine wpQuiet_nil ?_
            refine wpMix_nil ?_
            clear mk0 mk1 mn mH
            skip
            have q1 : decide ((i : Int) < 0) = false := decide_eq_false (by omega)
            have q2 : decide ((l1 : Int) < (i : Int)) = false := decide_eq_false (by omega)
            have q2n : decide (l1 < i) = false := decide_eq_false (by omega)
            clear hi hy
            go_wp2_with fail
            refine (lzstate_any L z3 _ Z4.out).mono ?_
            rw [ES.out]
            rintro e w' ⟨rfl, rfl⟩
            go_wp2_with fail
            refine (lzmade_any L z3 _ Z4.out).mono ?_
            rw [EM.out]
            rintro e w' ⟨rfl, rfl⟩
            go_wp2
            go_roundw
            case rel => exact ⟨j + 1, z3, him, by go_num, by rw [EM.out], by rw [ES.out]; rfl, Z4.out, OK4.out, PL3.out, K4.out⟩
            case measure => simp [intOf]; omega
          · have e1 : decide (rm < 0) = false := decide_eq_false hrm
            have e2 : decide (rm < (oo : Int)) = false := decide_eq_false (by omega)
            clear rs3 RF
            -- a round: wtIn what is taken
            go_wp2
            obtain ⟨mS, mh⟩ : ∃ S : World → Prop, ∀ w', S w' ↔ (w'.cell? ⟨bl, off + j * 2, none⟩ = some (.slice A1 l1 c1) ∧ w'.cell? ⟨bl, off + j * 2 + 1, none⟩ = some (.int .i64 rm)) := ⟨_, fun _ => Iff.rfl⟩
            have mk0 : ∀ x : Memb mS, x.at_.cell? ⟨bl, off + j * 2, none⟩ = some (.slice A1 l1 c1) := fun x => ((mh _).1 x.is).1
            have mk1 : ∀ x : Memb mS, x.at_.cell? ⟨bl, off + j * 2 + 1, none⟩ = some (.int .i64 rm) := fun x => ((mh _).1 x.is).2
            have mn : Nonempty (Memb mS) := ⟨⟨(wv).drew, (mh _).2 ⟨x0, x1⟩⟩⟩
            have mH := Lib.hid mh
            clear mh
            refine wp_region_mix [11] (InS mS) (by kernel_rfl) (by kernel_rfl) (InS.mk ((mH.out _).2 ⟨x0, x1⟩)) ?_
            refine wpMix_seg 11 (by kernel_rfl) (by decide) ?_
            simp only [List.take_succ_cons, List.take_zero, List.drop_succ_cons, List.drop_zero]
            repeat (go_big_quiet_step (fail))
            refine wpQuiet_nil ?_
            refine wpMix_eff (by kernel_rfl) ?_
            go_wp2_with fail
            refine (FD.out _ (HZ.out.later (Keeps.refl None wv).drew) HBS.out.drew).mono ?_
            rintro e w3 ⟨i, v, hi, hy, rfl, z4, ok4, o4, k4⟩
            obtain ⟨A3, c3, rfl, b3, -⟩ := o4.shape
            have l3 := b3.le
            have m3 := b3.max
            dsimp only at l3 hy z4 ok4 ⊢
            rw [OLN.out] at l3 ⊢
            rw [ES.out]
            have Z4 := Lib.hid z4
            have OK4 := Lib.hid ok4
            have K4 : Hid (Keeps (fun k => W.heap.size ≤ k) W w3) := HK.out.drew.trans k4 (T := fun k => W.heap.size ≤ k) (fun _ h => h) (fun k hk h => by have := L2.out; have h0 := Z4.out.ne; have h : k = L.db ∨ (L.T.g1 ≤ k ∧ k ≤ L.T.sb) ∨ k = L.wb ∨ k = L.zb := h; show W.heap.size ≤ k; omega)
            obtain ⟨b9, off9, he9, y0, y1, -⟩ := FS.out.cells K4.out (fun k hk h => absurd h (by omega)) him
            cases he9
            rw [HFJ.out] at y0 y1
            dsimp only at y0 y1
            clear o4 k4 b3 z4 ok4
            go_wp2
            refine MixK.on (InS.mk ((mH.out _).2 (⟨y0, y1⟩))) ?_
            refine wpMix_seg 7 (by kernel_rfl) (by decide) ?_
            simp only [List.take_succ_cons, List.take_zero, List.drop_succ_cons, List.drop_zero]
            repeat (go_big_quiet_step (fail))
            refine wpQuiet_nil ?_
            refine wpMix_nil ?_
            clear mk0 mk1 mn mH
            skip
            have q1 : decide ((i : Int) < 0) = false := decide_eq_false (by omega)
            have q2 : decide ((l1 : Int) < (i : Int)) = false := decide_eq_false (by omega)
            have q2n : decide (l1 < i) = false := decide_eq_false (by omega)
            clear hi hy
            go_wp2_with fail
            refine (lzstate_any L z3 _ Z4.out).mono ?_
            rw [ES.out]
            rintro e w' ⟨rfl, rfl⟩
            go_wp2_with fail
            refine (lzmade_any L z3 _ Z4.out).mono ?_
            rw [EM.out]
            rintro e w' ⟨rfl, rfl⟩
            go_wp2
            go_roundw
            case rel => exact ⟨j + 1, z3, him, by go_num, by rw [EM.out], by rw [ES.out]; rfl, Z4.out, OK4.out, PL3.out, K4.out⟩
            case measure => simp [intOf]; omega
    · have e1 : decide ((z.h.length : Int) ≤ (p : Int)) = true := decide_eq_true (by omega)
      have e2 : decide (z.h.length ≤ p) = true := decide_eq_true HLEN
      generalize (if z.st = 3 ∨ z.st = 4 then z.st else 0) = ov
      go_wp2
      go_ret
      exact ⟨by first | rfl | simp, HK.out.below (fun k hk h => absurd h (by omega))⟩
theorem waits20_all (plain : Int) (A : Option Addr) (m cap : Nat) (xs : List Value) (W : World) (hs : IsSl W A m cap 2 xs) (h : ∀ i, i < m → ∃ c, FdAt W xs i c) (hp : -9223372036854775808 ≤ plain ∧ plain ≤ 9223372036854775807) :
    Calls Try.prog 4 #[.int .i64 plain, .slice A m cap] W fun e w' => e = .returned (.bool true) ∧ Below W.heap.size W w' := by
  obtain ⟨F, hF⟩ := fds_of hs h
  exact waits20_any plain A m cap xs F W hF hp
set_option maxRecDepth 100000 in
theorem LzWaits_lifted (os : Os) (started : os.Started) (H : Type) (enc : TypeId × Value → H) :
    ReturnsInHanded {} Try.checked os 4 .any (Rows.lzWaitsSpec.pre6 enc Try.prog Try.f4 Rows.lzWaitsRow.domain false) (Rows.lzWaitsSpec.post enc Try.prog Try.f4 false true false false) := by
  refine returnsInHanded_of_change (C := Try.checked) Try.own started (by kernel_rfl) Try.func4
    (ChangeSpec.witness6 (enc := enc) (C := Try.checked) false ⟨#[], #[.int .i64 0, .slice none 0 0], []⟩ 8 (by kernel_rfl) (by kernel_rfl) (by kernel_rfl) (by kernel_rfl)) ?_
  intro W base args ds gs before hval0 hW hcnd _
  have hval : ∀ (j : Nat) t v, Try.f4.params[j]? = some t → args[j]? = some v → Value.okWide Try.prog W .any base t v := hval0
  have hW' := hW
  obtain ⟨p, q, hA0, hV, rfl, hfz, hnd⟩ := hW
  have hA : DataW.TrodAll enc Try.prog W 0 (fun _ => true) true Try.f4.params.toList args.toList ds p := hA0
  rw [Try.params4] at hA hval
  obtain ⟨v0, vs0, d0, ds0, p0, q0, hargs, rfl, rfl, h0, r0⟩ := trodAll_cons hA
  obtain ⟨v1, vs1, d1, ds1, p1, q1, rfl, rfl, rfl, h1, r1⟩ := trodAll_cons r0
  obtain ⟨rfl, rfl, rfl⟩ := trodAll_nil r1
  obtain rfl : args = #[v0, v1] := by cases args; simp_all
  obtain ⟨rfl, rfl⟩ := trodVars_none hV
  have k0 := h0
  have lt0 : ∀ x ∈ p0, x.block < W.heap.size := by obtain ⟨m, hm⟩ := k0; exact DataW.trod_lt m _ _ _ hm
  obtain ⟨a0, rfl, rfl, rfl, w0⟩ := open_int Try.underlying3 (hval 0 3 v0 rfl rfl) h0
  have k1 := h1
  have lt1 : ∀ x ∈ p1, x.block < W.heap.size := by obtain ⟨m, hm⟩ := k1; exact DataW.trod_lt m _ _ _ hm
  obtain ⟨a1, len1, cap1, rfl⟩ := okWide_slice Try.underlying22 (hval 1 22 v1 rfl rfl)
  obtain ⟨z1, s1, f1⟩ := open_structs' Try.underlying22 Try.underlying34 (by kernel_rfl) (by kernel_rfl) (by decide) h1
  clear hA0 hval0
  refine (waits20_all a0 a1 len1 cap1 z1 W s1 (fun i hi => by obtain ⟨A, l, c, zs, e0, hb⟩ := fld_bytesZ f1 (j := 0) rfl rfl hi; obtain ⟨y1, e1, w1⟩ := fld_int f1 (j := 1) rfl Try.underlying3 hi; exact ⟨⟨A, l, c, zs, y1⟩, e0, e1, hb, wf_i64_bd w1⟩) (wf_i64_bd w0)).mono fun e W' ⟨he, bel⟩ => ?_
  subst he
  exact ⟨_, rfl, _, _, _, [], _, [], hW', trodAll_mk1 (shut_bool Try.underlying4 _), (trodAll_cons_mk (Below.trod Try.laidOut (by kernel_rfl) (of_decide_eq_true (by kernel_rfl)) k0 bel lt0) (trodAll_cons_mk (Below.trod Try.laidOut (by kernel_rfl) (of_decide_eq_true (by kernel_rfl)) k1 bel lt1) trodAll_mk0)), rfl, bel.frame _, fun h => by cases h⟩

set_option maxRecDepth 100000 in
theorem LzWaits_closed : joinedFacts Try.checked.prog 4 Try.f4 Rows.lzWaitsSpec Rows.lzWaitsRow = true := by
  unfold joinedFacts
  rw [closed_laid, closed_maps, closed_heard, closed_plain, closed_mayEnter, closed_lifts, closed_make]
  kernel_rfl

theorem LzWaits_holds : Rows.LzWaitsSaid :=
  OpenClaim.holds_of_wide 4 Try.f4 rfl rfl rfl rfl rfl rfl rfl ⟨rfl, rfl, rfl, rfl, rfl⟩ rfl rfl rfl rfl rfl (by kernel_rfl) Try.func4 LzWaits_closed
    (of_decide_eq_true (by kernel_rfl)) (by unfold Func.isWrapper; first | (rw [if_pos (by decide +kernel)]; kernel_rfl) | (rw [if_neg (by decide +kernel)]; exact ⟨rfl, rfl⟩))
    (fun os started H enc _ => LzWaits_lifted os started H enc)
#print axioms LzWaits_holds
end Go.Proofs.Ytggjdkkobhefeaa
