
/- lzlite: the walk of Feed. -/
import Derived.Test.YtnanbnaikmaljaaLzPXLz3
namespace Go.Proofs.Ytnanbnaikmaljaa
open Go.RowKit

def LzFed (w : World) (L : LzL) (n : Nat) (zs : List Int) (r : LzS × List Int × List Int) (e : Ending) (w' : World) : Prop :=
  ∃ (i : Nat) (v : Value), i ≤ n ∧ r.2.1 = zs.drop i ∧ e = .returned (.tuple #[.int .i64 (i : Int), v, .int .i64 r.1.st]) ∧ LzAt w' L r.1 ∧ LzOk r.1 ∧ Own w' w.heap.size v r.2.2 ∧ Keeps (LzB L) w w'
theorem LzAt.below {w : World} {L : LzL} {z : LzS} (h : LzAt w L z) : ∀ k, LzB L k → k < w.heap.size := fun k hk => by
  have := h.ne
  have := h.c.lt
  have hk : k = L.db ∨ (L.T.g1 ≤ k ∧ k ≤ L.T.sb) ∨ k = L.wb ∨ k = L.zb := hk
  omega
/-- A state that is written. -/
theorem LzAt.state {w : World} {L : LzL} {z : LzS} (h : LzAt w L z) (x : Int) : LzAt (w.setCell ⟨L.zb, 9, none⟩ (.int .i64 x)) L { z with st := x } := by
  have k := (Keeps.self L.zb w).put 9 (.int .i64 x)
  have := h.ne
  exact ⟨h.c.set 9 _, h.r.keeps k (fun k hk e => by have hk : k = L.db ∨ (L.T.g1 ≤ k ∧ k ≤ L.T.sb) := hk; have e : k = L.zb := e; omega), h.w.keeps k (by show ¬ _ = _; omega), h.o1, h.o2⟩
theorem LzAt.dec {w w' : World} {L : LzL} {z : LzS} {d' : DSt} (h : LzAt w L z) (hd : DAt w' L.db 86 d') (ok : DOk d') (k : Keeps (fun k => k = L.db) w w') : LzAt w' L { z with d := d' } := by
  have := h.ne
  exact ⟨k.blk h.c (by show ¬ _ = _; omega), ⟨k.blk h.r.st (by show ¬ _ = _; omega), h.r.tr.keeps k (fun x h1 h2 => by show ¬ _ = _; omega) h.r.ord, hd, ok, h.r.ok, h.r.ord, h.r.lo⟩, h.w.keeps k (by show ¬ _ = _; omega), h.o1, h.o2⟩
set_option maxRecDepth 100000 in
set_option maxHeartbeats 3200000 in
theorem lzfeed_any (L : LzL) (z : LzS) (A : Option Addr) (n cap : Nat) (zs : List Int) (room : Int) (w : World) (h : LzAt w L z) (ok : LzOk z) (hb : Bs w A n cap zs) (nb : 0 < n → ∀ b off, A = some ⟨b, off, none⟩ → ¬ LzB L b) (hr : -9223372036854775808 ≤ room ∧ room ≤ 9223372036854775807) :
    Calls Try.prog 17 #[.pointer (some ⟨L.zb, 0, none⟩), .slice A n cap, .int .i64 room] w (LzFed w L n zs (lzF room (lzM z n + 1) z zs [])) := by
  have hle := hb.le
  have hmx := hb.max
  have HB := Lib.hid hb
  have HL := Lib.hid hb.len
  have HN := Lib.hid nb
  have BEL := Lib.hid h.below
  obtain ⟨hr1, hr2⟩ := hr
  obtain ⟨res, hres⟩ : ∃ x, lzF room (lzM z n + 1) z zs [] = x := ⟨_, rfl⟩
  rw [hres]
  obtain ⟨rz, ry, ro⟩ := res
  have START := Lib.hid (show lzF room (lzM z n + 1) z (zs.drop 0) [] = (rz, ry, ro) ∧ LzAt w L z ∧ LzOk z from ⟨hres, h, ok⟩)
  clear h ok hb nb hres
  go_enter Try.func17, Try.ntmps17
  go_wp2
  go_step3
  go_wp2
  go_step3
  go_wp2
  go_loopg [6, 7] (lzM z n + 1) (fun g uv ov wr => ∃ (z : LzS) (i : Nat) (out : List Int), uv = .int .i64 (i : Int) ∧ i ≤ n ∧ lzM z (n - i) < g ∧ lzF room g z (zs.drop i) out = (rz, ry, ro) ∧ LzAt wr L z ∧ LzOk z ∧ Own wr w.heap.size ov out ∧ out.length ≤ z.h.length ∧ Keeps (LzB L) w wr)
  case atStart => exact ⟨z, 0, [], rfl, Nat.zero_le _, by rw [Nat.sub_zero]; omega, START.out.1, START.out.2.1, START.out.2.2, Own.nil _ _, Nat.zero_le _, Keeps.refl _ _⟩
  case round =>
    clear START z
    obtain ⟨z, i, out, rfl, hin, hg, hf, hz, hok, ho, hol, hk⟩ := hrel
    obtain ⟨G, rfl⟩ : ∃ G, gk = G + 1 := ⟨gk - 1, by omega⟩
    obtain ⟨wv, rfl⟩ : ∃ x, x = wr := ⟨_, rfl⟩
    have HZ := Lib.hid hz
    have OK := Lib.hid hok
    have HO := Lib.hid ho
    have HK := Lib.hid hk
    have HG := Lib.hid hg
    have HF := Lib.hid hf
    have HH : Hid (out.length ≤ z.h.length) := hol
    have h8 : out.length ≤ 8192 := by have := hok.hp; have := hok.p8; omega
    have HS1 := hok.st1
    have HS4 := hok.st4
    clear hg hf hz hok ho hol hk
    have c9 := HZ.out.c.cellD 9 _ rfl
    have f9 := HZ.out.c.frozen 9
    have c0 := HZ.out.c.cellD 0 _ rfl
    obtain ⟨A2, c2, rfl, b2, l2⟩ := HO.out.shape
    have m2 := b2.max
    have e2 := b2.le
    have BLO : Hid (∀ b off, A2 = some ⟨b, off, none⟩ → w.heap.size ≤ b) := fun b off e => (l2 b off e).1
    clear b2 l2
    obtain ⟨ol, hol⟩ : ∃ x, out.length = x := ⟨_, rfl⟩
    have OL := Lib.hid hol
    rw [hol] at h8 e2 HO HH ⊢
    clear hol
    by_cases s3 : z.st = 3
    · have RES : Hid ((rz, ry, ro) = (z, zs.drop i, out)) := by show _ = _; rw [← HF.out]; unfold lzF; rw [if_pos (.inl s3)]
      rw [s3] at c9
      clear HF
      -- the return: HZ the LzAt, OK.out the LzOk, HO.out Own, HK.out.drew Keeps, wv the world, z.st the state
      go_wp2
      obtain ⟨mfS, mfh⟩ : ∃ S : World → Prop, ∀ w', S w' ↔ (w'.cell? ⟨L.zb, 9, none⟩ = some (.int .i64 (z.st))) := ⟨_, fun _ => Iff.rfl⟩
      have mfk0 : ∀ x : Memb mfS, x.at_.cell? ⟨L.zb, 9, none⟩ = some (.int .i64 (z.st)) := fun x => ((mfh _).1 x.is)
      have mfn : Nonempty (Memb mfS) := ⟨⟨(wv).drew, (mfh _).2 (HZ.out.c.cellD 9 _ rfl)⟩⟩
      have mfH := Lib.hid mfh
      clear mfh
      refine wp_region_mix [] (InS mfS) (by kernel_rfl) (by kernel_rfl) (InS.mk ((mfH.out _).2 (HZ.out.c.cellD 9 _ rfl))) ?_
      refine wpMix_seg 9 (by kernel_rfl) (by decide) ?_
      simp only [List.take_succ_cons, List.take_zero, List.drop_succ_cons, List.drop_zero]
      repeat (go_big_quiet_step (fail))
      refine wpQuiet_nil ?_
      refine wpMix_nil ?_
      clear mfk0 mfn mfH
      go_wp2
      all_goals try rw [Exit.noGoto_ret]
      go_ret3
      exact ⟨i, _, hin, by rw [RES.out], by rw [RES.out]; first | rfl | (simp only [s3]; rfl) | (simp only [s4]; rfl), by rw [RES.out]; exact (HZ.out.drewN 1), by rw [RES.out]; exact OK.out, by rw [RES.out]; exact HO.out, HK.out.drew⟩
    by_cases s4 : z.st = 4
    · have RES : Hid ((rz, ry, ro) = (z, zs.drop i, out)) := by show _ = _; rw [← HF.out]; unfold lzF; rw [if_pos (.inr s4)]
      rw [s4] at c9
      clear HF
      -- the return: HZ the LzAt, OK.out the LzOk, HO.out Own, HK.out.drew Keeps, wv the world, z.st the state
      go_wp2
      obtain ⟨mfS, mfh⟩ : ∃ S : World → Prop, ∀ w', S w' ↔ (w'.cell? ⟨L.zb, 9, none⟩ = some (.int .i64 (z.st))) := ⟨_, fun _ => Iff.rfl⟩
      have mfk0 : ∀ x : Memb mfS, x.at_.cell? ⟨L.zb, 9, none⟩ = some (.int .i64 (z.st)) := fun x => ((mfh _).1 x.is)
      have mfn : Nonempty (Memb mfS) := ⟨⟨(wv).drew, (mfh _).2 (HZ.out.c.cellD 9 _ rfl)⟩⟩
      have mfH := Lib.hid mfh
      clear mfh
      refine wp_region_mix [] (InS mfS) (by kernel_rfl) (by kernel_rfl) (InS.mk ((mfH.out _).2 (HZ.out.c.cellD 9 _ rfl))) ?_
      refine wpMix_seg 9 (by kernel_rfl) (by decide) ?_
      simp only [List.take_succ_cons, List.take_zero, List.drop_succ_cons, List.drop_zero]
      repeat (go_big_quiet_step (fail))
      refine wpQuiet_nil ?_
      refine wpMix_nil ?_
      clear mfk0 mfn mfH
      go_wp2
      all_goals try rw [Exit.noGoto_ret]
      go_ret3
      exact ⟨i, _, hin, by rw [RES.out], by rw [RES.out]; first | rfl | (simp only [s3]; rfl) | (simp only [s4]; rfl), by rw [RES.out]; exact (HZ.out.drewN 1), by rw [RES.out]; exact OK.out, by rw [RES.out]; exact HO.out, HK.out.drew⟩
    have q3 : (z.st == 3) = false := by simpa using s3
    have q3b : (z.st != 3) = true := by simpa using s3
    have q4 : (z.st == 4) = false := by simpa using s4
    have q4b : (z.st != 4) = true := by simpa using s4
    have HF1 : Hid ((rz, ry, ro) = (if dNeedB z.d = true then
      match zs.drop i with
      | [] => ({ z with st := 1 }, [], out)
      | y :: ys => lzF room G { z with d := dByteS z.d y } ys out
    else if dLostB z.d = true then lzF room G { z with st := 4 } (zs.drop i) out
    else if 0 < z.left then
      if room ≤ out.length then ({ z with st := 2 }, zs.drop i, out)
      else lzF room G (lzNextS z) (zs.drop i) (out ++ [lzByte z])
    else if z.h.length = z.plain then lzF room G { z with st := lzEndV z } (zs.drop i) out
    else if lzTakeB z = true then lzF room G (lzTakeS z) (zs.drop i) out
    else lzF room G { lzTakeS z with st := 4 } (zs.drop i) out)) := by
      show _ = _
      rw [← HF.out]
      conv => lhs; unfold lzF
      rw [if_neg (by rintro (h | h); exact s3 h; exact s4 h)]
      rfl
    have NOL : Hid (∀ k, LzB L k → ¬ (Value.slice A2 ol c2).ownBlock = some k) := fun k hk => HO.out.notBelow (BEL.out k hk)
    have TM : Hid (¬ (z.st = 3 ∨ z.st = 4)) := by show ¬ _; rintro (h | h); exact s3 h; exact s4 h
    clear HF
    have ND := Lib.hid (fun w' (h' : LzAt w' L z) => dneed_any L.db z.d w' h'.r.dc)
    have LO := Lib.hid (fun w' (h' : LzAt w' L z) => dlost_any L.db z.d w' h'.r.dc)
    cases hnd : dNeedB z.d with
    | true =>
      rw [hnd] at ND
      clear LO
      by_cases hi : i = n
      · subst hi
        have hdr : zs.drop i = [] := List.drop_eq_nil_of_le (by rw [HL.out]; exact Nat.le_refl _)
        have RES : Hid ((rz, ry, ro) = ({ z with st := 1 }, zs.drop i, out)) := by show _ = _; rw [HF1.out, if_pos hnd, hdr]
        have ST := Lib.hid (HZ.out.state 1)
        have OK2 := Lib.hid (OK.out.set 1 (by decide) (by decide) s4)
        have KS := Lib.hid (HK.out.trans ((Keeps.self L.zb wv).put 9 (.int .i64 1)) (T := LzB L) (fun _ h => h) (fun _ _ e => .inr (.inr (.inr e))))
        have OS := Lib.hid (HO.out.keeps ((Keeps.self L.zb wv).put 9 (.int .i64 1)) (fun b hb e => NOL.out L.zb (.inr (.inr (.inr rfl))) (by have e : b = L.zb := e; rw [← e]; exact hb)))
        clear hnd HF1
        go_wp2_with fail
        refine (ND.out _ HZ.out).mono ?_
        rintro e w' ⟨rfl, rfl⟩
        -- the return: ST the LzAt, OK2.out the LzOk, OS.out Own, KS.out.drew Keeps, (wv.setCell ⟨L.zb, 9, none⟩ (.int .i64 1)) the world, 1 the state
        go_wp2
        obtain ⟨mfS, mfh⟩ : ∃ S : World → Prop, ∀ w', S w' ↔ (w'.cell? ⟨L.zb, 9, none⟩ = some (.int .i64 (1))) := ⟨_, fun _ => Iff.rfl⟩
        have mfk0 : ∀ x : Memb mfS, x.at_.cell? ⟨L.zb, 9, none⟩ = some (.int .i64 (1)) := fun x => ((mfh _).1 x.is)
        have mfn : Nonempty (Memb mfS) := ⟨⟨((wv.setCell ⟨L.zb, 9, none⟩ (.int .i64 1))).drew, (mfh _).2 (ST.out.c.cellD 9 _ rfl)⟩⟩
        have mfH := Lib.hid mfh
        clear mfh
        refine wp_region_mix [] (InS mfS) (by kernel_rfl) (by kernel_rfl) (InS.mk ((mfH.out _).2 (ST.out.c.cellD 9 _ rfl))) ?_
        refine wpMix_seg 9 (by kernel_rfl) (by decide) ?_
        simp only [List.take_succ_cons, List.take_zero, List.drop_succ_cons, List.drop_zero]
        repeat (go_big_quiet_step (fail))
        refine wpQuiet_nil ?_
        refine wpMix_nil ?_
        clear mfk0 mfn mfH
        go_wp2
        all_goals try rw [Exit.noGoto_ret]
        go_ret3
        exact ⟨i, _, hin, by rw [RES.out], by rw [RES.out]; first | rfl | (simp only [s3]; rfl) | (simp only [s4]; rfl), by rw [RES.out]; exact (ST.out.drewN 1), by rw [RES.out]; exact OK2.out, by rw [RES.out]; exact OS.out, KS.out.drew⟩
      · have hlt : i < n := by omega
        have qi : ((i : Int) == (n : Int)) = false := by simp; omega
        obtain ⟨bl, of1, y, rfl, hy, hya, hyb, hc⟩ := (HB.out.keeps HK.out (fun b off h0 _ e hk => HN.out h0 b off e hk)).get hlt
        have hdr : zs.drop i = y :: zs.drop (i + 1) := by
          rw [List.drop_eq_getElem_cons (by rw [HL.out]; exact hlt)]
          congr 1
          rw [← hy]; simp [List.getD, HL.out, hlt]
        have RR : Hid ((rz, ry, ro) = lzF room G { z with d := dByteS z.d y } (zs.drop (i + 1)) out) := by show _ = _; rw [HF1.out, if_pos hnd, hdr]
        have BY := Lib.hid (fun w' (h' : LzAt w' L z) => dbyte_any L.db z.d y w' h'.r.dc OK.out.dok.inv ⟨hya, hyb⟩)
        have ME : Hid (lzM { z with d := dByteS z.d y } (n - (i + 1)) < G) := by
          have h1 := lzM_byte z (dByteS z.d y) (n - (i + 1)) TM.out
          rw [show n - (i + 1) + 1 = n - i by omega] at h1
          have h2 := HG.out
          show _ < _
          omega
        have OK2 := Lib.hid (OK.out.byte y ⟨hya, hyb⟩)
        clear hnd HF1 hdr hy
        go_wp2_with fail
        refine (ND.out _ HZ.out).mono ?_
        rintro e w' ⟨rfl, rfl⟩
        go_wp2_with fail
        refine (ND.out _ HZ.out).mono ?_
        rintro e w' ⟨rfl, rfl⟩
        go_wp2
        obtain ⟨m7S, m7h⟩ : ∃ S : World → Prop, ∀ w', S w' ↔ (w'.cell? ⟨L.zb, 0, none⟩ = some (.pointer (some ⟨L.db, 0, none⟩)) ∧ w'.cell? ⟨bl, of1 + i, none⟩ = some (.int .u8 y)) := ⟨_, fun _ => Iff.rfl⟩
        have m7k0 : ∀ x : Memb m7S, x.at_.cell? ⟨L.zb, 0, none⟩ = some (.pointer (some ⟨L.db, 0, none⟩)) := fun x => ((m7h _).1 x.is).1
        have m7k1 : ∀ x : Memb m7S, x.at_.cell? ⟨bl, of1 + i, none⟩ = some (.int .u8 y) := fun x => ((m7h _).1 x.is).2
        have m7n : Nonempty (Memb m7S) := ⟨⟨(wv).drew, (m7h _).2 ⟨c0, hc⟩⟩⟩
        have m7H := Lib.hid m7h
        clear m7h
        refine wp_region_mix [8] (InS m7S) (by kernel_rfl) (by kernel_rfl) (InS.mk ((m7H.out _).2 ⟨c0, hc⟩)) ?_
        refine wpMix_seg 8 (by kernel_rfl) (by decide) ?_
        simp only [List.take_succ_cons, List.take_zero, List.drop_succ_cons, List.drop_zero]
        repeat (go_big_quiet_step (fail))
        refine wpQuiet_nil ?_
        refine wpMix_eff (by kernel_rfl) ?_
        go_wp2_with fail
        refine (BY.out _ (HZ.out.later (Keeps.refl None wv).drew)).mono ?_
        rintro e w2 ⟨rfl, d2, k2⟩
        have K2 := Lib.hid ((Keeps.refl (fun k => k = L.db) wv).drew.trans k2 (T := fun k => k = L.db) (fun _ h => h) (fun _ _ h => h))
        have Z2 := Lib.hid (HZ.out.dec d2 OK2.out.dok K2.out)
        have O2 := Lib.hid (HO.out.keeps K2.out (fun b hb e => NOL.out L.db (.inl rfl) (by have e : b = L.db := e; rw [← e]; exact hb)))
        have KW := Lib.hid (HK.out.trans K2.out (T := LzB L) (fun _ h => h) (fun _ _ e => .inl e))
        clear d2 k2 K2
        go_wp2
        refine MixK.last (by kernel_rfl) ?_
        refine wpMix_nil ?_
        clear m7k0 m7k1 m7n m7H
        go_wp2
        go_roundg G
        case measure => omega
        case rel => exact ⟨_, i + 1, out, by go_num, by omega, ME.out, RR.out.symm, Z2.out, OK2.out, O2.out, by rw [OL.out]; exact HH.out, KW.out⟩
    | false =>
      rw [hnd] at ND
      have HF2 := Lib.hid (HF1.out.trans (if_neg (by rw [hnd]; decide)))
      clear HF1
      cases hlo : dLostB z.d with
      | true =>
        rw [hlo] at LO
        have RR : Hid ((rz, ry, ro) = lzF room G { z with st := 4 } (zs.drop i) out) := by show _ = _; rw [HF2.out, if_pos hlo]
        have ME : Hid (lzM { z with st := 4 } (n - i) < G) := by
          have h1 := lzM_end z 4 (n - i) (n - i) (.inr rfl) z TM.out
          have h2 := HG.out
          show _ < _
          omega
        have OK2 := Lib.hid (OK.out.set 4 (by decide) (by decide) s4)
        clear hnd hlo HF2
        go_wp2_with fail
        refine (ND.out _ HZ.out).mono ?_
        rintro e w' ⟨rfl, rfl⟩
        go_wp2_with fail
        refine (ND.out _ HZ.out).mono ?_
        rintro e w' ⟨rfl, rfl⟩
        go_wp2_with fail
        refine (LO.out _ HZ.out).mono ?_
        rintro e w' ⟨rfl, kk, rfl⟩
        have ST := Lib.hid ((HZ.out.drewN kk).state 4)
        have KS := Lib.hid ((HK.out.drewN kk).trans ((Keeps.self L.zb (wv.drewN kk)).put 9 (.int .i64 4)) (T := LzB L) (fun _ h => h) (fun _ _ e => .inr (.inr (.inr e))))
        have OS := Lib.hid ((HO.out.drewN kk).keeps ((Keeps.self L.zb (wv.drewN kk)).put 9 (.int .i64 4)) (fun b hb e => NOL.out L.zb (.inr (.inr (.inr rfl))) (by have e : b = L.zb := e; rw [← e]; exact hb)))
        go_wp2
        go_roundg G
        case measure => omega
        case rel => exact ⟨_, i, out, rfl, hin, ME.out, RR.out.symm, ST.out, OK2.out, OS.out, by rw [OL.out]; exact HH.out, KS.out⟩
      | false =>
        rw [hlo] at LO
        have HF3 := Lib.hid (HF2.out.trans (if_neg (by rw [hlo]; decide)))
        clear HF2
        have c8 := HZ.out.c.cellD 8 _ rfl
        by_cases hl : 0 < z.left
        · have d1 : decide (0 < z.left) = true := decide_eq_true hl
          have HF4 := Lib.hid (HF3.out.trans (if_pos hl))
          rw [OL.out] at HF4
          clear HF3 hnd hlo
          by_cases hro : room ≤ (ol : Int)
          · have d2 : decide (room ≤ (ol : Int)) = true := decide_eq_true hro
            have RES : Hid ((rz, ry, ro) = ({ z with st := 2 }, zs.drop i, out)) := by show _ = _; rw [HF4.out, if_pos hro]
            have OK2 := Lib.hid (OK.out.set 2 (by decide) (by decide) s4)
            clear HF4
            go_wp2_with fail
            refine (ND.out _ HZ.out).mono ?_
            rintro e w' ⟨rfl, rfl⟩
            go_wp2_with fail
            refine (ND.out _ HZ.out).mono ?_
            rintro e w' ⟨rfl, rfl⟩
            go_wp2_with fail
            refine (LO.out _ HZ.out).mono ?_
            rintro e w' ⟨rfl, kk, rfl⟩
            have ST := Lib.hid ((HZ.out.drewN kk).state 2)
            have KS := Lib.hid ((HK.out.drewN kk).trans ((Keeps.self L.zb (wv.drewN kk)).put 9 (.int .i64 2)) (T := LzB L) (fun _ h => h) (fun _ _ e => .inr (.inr (.inr e))))
            have OS := Lib.hid ((HO.out.drewN kk).keeps ((Keeps.self L.zb (wv.drewN kk)).put 9 (.int .i64 2)) (fun b hb e => NOL.out L.zb (.inr (.inr (.inr rfl))) (by have e : b = L.zb := e; rw [← e]; exact hb)))
            -- the return: ST the LzAt, OK2.out the LzOk, OS.out Own, KS.out.drew Keeps, ((wv.drewN kk).setCell ⟨L.zb, 9, none⟩ (.int .i64 2)) the world, 2 the state
            go_wp2
            obtain ⟨mfS, mfh⟩ : ∃ S : World → Prop, ∀ w', S w' ↔ (w'.cell? ⟨L.zb, 9, none⟩ = some (.int .i64 (2))) := ⟨_, fun _ => Iff.rfl⟩
            have mfk0 : ∀ x : Memb mfS, x.at_.cell? ⟨L.zb, 9, none⟩ = some (.int .i64 (2)) := fun x => ((mfh _).1 x.is)
            have mfn : Nonempty (Memb mfS) := ⟨⟨(((wv.drewN kk).setCell ⟨L.zb, 9, none⟩ (.int .i64 2))).drew, (mfh _).2 (ST.out.c.cellD 9 _ rfl)⟩⟩
            have mfH := Lib.hid mfh
            clear mfh
            refine wp_region_mix [] (InS mfS) (by kernel_rfl) (by kernel_rfl) (InS.mk ((mfH.out _).2 (ST.out.c.cellD 9 _ rfl))) ?_
            refine wpMix_seg 9 (by kernel_rfl) (by decide) ?_
            simp only [List.take_succ_cons, List.take_zero, List.drop_succ_cons, List.drop_zero]
            repeat (go_big_quiet_step (fail))
            refine wpQuiet_nil ?_
            refine wpMix_nil ?_
            clear mfk0 mfn mfH
            go_wp2
            all_goals try rw [Exit.noGoto_ret]
            go_ret3
            exact ⟨i, _, hin, by rw [RES.out], by rw [RES.out]; first | rfl | (simp only [s3]; rfl) | (simp only [s4]; rfl), by rw [RES.out]; exact (ST.out.drewN 1), by rw [RES.out]; exact OK2.out, by rw [RES.out]; exact OS.out, KS.out.drew⟩
          · have d2 : decide (room ≤ (ol : Int)) = false := decide_eq_false hro
            have RR : Hid ((rz, ry, ro) = lzF room G (lzNextS z) (zs.drop i) (out ++ [lzByte z])) := by show _ = _; rw [HF4.out, if_neg hro]
            have ME : Hid (lzM (lzNextS z) (n - i) < G) := by
              have h1 := lzM_next (n - i) OK.out TM.out hl
              have h2 := HG.out
              show _ < _
              omega
            have OK2 := Lib.hid (OK.out.next s4 hl)
            have BB := Lib.hid (lzByte_b OK.out s4 hl)
            have NX := Lib.hid (fun w' (h' : LzAt w' L z) => lznext_any L z w' h' (by have := OK.out.hp; have := OK.out.p8; omega) (by omega) (by have := (OK.out.lf s4 hl).1; omega))
            have NH : Hid ((lzNextS z).h.length = z.h.length + 1) := by show (z.h ++ [lzByte z]).length = _; rw [List.length_append]; rfl
            obtain ⟨bv, hbv⟩ : ∃ x, lzByte z = x := ⟨_, rfl⟩
            rw [hbv] at RR BB NX
            obtain ⟨z2, hz2⟩ : ∃ x, lzNextS z = x := ⟨_, rfl⟩
            rw [hz2] at RR ME OK2 NX NH
            clear HF4 hbv hz2
            go_wp2_with fail
            refine (ND.out _ HZ.out).mono ?_
            rintro e w' ⟨rfl, rfl⟩
            go_wp2_with fail
            refine (ND.out _ HZ.out).mono ?_
            rintro e w' ⟨rfl, rfl⟩
            go_wp2_with fail
            refine (LO.out _ HZ.out).mono ?_
            rintro e w' ⟨rfl, kk, rfl⟩
            go_wp2_with fail
            refine (NX.out _ (HZ.out.drewN kk)).mono ?_
            rintro e w2 ⟨rfl, z3, k3⟩
            have Z3 := Lib.hid z3
            have K3 := Lib.hid ((HK.out.drewN kk).trans k3 (T := LzB L) (fun _ h => h) (fun _ _ e => e.elim (fun e => .inr (.inr (.inr e))) (fun e => .inr (.inr (.inl e)))))
            have O3 := Lib.hid ((HO.out.drewN kk).keeps k3 (fun b hb e => NOL.out b (Or.elim e (fun e => .inr (.inr (.inr e))) (fun e => .inr (.inr (.inl e)))) hb))
            clear z3 k3
            go_wp2_with (at_builtin; refine Hid.out ?_)
            refine Lib.hid ?_
            refine wpList_append_bs (B := w.heap.size) (O3.out.keeps ((Keeps.refl None w2).alloc _) (fun _ _ h => h)) (Bs.oneAt w2 _ rfl bv BB.out) (by rw [OL.out]; omega) (Nat.le_trans K3.out.size ((Keeps.refl None w2).alloc _).size) rfl rfl rfl rfl rfl ?_
            intro v4 w4 o4 k4
            have K4 := Lib.hid ((K3.out.alloc (.cells #[.int .u8 bv] 5)).trans k4 (T := LzB L) (fun _ h => h) (fun x hx e => absurd e (O3.out.notBelow hx)))
            have Z4 := Lib.hid ((Z3.out.later ((Keeps.refl None w2).alloc (.cells #[.int .u8 bv] 5))).keeps k4 (fun x hx e => absurd e (O3.out.notBelow (BEL.out x hx))))
            have O4 := Lib.hid o4
            clear o4 k4 Z3 K3 O3
            go_wp2
            go_roundg G
            case measure => omega
            case rel => exact ⟨z2, i, _, rfl, hin, ME.out, RR.out.symm, Z4.out, OK2.out, O4.out, by rw [List.length_append, OL.out, NH.out]; have := HH.out; simp; omega, K4.out⟩
        · have d1 : decide (0 < z.left) = false := decide_eq_false hl
          have HF4 := Lib.hid (HF3.out.trans (if_neg hl))
          have c3 := HZ.out.c.cellD 3 _ rfl
          have c4 := HZ.out.c.cellD 4 _ rfl
          clear HF3 hnd hlo
          by_cases hp : z.h.length = z.plain
          · have d2 : ((z.h.length : Int) == (z.plain : Int)) = true := by simp [hp]
            have d2n : (z.h.length == z.plain) = true := by simp [hp]
            obtain ⟨ev, hev⟩ : ∃ x, lzEndV z = x := ⟨_, rfl⟩
            have EV := Lib.hid hev
            have ev34 : ev = 3 ∨ ev = 4 := by rw [← hev]; unfold lzEndV; split <;> simp
            have RR : Hid ((rz, ry, ro) = lzF room G { z with st := ev } (zs.drop i) out) := by show _ = _; rw [HF4.out, if_pos hp, hev]
            have ME : Hid (lzM { z with st := ev } (n - i) < G) := by
              have h1 := lzM_end z ev (n - i) (n - i) ev34 z TM.out
              have h2 := HG.out
              show _ < _
              omega
            have OK2 := Lib.hid (OK.out.set ev (by omega) (by omega) s4)
            have EN := Lib.hid (fun w' (h' : LzAt w' L z) => lzend_any L z w' h')
            rw [hev] at EN
            clear HF4 hev
            go_wp2_with fail
            refine (ND.out _ HZ.out).mono ?_
            rintro e w' ⟨rfl, rfl⟩
            go_wp2_with fail
            refine (ND.out _ HZ.out).mono ?_
            rintro e w' ⟨rfl, rfl⟩
            go_wp2_with fail
            refine (LO.out _ HZ.out).mono ?_
            rintro e w' ⟨rfl, kk, rfl⟩
            go_wp2
            obtain ⟨m15S, m15h⟩ : ∃ S : World → Prop, ∀ w', S w' ↔ (w'.cell? ⟨L.zb, 3, none⟩ = some (.int .i64 (z.plain : Int)) ∧ w'.cell? ⟨L.zb, 4, none⟩ = some (.int .i64 (z.h.length : Int))) := ⟨_, fun _ => Iff.rfl⟩
            have m15k0 : ∀ x : Memb m15S, x.at_.cell? ⟨L.zb, 3, none⟩ = some (.int .i64 (z.plain : Int)) := fun x => ((m15h _).1 x.is).1
            have m15k1 : ∀ x : Memb m15S, x.at_.cell? ⟨L.zb, 4, none⟩ = some (.int .i64 (z.h.length : Int)) := fun x => ((m15h _).1 x.is).2
            have m15n : Nonempty (Memb m15S) := ⟨⟨((wv.drewN kk)).drew, (m15h _).2 ⟨c3, c4⟩⟩⟩
            have m15H := Lib.hid m15h
            clear m15h
            refine wp_region_mix [] (InS m15S) (by kernel_rfl) (by kernel_rfl) (InS.mk ((m15H.out _).2 ⟨c3, c4⟩)) ?_
            refine wpMix_seg 10 (by kernel_rfl) (by decide) ?_
            simp only [List.take_succ_cons, List.take_zero, List.drop_succ_cons, List.drop_zero]
            repeat (go_big_quiet_step (fail))
            refine wpQuiet_nil ?_
            refine wpMix_nil ?_
            clear m15k0 m15k1 m15n m15H
            go_wp2_with fail
            refine (EN.out _ (HZ.out.drewN _)).mono ?_
            rintro e w' ⟨rfl, rfl⟩
            have ST := Lib.hid ((HZ.out.drewN (kk + 1)).state ev)
            have KS := Lib.hid ((HK.out.drewN (kk + 1)).trans ((Keeps.self L.zb (wv.drewN (kk + 1))).put 9 (.int .i64 ev)) (T := LzB L) (fun _ h => h) (fun _ _ e => .inr (.inr (.inr e))))
            have OS := Lib.hid ((HO.out.drewN (kk + 1)).keeps ((Keeps.self L.zb (wv.drewN (kk + 1))).put 9 (.int .i64 ev)) (fun b hb e => NOL.out L.zb (.inr (.inr (.inr rfl))) (by have e : b = L.zb := e; rw [← e]; exact hb)))
            go_wp2
            go_roundg G
            case measure => omega
            case rel => exact ⟨_, i, out, rfl, hin, ME.out, RR.out.symm, ST.out, OK2.out, OS.out, by rw [OL.out]; exact HH.out, KS.out⟩
          · have d2 : ((z.h.length : Int) == (z.plain : Int)) = false := by simp; omega
            have d2n : (z.h.length == z.plain) = false := by simp; omega
            have HF5 := Lib.hid (HF4.out.trans (if_neg hp))
            have TK := Lib.hid (fun w' (h' : LzAt w' L z) => lztake_any L z w' h' OK.out.hp OK.out.p8)
            clear HF4
            cases htb : lzTakeB z with
            | true =>
              have RR : Hid ((rz, ry, ro) = lzF room G (lzTakeS z) (zs.drop i) out) := by show _ = _; rw [HF5.out, if_pos htb]
              have ME : Hid (lzM (lzTakeS z) (n - i) < G) := by
                have h1 := lzM_take (n - i) OK.out TM.out hl htb
                have h2 := HG.out
                show _ < _
                omega
              have OK2 := Lib.hid (OK.out.take hl htb)
              have NH : Hid ((lzTakeS z).h = z.h) := by show _ = _; unfold lzTakeS; split <;> rfl
              rw [htb] at TK
              obtain ⟨z2, hz2⟩ : ∃ x, lzTakeS z = x := ⟨_, rfl⟩
              rw [hz2] at RR ME OK2 TK NH
              clear HF5 htb hz2
              go_wp2_with fail
              refine (ND.out _ HZ.out).mono ?_
              rintro e w' ⟨rfl, rfl⟩
              go_wp2_with fail
              refine (ND.out _ HZ.out).mono ?_
              rintro e w' ⟨rfl, rfl⟩
              go_wp2_with fail
              refine (LO.out _ HZ.out).mono ?_
              rintro e w' ⟨rfl, kk, rfl⟩
              go_wp2
              obtain ⟨m15S, m15h⟩ : ∃ S : World → Prop, ∀ w', S w' ↔ (w'.cell? ⟨L.zb, 3, none⟩ = some (.int .i64 (z.plain : Int)) ∧ w'.cell? ⟨L.zb, 4, none⟩ = some (.int .i64 (z.h.length : Int))) := ⟨_, fun _ => Iff.rfl⟩
              have m15k0 : ∀ x : Memb m15S, x.at_.cell? ⟨L.zb, 3, none⟩ = some (.int .i64 (z.plain : Int)) := fun x => ((m15h _).1 x.is).1
              have m15k1 : ∀ x : Memb m15S, x.at_.cell? ⟨L.zb, 4, none⟩ = some (.int .i64 (z.h.length : Int)) := fun x => ((m15h _).1 x.is).2
              have m15n : Nonempty (Memb m15S) := ⟨⟨((wv.drewN kk)).drew, (m15h _).2 ⟨c3, c4⟩⟩⟩
              have m15H := Lib.hid m15h
              clear m15h
              refine wp_region_mix [] (InS m15S) (by kernel_rfl) (by kernel_rfl) (InS.mk ((m15H.out _).2 ⟨c3, c4⟩)) ?_
              refine wpMix_seg 10 (by kernel_rfl) (by decide) ?_
              simp only [List.take_succ_cons, List.take_zero, List.drop_succ_cons, List.drop_zero]
              repeat (go_big_quiet_step (fail))
              refine wpQuiet_nil ?_
              refine wpMix_nil ?_
              clear m15k0 m15k1 m15n m15H
              go_wp2_with fail
              refine (TK.out _ (HZ.out.drewN _)).mono ?_
              rintro e w2 ⟨rfl, z3, k3⟩
              have Z3 := Lib.hid z3
              have K3 := Lib.hid ((HK.out.drewN _).trans k3 (T := LzB L) (fun _ h => h) (fun _ _ h => h))
              have O3 := Lib.hid ((HO.out.drewN _).keeps k3 (fun b hb e => NOL.out b e hb))
              clear z3 k3
              go_wp2
              go_roundg G
              case measure => omega
              case rel => exact ⟨z2, i, out, rfl, hin, ME.out, RR.out.symm, Z3.out, OK2.out, O3.out, by rw [OL.out, NH.out]; exact HH.out, K3.out⟩
            | false =>
              have RR : Hid ((rz, ry, ro) = lzF room G { lzTakeS z with st := 4 } (zs.drop i) out) := by show _ = _; rw [HF5.out, if_neg (by rw [htb]; decide)]
              have ME : Hid (lzM { lzTakeS z with st := 4 } (n - i) < G) := by
                exact Nat.lt_of_lt_of_le (lzM_end z 4 (n - i) (n - i) (.inr rfl) (lzTakeS z) TM.out) (Nat.le_of_lt_succ HG.out)
              have OK2 := Lib.hid OK.out.fail
              have NH : Hid ((lzTakeS z).h = z.h) := by show _ = _; unfold lzTakeS; split <;> rfl
              rw [htb] at TK
              obtain ⟨z2, hz2⟩ : ∃ x, lzTakeS z = x := ⟨_, rfl⟩
              rw [hz2] at RR ME OK2 TK NH
              clear HF5 htb hz2
              go_wp2_with fail
              refine (ND.out _ HZ.out).mono ?_
              rintro e w' ⟨rfl, rfl⟩
              go_wp2_with fail
              refine (ND.out _ HZ.out).mono ?_
              rintro e w' ⟨rfl, rfl⟩
              go_wp2_with fail
              refine (LO.out _ HZ.out).mono ?_
              rintro e w' ⟨rfl, kk, rfl⟩
              go_wp2
              obtain ⟨m15S, m15h⟩ : ∃ S : World → Prop, ∀ w', S w' ↔ (w'.cell? ⟨L.zb, 3, none⟩ = some (.int .i64 (z.plain : Int)) ∧ w'.cell? ⟨L.zb, 4, none⟩ = some (.int .i64 (z.h.length : Int))) := ⟨_, fun _ => Iff.rfl⟩
              have m15k0 : ∀ x : Memb m15S, x.at_.cell? ⟨L.zb, 3, none⟩ = some (.int .i64 (z.plain : Int)) := fun x => ((m15h _).1 x.is).1
              have m15k1 : ∀ x : Memb m15S, x.at_.cell? ⟨L.zb, 4, none⟩ = some (.int .i64 (z.h.length : Int)) := fun x => ((m15h _).1 x.is).2
              have m15n : Nonempty (Memb m15S) := ⟨⟨((wv.drewN kk)).drew, (m15h _).2 ⟨c3, c4⟩⟩⟩
              have m15H := Lib.hid m15h
              clear m15h
              refine wp_region_mix [] (InS m15S) (by kernel_rfl) (by kernel_rfl) (InS.mk ((m15H.out _).2 ⟨c3, c4⟩)) ?_
              refine wpMix_seg 10 (by kernel_rfl) (by decide) ?_
              simp only [List.take_succ_cons, List.take_zero, List.drop_succ_cons, List.drop_zero]
              repeat (go_big_quiet_step (fail))
              refine wpQuiet_nil ?_
              refine wpMix_nil ?_
              clear m15k0 m15k1 m15n m15H
              go_wp2_with fail
              refine (TK.out _ (HZ.out.drewN _)).mono ?_
              rintro e w2 ⟨rfl, z3, k3⟩
              have y9 := z3.c.cellD 9 _ rfl
              have g9 := z3.c.frozen 9
              have ST := Lib.hid (z3.state 4)
              have KS := Lib.hid (((HK.out.drewN _).trans k3 (T := LzB L) (fun _ h => h) (fun _ _ h => h)).trans ((Keeps.self L.zb w2).put 9 (.int .i64 4)) (T := LzB L) (fun _ h => h) (fun _ _ e => .inr (.inr (.inr e))))
              have OS := Lib.hid (((HO.out.drewN _).keeps k3 (fun b hb e => NOL.out b e hb)).keeps ((Keeps.self L.zb w2).put 9 (.int .i64 4)) (fun b hb e => NOL.out L.zb (.inr (.inr (.inr rfl))) (by have e : b = L.zb := e; rw [← e]; exact hb)))
              clear z3 k3
              go_wp2
              go_roundg G
              case measure => omega
              case rel => exact ⟨_, i, out, rfl, hin, ME.out, RR.out.symm, ST.out, OK2.out, OS.out, by rw [OL.out]; show ol ≤ z2.h.length; rw [NH.out]; exact HH.out, KS.out⟩
end Go.Proofs.Ytnanbnaikmaljaa
