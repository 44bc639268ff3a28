
/- lzlite: its state in plain words, in memory; the walks of New, next, end, take, State, Made. -/
import Derived.Test.YtnanbnaikmaljaaLzPXTkFeed
import Derived.Test.YtnanbnaikmaljaaLzPa
import Derived.Test.YtnanbnaikmaljaaLzPXWindow
namespace Go.Proofs.Ytnanbnaikmaljaa
open Go.RowKit

structure LzS where
  d : DSt
  s : RdS
  h : List Int
  plain : Nat
  t : Tok
  left : Int
  st : Int
structure LzL where
  db : Nat
  T : TL
  wb : Nat
  zb : Nat
def lzcells (L : LzL) (z : LzS) : List Value := [.pointer (some ⟨L.db, 0, none⟩), .pointer (some ⟨L.T.sb, 0, none⟩), .pointer (some ⟨L.wb, 0, none⟩), .int .i64 (z.plain : Int), .int .i64 (z.h.length : Int), .int .i64 z.t.n, .int .i64 z.t.d, .int .u8 z.t.b, .int .i64 z.left, .int .i64 z.st]
structure LzAt (w : World) (L : LzL) (z : LzS) : Prop where
  c : Blk w L.zb (lzcells L z) 73
  r : RAt w L.db L.T z.s z.d
  w : Win w L.wb z.h
  o1 : L.T.sb < L.wb
  o2 : L.wb < L.zb
def LzB (L : LzL) (k : Nat) : Prop := k = L.db ∨ (L.T.g1 ≤ k ∧ k ≤ L.T.sb) ∨ k = L.wb ∨ k = L.zb
theorem LzAt.keeps {w w' : World} {L : LzL} {z : LzS} {S : Nat → Prop} (h : LzAt w L z) (hk : Keeps S w w') (hS : ∀ k, LzB L k → ¬ S k) : LzAt w' L z :=
  ⟨hk.blk h.c (hS _ (.inr (.inr (.inr rfl)))), h.r.keeps hk (fun k hb => hS k (hb.elim .inl (fun hb => .inr (.inl hb)))), h.w.keeps hk (hS _ (.inr (.inr (.inl rfl)))), h.o1, h.o2⟩
theorem LzAt.later {w w' : World} {L : LzL} {z : LzS} (h : LzAt w L z) (hk : Keeps None w w') : LzAt w' L z := h.keeps hk (fun _ _ h => h)
theorem LzAt.drewN {w : World} {L : LzL} {z : LzS} (h : LzAt w L z) (n : Nat) : LzAt (w.drewN n) L z := h.later ((Keeps.refl None w).drewN n)
theorem LzAt.ne {w : World} {L : LzL} {z : LzS} (h : LzAt w L z) : L.db < L.T.g1 ∧ L.T.g1 < L.T.sb ∧ L.T.sb < L.wb ∧ L.wb < L.zb := by
  obtain ⟨o1, o2, o3, o4, o5, o6⟩ := h.r.ord
  exact ⟨h.r.lo, by omega, h.o1, h.o2⟩
def lz0 (plain : Nat) : LzS := ⟨⟨0, 4294967295, 4⟩, rd0, [], plain, ⟨0, 0, 0⟩, 0, 1⟩
def lzByte (z : LzS) : Int := if 0 < z.t.n then backV z.h z.t.d else z.t.b
def lzNextS (z : LzS) : LzS := { z with h := z.h ++ [lzByte z], left := z.left - 1 }
def lzEndV (z : LzS) : Int := if dCleanB z.d = true then 3 else 4
def lzTakeS (z : LzS) : LzS := if rTok z.s z.d = true then { z with s := rNext z.s z.d, d := rDec z.s z.d, t := (rNext z.s z.d).t, left := longT (rNext z.s z.d).t } else { z with s := rNext z.s z.d, d := rDec z.s z.d }
def lzTakeB (z : LzS) : Bool := !rTok z.s z.d || (mayT (rNext z.s z.d).t z.h.length && decide (longT (rNext z.s z.d).t ≤ (z.plain : Int) - z.h.length))

set_option maxRecDepth 100000 in
theorem lznew_yes (plain : Nat) (w : World) (hp : plain ≤ 8192) : Calls Try.prog 14 #[.int .i64 (plain : Int)] w fun e w' => ∃ L : LzL, e = .returned (.tuple #[.pointer (some ⟨L.zb, 0, none⟩), .int .i64 0]) ∧ LzAt w' L (lz0 plain) ∧ w.heap.size ≤ L.db ∧ Keeps None w w' := by
  have d1 : decide ((plain : Int) < 0) = false := decide_eq_false (by omega)
  have d2 : decide (8192 < (plain : Int)) = false := decide_eq_false (by omega)
  go_enter Try.func14, Try.ntmps14
  go_wp2_with fail
  refine (dnew_any w).mono ?_
  rintro e w1 ⟨rfl, d1, k1⟩
  have D1 := Lib.hid d1
  have K1 := Lib.hid k1
  clear d1 k1
  go_wp2_with fail
  refine (tknew_any w1).mono ?_
  rintro e w2 ⟨T, rfl, s2, t2, o2, l2, k2⟩
  have S2 := Lib.hid s2
  have T2 := Lib.hid t2
  have O2 := Lib.hid o2
  have L2 := Lib.hid l2
  have D2 := Lib.hid (D1.out.keeps k2 (fun h => h))
  have K2 := Lib.hid (K1.out.trans k2 (T := None) (fun _ h => h) (fun _ _ h => h))
  have LT1 := Lib.hid D1.out.lt
  clear s2 t2 o2 l2 k2 D1 K1
  go_wp2_with fail
  refine (wnew_any w2).mono ?_
  rintro e w3 ⟨rfl, win3, k3⟩
  have WN := Lib.hid win3
  have RA : Hid (RAt w3 w.heap.size T rd0 ⟨0, 4294967295, 4⟩) := ⟨k3.blk S2.out (fun h => h), T2.out.keeps k3 (fun _ _ _ h => h) O2.out, D2.out.keeps k3 (fun h => h), DOk.new, ROk.start, O2.out, by have := LT1.out; have := L2.out; show w.heap.size < T.g1; omega⟩
  have K3 := Lib.hid (K2.out.trans k3 (T := None) (fun _ h => h) (fun _ _ h => h))
  have LS := Lib.hid S2.out.lt
  have LW := Lib.hid win3.lt
  clear win3 k3 T2 D2 K2 LT1
  go_wp2
  go_ret2
  refine ⟨⟨w.heap.size, T, w2.heap.size, w3.heap.size⟩, rfl, ⟨Blk.new w3 _ _, RA.out.later ((Keeps.refl None w3).alloc _), WN.out.keeps ((Keeps.refl None w3).alloc _) (fun h : None _ => h), LS.out, LW.out⟩, Nat.le_refl _, K3.out.alloc _⟩
set_option maxRecDepth 100000 in
theorem lznew_no (plain : Int) (w : World) (hp : plain < 0 ∨ 8192 < plain) : Calls Try.prog 14 #[.int .i64 plain] w fun e w' => e = .returned (.tuple #[.pointer none, .int .i64 1]) ∧ w = w' := by
  by_cases g1 : plain < 0
  · have d1 : decide (plain < 0) = true := decide_eq_true g1
    go_enter Try.func14, Try.ntmps14
    go_wp2
    go_ret2
    exact ⟨rfl, rfl⟩
  · have d1 : decide (plain < 0) = false := decide_eq_false g1
    have d2 : decide (8192 < plain) = true := decide_eq_true (by omega)
    go_enter Try.func14, Try.ntmps14
    go_wp2
    go_ret2
    exact ⟨rfl, rfl⟩
theorem lzstate_any (L : LzL) (z : LzS) (w : World) (h : LzAt w L z) : Calls Try.prog 19 #[.pointer (some ⟨L.zb, 0, none⟩)] w fun e w' => e = .returned (.int .i64 z.st) ∧ w = w' := by
  have c9 := h.c.cellD 9 _ rfl
  clear h
  go_enter Try.func19, Try.ntmps19
  go_wp2
  go_ret
  exact ⟨rfl, rfl⟩
theorem lzmade_any (L : LzL) (z : LzS) (w : World) (h : LzAt w L z) : Calls Try.prog 20 #[.pointer (some ⟨L.zb, 0, none⟩)] w fun e w' => e = .returned (.int .i64 (z.h.length : Int)) ∧ w = w' := by
  have c4 := h.c.cellD 4 _ rfl
  clear h
  go_enter Try.func20, Try.ntmps20
  go_wp2
  go_ret
  exact ⟨rfl, rfl⟩
theorem lzend_any (L : LzL) (z : LzS) (w : World) (h : LzAt w L z) : Calls Try.prog 38 #[.pointer (some ⟨L.zb, 0, none⟩)] w fun e w' => e = .returned (.int .i64 (lzEndV z)) ∧ w = w' := by
  have c0 := h.c.cellD 0 _ rfl
  have CL := Lib.hid (dclean_any L.db z.d w h.r.dc)
  obtain ⟨b, hb⟩ : ∃ x, dCleanB z.d = x := ⟨_, rfl⟩
  have EV : Hid (lzEndV z = if b = true then 3 else 4) := by show _ = _; unfold lzEndV; rw [hb]
  rw [hb] at CL
  rw [EV.out]
  clear h hb EV
  go_enter Try.func38, Try.ntmps38
  go_wp2_with fail
  refine CL.out.mono ?_
  rintro e w' ⟨rfl, rfl⟩
  cases b
  · go_wp2
    go_ret
    exact ⟨rfl, rfl⟩
  · go_wp2
    go_ret
    exact ⟨rfl, rfl⟩
set_option maxRecDepth 100000 in
set_option maxHeartbeats 1600000 in
theorem lznext_any (L : LzL) (z : LzS) (w : World) (h : LzAt w L z) (hl : z.h.length ≤ 8192) (h1 : 1 ≤ z.left) (h2 : z.left ≤ 300) :
    Calls Try.prog 37 #[.pointer (some ⟨L.zb, 0, none⟩)] w fun e w' => e = .returned (.int .u8 (lzByte z)) ∧ LzAt w' L (lzNextS z) ∧ Keeps (fun k => k = L.zb ∨ k = L.wb) w w' := by
  have NE := Lib.hid h.ne
  have C := Lib.hid h.c
  have RA := Lib.hid h.r
  have HW := Lib.hid h.w
  obtain ⟨bv, hbv⟩ : ∃ x, lzByte z = x := ⟨_, rfl⟩
  have BV := Lib.hid hbv
  have NS : Hid (lzNextS z = { z with h := z.h ++ [bv], left := z.left - 1 }) := by show _ = _; unfold lzNextS; rw [hbv]
  rw [hbv, NS.out]
  clear h hbv NS
  obtain ⟨d, s, h, plain, ⟨tn, td, tb⟩, left, st⟩ := z
  obtain ⟨db, T, wb, zb⟩ := L
  dsimp only at hl h1 h2 C RA HW ⊢
  have NE : Hid (db < T.g1 ∧ T.g1 < T.sb ∧ T.sb < wb ∧ wb < zb) := NE.out
  have PUT := Lib.hid (fun w' (h' : Win w' wb h) => wput_any wb h bv w' h' (by omega))
  have BACK := Lib.hid (fun w' (h' : Win w' wb h) => wback_any wb h td w' h' (by omega))
  obtain ⟨hn, hhn⟩ : ∃ x, h.length = x := ⟨_, rfl⟩
  have LN : Hid ([.pointer (some ⟨db, 0, none⟩), .pointer (some ⟨T.sb, 0, none⟩), .pointer (some ⟨wb, 0, none⟩), .int .i64 (plain : Int), .int .i64 ((hn : Int) + 1), .int .i64 tn, .int .i64 td, .int .u8 tb, .int .i64 (left - 1), .int .i64 st] = lzcells ⟨db, T, wb, zb⟩ ⟨d, s, h ++ [bv], plain, ⟨tn, td, tb⟩, left - 1, st⟩) := by
    show _ = _
    unfold lzcells
    dsimp only
    rw [List.length_append, hhn, List.length_singleton, show ((hn + 1 : Nat) : Int) = (hn : Int) + 1 by omega]
  have C : Hid (Blk w zb [.pointer (some ⟨db, 0, none⟩), .pointer (some ⟨T.sb, 0, none⟩), .pointer (some ⟨wb, 0, none⟩), .int .i64 (plain : Int), .int .i64 (hn : Int), .int .i64 tn, .int .i64 td, .int .u8 tb, .int .i64 left, .int .i64 st] 73) := by
    have := C.out
    unfold lzcells at this
    dsimp only at this
    rw [hhn] at this
    exact this
  rw [hhn] at hl
  clear hhn
  have c2 := C.out.cellD 2 _ rfl
  have c4 := C.out.cellD 4 _ rfl
  have c5 := C.out.cellD 5 _ rfl
  have c6 := C.out.cellD 6 _ rfl
  have c7 := C.out.cellD 7 _ rfl
  have c8 := C.out.cellD 8 _ rfl
  have f4 := C.out.frozen 4
  have f8 := C.out.frozen 8
  have n1 : wb < zb := NE.out.2.2.2
  by_cases hn0 : 0 < tn
  · have d0 : decide (0 < tn) = true := decide_eq_true hn0
    have EB : Hid (bv = backV h td) := by show _ = _; rw [← BV.out]; exact if_pos hn0
    rw [← EB.out] at BACK
    clear BV EB
    go_enter Try.func37, Try.ntmps37
    go_wp2
    obtain ⟨mS, mh⟩ : ∃ S : World → Prop, ∀ w', S w' ↔ (w'.cell? ⟨zb, 2, none⟩ = some (.pointer (some ⟨wb, 0, none⟩)) ∧ w'.cell? ⟨zb, 6, none⟩ = some (.int .i64 td)) := ⟨_, fun _ => Iff.rfl⟩
    have mk0 : ∀ x : Memb mS, x.at_.cell? ⟨zb, 2, none⟩ = some (.pointer (some ⟨wb, 0, none⟩)) := fun x => ((mh _).1 x.is).1
    have mk1 : ∀ x : Memb mS, x.at_.cell? ⟨zb, 6, none⟩ = some (.int .i64 td) := fun x => ((mh _).1 x.is).2
    have mn : Nonempty (Memb mS) := ⟨⟨(w).drew, (mh _).2 ⟨c2, c6⟩⟩⟩
    have mH := Lib.hid mh
    clear mh
    refine wp_region_mix [9] (InS mS) (by kernel_rfl) (by kernel_rfl) (InS.mk ((mH.out _).2 ⟨c2, c6⟩)) ?_
    refine wpMix_seg 9 (by kernel_rfl) (by decide) ?_
    simp only [List.take_succ_cons, List.take_zero, List.drop_succ_cons, List.drop_zero]
    repeat (go_big_quiet_step (fail))
    refine wpQuiet_nil ?_
    refine wpMix_eff (by kernel_rfl) ?_
    go_wp2_with fail
    refine (BACK.out _ HW.out.drew).mono ?_
    rintro e w2 ⟨rfl, n, rfl⟩
    go_wp2
    refine MixK.on (InS.mk ((mH.out _).2 (⟨c2, c6⟩))) ?_
    refine wpMix_seg 4 (by kernel_rfl) (by decide) ?_
    simp only [List.take_succ_cons, List.take_zero, List.drop_succ_cons, List.drop_zero]
    repeat (go_big_quiet_step (fail))
    refine wpQuiet_nil ?_
    refine wpMix_nil ?_
    clear mk0 mk1 mn mH
    have KZ : Hid (Keeps (fun k => k = zb) w (((w.drewN (1 + n)).setCell ⟨zb, 8, none⟩ (.int .i64 (left - 1))).setCell ⟨zb, 4, none⟩ (.int .i64 ((hn : Int) + 1)))) := ((((Keeps.self zb w).drewN (1 + n)).put 8 _).put 4 _)
    have BZ : Hid (Blk (((w.drewN (1 + n)).setCell ⟨zb, 8, none⟩ (.int .i64 (left - 1))).setCell ⟨zb, 4, none⟩ (.int .i64 ((hn : Int) + 1))) zb [.pointer (some ⟨db, 0, none⟩), .pointer (some ⟨T.sb, 0, none⟩), .pointer (some ⟨wb, 0, none⟩), .int .i64 (plain : Int), .int .i64 ((hn : Int) + 1), .int .i64 tn, .int .i64 td, .int .u8 tb, .int .i64 (left - 1), .int .i64 st] 73) := ((C.out.drewN (1 + n)).set 8 _).set 4 _
    -- next: behind the choice of the byte;  the world, #2 the byte
    go_wp2_with fail
    refine (PUT.out _ (HW.out.keeps KZ.out (by show ¬ _ = _; omega))).mono ?_
    rintro e w2 ⟨rfl, win2, k2⟩
    have K2 := Lib.hid (KZ.out.trans k2 (T := fun k => k = zb ∨ k = wb) (fun _ h => .inl h) (fun _ _ h => .inr h))
    have B2 := Lib.hid (k2.blk BZ.out (by show ¬ _ = _; omega))
    have W2 := Lib.hid win2
    clear win2 k2
    go_wp2
    go_ret
    exact ⟨rfl, ⟨LN.out ▸ B2.out, RA.out.keeps K2.out (fun k hk hh => by have hk : k = db ∨ (T.g1 ≤ k ∧ k ≤ T.sb) := hk; have := NE.out; omega), W2.out, NE.out.2.2.1, NE.out.2.2.2⟩, K2.out⟩
  · have d0 : decide (0 < tn) = false := decide_eq_false hn0
    have EB : Hid (bv = tb) := by show _ = _; rw [← BV.out]; exact if_neg hn0
    rw [← EB.out] at c7
    have KZ : Hid (Keeps (fun k => k = zb) w ((w.setCell ⟨zb, 8, none⟩ (.int .i64 (left - 1))).setCell ⟨zb, 4, none⟩ (.int .i64 ((hn : Int) + 1)))) := (((Keeps.self zb w).put 8 _).put 4 _)
    have BZ : Hid (Blk ((w.setCell ⟨zb, 8, none⟩ (.int .i64 (left - 1))).setCell ⟨zb, 4, none⟩ (.int .i64 ((hn : Int) + 1))) zb [.pointer (some ⟨db, 0, none⟩), .pointer (some ⟨T.sb, 0, none⟩), .pointer (some ⟨wb, 0, none⟩), .int .i64 (plain : Int), .int .i64 ((hn : Int) + 1), .int .i64 tn, .int .i64 td, .int .u8 tb, .int .i64 (left - 1), .int .i64 st] 73) := (C.out.set 8 _).set 4 _
    clear BV EB
    go_enter Try.func37, Try.ntmps37
    -- next: behind the choice of the byte;  the world, #2 the byte
    go_wp2_with fail
    refine (PUT.out _ (HW.out.keeps KZ.out (by show ¬ _ = _; omega))).mono ?_
    rintro e w2 ⟨rfl, win2, k2⟩
    have K2 := Lib.hid (KZ.out.trans k2 (T := fun k => k = zb ∨ k = wb) (fun _ h => .inl h) (fun _ _ h => .inr h))
    have B2 := Lib.hid (k2.blk BZ.out (by show ¬ _ = _; omega))
    have W2 := Lib.hid win2
    clear win2 k2
    go_wp2
    go_ret
    exact ⟨rfl, ⟨LN.out ▸ B2.out, RA.out.keeps K2.out (fun k hk hh => by have hk : k = db ∨ (T.g1 ≤ k ∧ k ≤ T.sb) := hk; have := NE.out; omega), W2.out, NE.out.2.2.1, NE.out.2.2.2⟩, K2.out⟩
end Go.Proofs.Ytnanbnaikmaljaa
