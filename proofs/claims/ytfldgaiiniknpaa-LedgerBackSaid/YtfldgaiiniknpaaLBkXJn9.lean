
/- The walk of journal's lay. -/
import Derived.Test.YtfldgaiiniknpaaLBkXJn8
import Derived.Test.YtfldgaiiniknpaaLBkXRm
namespace Go.Proofs.Ytfldgaiiniknpaa
open Go.RowKit

/-- A sector laid anew, in plain words: its end, and what came of it. -/
def layE (s : FS) (k : Int) : FS × Int := if (s.gblank 0 2 k).2 = 0 ∧ (s.gblank 0 2 k).1 = false then s.gerase 0 2 k else (s, (s.gblank 0 2 k).2)
def layP (r : FS × Int) (k : Int) (b : List Int) : FS × Int := if r.2 = 0 then r.1.gprog 0 2 (k * 1024 + 16) b else r
def layH (r : FS × Int) (k : Int) (epoch : Nat) : FS × Int := if r.2 = 0 then r.1.gprog 0 2 (k * 1024) (putL 1 ((epoch : Int) + 1) []) else r
def layF (s : FS) (k : Int) (epoch : Nat) (b : List Int) : FS × Int := layH (layP (layE s k) k b) k epoch
def LDoneJ (w : World) (B q : Nat) (X : JX) (r : FS × Int) (j : JS) (e : Ending) (w' : World) : Prop := e = .returned (.int .i64 r.2) ∧ ∃ L', JTurn w w' B q X { X with L := L' } r.1 j
theorem Bs.blt {w : World} {A : Option Addr} {n cap : Nat} {zs : List Int} (h : Bs w A n cap zs) (hn : 0 < n) {b off : Nat} (e : A = some ⟨b, off, none⟩) : b < w.heap.size := by
  obtain ⟨b', off', e', hb, -⟩ := h.at_ hn
  rw [e] at e'
  cases e'
  exact hb
set_option maxRecDepth 100000 in
set_option maxHeartbeats 3200000 in
theorem jlay_any (B q : Nat) (X : JX) (s : FS) (j : JS) (k : Int) (A : Option Addr) (m c : Nat) (b : List Int) (w : World) (h : JAt w B q X s j) (hn : 2 ≤ X.L.n) (ok : JOk j) (hk : 0 ≤ k ∧ k ≤ 1) (hb : Bs w A m c b) (hm : m ≤ 1008) (nb : ∀ bb off, 0 < m → A = some ⟨bb, off, none⟩ → ¬ X.S bb) (rm : Room s 2001) :
    Calls Try.prog 72 #[.pointer (some ⟨X.jb, 0, none⟩), .int .i64 k, .slice A m c] w (LDoneJ w B q X (layF s k j.epoch b) j) := by
  obtain ⟨L, jb, lv, rs⟩ := X
  dsimp only at h hn ⊢
  obtain ⟨hk0, hk1⟩ := hk
  have HB := Lib.hid hb
  have HL : Hid (b.length = m) := hb.len
  have hle := hb.le
  have hmx := hb.max
  have NB := Lib.hid nb
  have HJ := Lib.hid h
  obtain ⟨ep, HEP⟩ : ∃ x, Hid (j.epoch = x) := ⟨_, rfl⟩
  have hep : ep ≤ 4294967295 := by rw [← HEP.out]; exact ok.epoch
  have y0 := h.c.cellD 0 _ rfl
  have y1 := h.c.cellD 1 _ rfl
  have y2 := h.c.cellD 2 _ rfl
  dsimp only at y0 y1 y2
  have IB := Lib.hid (gisblank_any B L s q 0 2 k w h.f h.hq hn)
  have ER := Lib.hid (fun w' (h' : JAt w' B q ⟨L, jb, lv, rs⟩ s j) => h'.erase k (by have := rm.st; omega) (fun i => by have := rm.er i; omega))
  have HRM := Lib.hid rm
  have RMX : Hid (Room (layE s k).1 2000) := by
    show Room _ _
    unfold layE
    split
    · exact rm.erase 0 2 k
    · exact rm.less (by decide)
  obtain ⟨res, HRES⟩ : ∃ x, Hid (layF s k j.epoch b = x) := ⟨_, rfl⟩
  have LE : Hid (layE s k = if (s.gblank 0 2 k).2 = 0 ∧ (s.gblank 0 2 k).1 = false then s.gerase 0 2 k else (s, (s.gblank 0 2 k).2)) := rfl
  have RES0 : Hid (res = layH (layP (layE s k) k b) k j.epoch) := HRES.out.symm
  obtain ⟨⟨b0, e0⟩, HG0⟩ : ∃ x, Hid (s.gblank 0 2 k = x) := ⟨_, rfl⟩
  rw [HG0.out] at IB LE
  dsimp only at IB LE
  rw [HRES.out]
  clear h hb nb rm ok HRES
  go_enter Try.func72, Try.ntmps72
  go_wp2_with fail
  refine IB.out.mono ?_
  rintro e w0 ⟨rfl, k0⟩
  have T0 := Lib.hid (JTurn.still HJ.out k0)
  have y0 := T0.out.at_.c.cellD 0 _ rfl
  have y1 := T0.out.at_.c.cellD 1 _ rfl
  have y2 := T0.out.at_.c.cellD 2 _ rfl
  dsimp only at y0 y1 y2
  clear k0
  by_cases g1 : e0 = 0 ∧ b0 = false
  · obtain ⟨rfl, rfl⟩ := g1
    have LE2 := Lib.hid (LE.out.trans (if_pos ⟨rfl, rfl⟩))
    have ERK := Lib.hid (ER.out w0 T0.out.at_)
    rw [LE2.out] at RES0 RMX
    obtain ⟨⟨s1, x1⟩, HGE⟩ : ∃ x, Hid (s.gerase 0 2 k = x) := ⟨_, rfl⟩
    rw [HGE.out] at ERK RES0 RMX
    dsimp only at ERK RMX
    have RM1 := RMX
    have RES := RES0
    go_wp2_with fail
    refine ERK.out.mono ?_
    rintro e w1 ⟨rfl, L1, t1⟩
    have T1 := Lib.hid (T0.out.trans t1)
    clear t1 ERK ER LE LE2 y0 y1 y2
    by_cases q1 : x1 = 0
    · subst q1
      have LP : Hid (layP (s1, 0) k b = s1.gprog 0 2 (k * 1024 + 16) b) := if_pos rfl
      have y0 := T1.out.at_.c.cellD 0 _ rfl
      have y1 := T1.out.at_.c.cellD 1 _ rfl
      have y2 := T1.out.at_.c.cellD 2 _ rfl
      dsimp only at y0 y1 y2
      have PRG := Lib.hid (T1.out.at_.prog (k * 1024 + 16) (HB.out.keeps T1.out.keeps (fun bb off h0 _ e hS => NB.out bb off h0 e hS)) (by have := RM1.out.st; omega) (fun bb off h0 e hS => by rcases T1.out.o bb hS with h1 | h1; exact NB.out bb off h0 e h1; have := HB.out.blt h0 e; omega))
      have RM2 := Lib.hid ((RM1.out.less (show 700 + b.length ≤ 2000 by have := HL.out; omega)).prog 0 2 (k * 1024 + 16))
      rw [LP.out] at RES
      obtain ⟨⟨s2, x2⟩, HG⟩ : ∃ x, Hid (s1.gprog 0 2 (k * 1024 + 16) b = x) := ⟨_, rfl⟩
      rw [HG.out] at PRG RES RM2
      dsimp only at PRG RM2
      go_wp2_with fail
      refine PRG.out.mono ?_
      rintro e w2 ⟨rfl, L2, t2⟩
      have T2 := Lib.hid (T1.out.trans t2)
      clear t2 PRG y0 y1 y2
      by_cases q2 : x2 = 0
      · subst q2
        -- region 7: T2 : the turn to w2, the flash s2, all well so far (RES : res = layH (s2, 0) k epoch)
        have HE : Hid (layH (s2, 0) k j.epoch = s2.gprog 0 2 (k * 1024) (putL 1 ((j.epoch : Int) + 1) [])) := if_pos rfl
        have PUT := Lib.hid (fun w => sput_all 1 ((ep : Int) + 1) none 0 0 [] w (bsNil w))
        rw [HEP.out] at HE RES
        have PLE := putL_le 1 ((ep : Int) + 1) []
        obtain ⟨pl, HPL⟩ : ∃ x, Hid (putL 1 ((ep : Int) + 1) [] = x) := ⟨_, rfl⟩
        rw [HPL.out] at PUT HE PLE
        obtain ⟨pn, HPN⟩ : ∃ x, Hid (pl.length = x) := ⟨_, rfl⟩
        rw [HPN.out] at PLE
        have y0 := T2.out.at_.c.cellD 0 _ rfl
        have y1 := T2.out.at_.c.cellD 1 _ rfl
        have y2 := T2.out.at_.c.cellD 2 _ rfl
        have y4 := T2.out.at_.c.cellD 4 _ rfl
        dsimp only at y0 y1 y2 y4
        rw [HEP.out] at y4
        go_wp2
        obtain ⟨mhS, mhh⟩ : ∃ S : World → Prop, ∀ w', S w' ↔ (w'.cell? ⟨jb, 0, none⟩ = some (.pointer (some ⟨q, 0, none⟩)) ∧ w'.cell? ⟨jb, 1, none⟩ = some (.int .i64 0) ∧ w'.cell? ⟨jb, 2, none⟩ = some (.int .i64 2) ∧ w'.cell? ⟨jb, 4, none⟩ = some (.int .i64 (ep : Int))) := ⟨_, fun _ => Iff.rfl⟩
        have mhk0 : ∀ x : Memb mhS, x.at_.cell? ⟨jb, 0, none⟩ = some (.pointer (some ⟨q, 0, none⟩)) := fun x => ((mhh _).1 x.is).1
        have mhk1 : ∀ x : Memb mhS, x.at_.cell? ⟨jb, 1, none⟩ = some (.int .i64 0) := fun x => ((mhh _).1 x.is).2.1
        have mhk2 : ∀ x : Memb mhS, x.at_.cell? ⟨jb, 2, none⟩ = some (.int .i64 2) := fun x => ((mhh _).1 x.is).2.2.1
        have mhk3 : ∀ x : Memb mhS, x.at_.cell? ⟨jb, 4, none⟩ = some (.int .i64 (ep : Int)) := fun x => ((mhh _).1 x.is).2.2.2
        have mhn : Nonempty (Memb mhS) := ⟨⟨(w2).drew, (mhh _).2 ⟨y0, y1, y2, y4⟩⟩⟩
        have mhH := Lib.hid mhh
        clear mhh
        refine wp_region_mix [12, 13] (InS mhS) (by kernel_rfl) (by kernel_rfl) (InS.mk ((mhH.out _).2 ⟨y0, y1, y2, y4⟩)) ?_
        refine wpMix_seg 12 (by kernel_rfl) (by decide) ?_
        simp only [List.take_succ_cons, List.take_zero, List.drop_succ_cons, List.drop_zero]
        repeat (go_big_quiet_step (fail))
        refine wpQuiet_nil ?_
        refine wpMix_eff (by kernel_rfl) ?_
        go_wp2_with fail
        refine (PUT.out _).mono ?_
        rintro e w5 ⟨v5, rfl, o5, k5⟩
        obtain ⟨A5, c5, rfl, b5, in5⟩ := o5.shape
        rw [HPN.out] at b5 ⊢
        have l5 := b5.le
        have m5 := b5.max
        have B5 := Lib.hid b5
        have I5 := Lib.hid in5
        have K5 := Lib.hid ((Keeps.refl None w2).drew.trans k5 (T := None) (fun _ h => h) (fun _ _ h => h))
        have J5 := Lib.hid (T2.out.at_.later K5.out)
        clear o5 k5 b5 in5
        go_wp2
        refine MixK.on (InS.mk ((mhH.out _).2 (⟨J5.out.c.cellD 0 _ rfl, J5.out.c.cellD 1 _ rfl, J5.out.c.cellD 2 _ rfl, HEP.out ▸ J5.out.c.cellD 4 _ rfl⟩))) ?_
        refine wpMix_eff (by kernel_rfl) ?_
        go_wp2_with fail
        refine (J5.out.prog (k * 1024) B5.out (by have := RM2.out.st; omega) (fun b off h0 e hS => by have h1 := (I5.out b off e).1; have h2 := T2.out.at_.lt b hS; have h3 : w2.drew.heap.size = w2.heap.size := rfl; omega)).mono ?_
        rw [← HE.out, ← RES.out]
        rintro e w6 ⟨rfl, L3, t6⟩
        have T3 := Lib.hid ((T2.out.later K5.out).trans t6)
        clear t6
        go_wp2
        refine MixK.on (InS.mk ((mhH.out _).2 (⟨T3.out.at_.c.cellD 0 _ rfl, T3.out.at_.c.cellD 1 _ rfl, T3.out.at_.c.cellD 2 _ rfl, HEP.out ▸ T3.out.at_.c.cellD 4 _ rfl⟩))) ?_
        refine wpMix_seg 1 (by kernel_rfl) (by decide) ?_
        simp only [List.take_succ_cons, List.take_zero, List.drop_succ_cons, List.drop_zero]
        repeat (go_big_quiet_step (fail))
        refine wpQuiet_nil ?_
        refine wpMix_nil ?_
        clear mhk0 mhk1 mhk2 mhk3 mhn mhH
        go_wp2
        go_ret
        exact ⟨rfl, L3, T3.out⟩
      · have e2 : (x2 == 0) = false := by simpa using q2
        have LH : Hid (layH (s2, x2) k j.epoch = (s2, x2)) := if_neg q2
        rw [LH.out] at RES
        go_wp2
        go_ret
        exact ⟨by rw [RES.out]; rfl, L2, by rw [RES.out]; exact T2.out⟩
    · skip
      have e1 : (x1 == 0) = false := by simpa using q1
      have LP : Hid (layP (s1, x1) k b = (s1, x1)) := if_neg q1
      have LH : Hid (layH (s1, x1) k j.epoch = (s1, x1)) := if_neg q1
      rw [LP.out, LH.out] at RES
      go_wp2
      go_ret
      exact ⟨by rw [RES.out]; rfl, L1, by rw [RES.out]; exact T1.out⟩
  · have LE2 := Lib.hid (LE.out.trans (if_neg g1))
    rw [LE2.out] at RES0 RMX
    dsimp only at RMX
    obtain ⟨s1, rfl⟩ : ∃ x, x = s := ⟨_, rfl⟩
    obtain ⟨x1, rfl⟩ : ∃ x, x = e0 := ⟨_, rfl⟩
    obtain ⟨L1, rfl⟩ : ∃ x, x = L := ⟨_, rfl⟩
    obtain ⟨w1, rfl⟩ : ∃ x, x = w0 := ⟨_, rfl⟩
    have T1 := T0
    have RM1 := RMX
    have RES := RES0
    clear T0 RMX RES0 LE LE2 ER y0 y1 y2
    by_cases g2 : x1 = 0
    · have hb0 : b0 = true := by cases b0 with
        | true => rfl
        | false => exact absurd ⟨g2, rfl⟩ g1
      subst hb0
      subst g2
      have LP : Hid (layP (s1, 0) k b = s1.gprog 0 2 (k * 1024 + 16) b) := if_pos rfl
      have y0 := T1.out.at_.c.cellD 0 _ rfl
      have y1 := T1.out.at_.c.cellD 1 _ rfl
      have y2 := T1.out.at_.c.cellD 2 _ rfl
      dsimp only at y0 y1 y2
      have PRG := Lib.hid (T1.out.at_.prog (k * 1024 + 16) (HB.out.keeps T1.out.keeps (fun bb off h0 _ e hS => NB.out bb off h0 e hS)) (by have := RM1.out.st; omega) (fun bb off h0 e hS => by rcases T1.out.o bb hS with h1 | h1; exact NB.out bb off h0 e h1; have := HB.out.blt h0 e; omega))
      have RM2 := Lib.hid ((RM1.out.less (show 700 + b.length ≤ 2000 by have := HL.out; omega)).prog 0 2 (k * 1024 + 16))
      rw [LP.out] at RES
      obtain ⟨⟨s2, x2⟩, HG⟩ : ∃ x, Hid (s1.gprog 0 2 (k * 1024 + 16) b = x) := ⟨_, rfl⟩
      rw [HG.out] at PRG RES RM2
      dsimp only at PRG RM2
      go_wp2_with fail
      refine PRG.out.mono ?_
      rintro e w2 ⟨rfl, L2, t2⟩
      have T2 := Lib.hid (T1.out.trans t2)
      clear t2 PRG y0 y1 y2
      by_cases q2 : x2 = 0
      · subst q2
        -- region 7: T2 : the turn to w2, the flash s2, all well so far (RES : res = layH (s2, 0) k epoch)
        have HE : Hid (layH (s2, 0) k j.epoch = s2.gprog 0 2 (k * 1024) (putL 1 ((j.epoch : Int) + 1) [])) := if_pos rfl
        have PUT := Lib.hid (fun w => sput_all 1 ((ep : Int) + 1) none 0 0 [] w (bsNil w))
        rw [HEP.out] at HE RES
        have PLE := putL_le 1 ((ep : Int) + 1) []
        obtain ⟨pl, HPL⟩ : ∃ x, Hid (putL 1 ((ep : Int) + 1) [] = x) := ⟨_, rfl⟩
        rw [HPL.out] at PUT HE PLE
        obtain ⟨pn, HPN⟩ : ∃ x, Hid (pl.length = x) := ⟨_, rfl⟩
        rw [HPN.out] at PLE
        have y0 := T2.out.at_.c.cellD 0 _ rfl
        have y1 := T2.out.at_.c.cellD 1 _ rfl
        have y2 := T2.out.at_.c.cellD 2 _ rfl
        have y4 := T2.out.at_.c.cellD 4 _ rfl
        dsimp only at y0 y1 y2 y4
        rw [HEP.out] at y4
        go_wp2
        obtain ⟨mhS, mhh⟩ : ∃ S : World → Prop, ∀ w', S w' ↔ (w'.cell? ⟨jb, 0, none⟩ = some (.pointer (some ⟨q, 0, none⟩)) ∧ w'.cell? ⟨jb, 1, none⟩ = some (.int .i64 0) ∧ w'.cell? ⟨jb, 2, none⟩ = some (.int .i64 2) ∧ w'.cell? ⟨jb, 4, none⟩ = some (.int .i64 (ep : Int))) := ⟨_, fun _ => Iff.rfl⟩
        have mhk0 : ∀ x : Memb mhS, x.at_.cell? ⟨jb, 0, none⟩ = some (.pointer (some ⟨q, 0, none⟩)) := fun x => ((mhh _).1 x.is).1
        have mhk1 : ∀ x : Memb mhS, x.at_.cell? ⟨jb, 1, none⟩ = some (.int .i64 0) := fun x => ((mhh _).1 x.is).2.1
        have mhk2 : ∀ x : Memb mhS, x.at_.cell? ⟨jb, 2, none⟩ = some (.int .i64 2) := fun x => ((mhh _).1 x.is).2.2.1
        have mhk3 : ∀ x : Memb mhS, x.at_.cell? ⟨jb, 4, none⟩ = some (.int .i64 (ep : Int)) := fun x => ((mhh _).1 x.is).2.2.2
        have mhn : Nonempty (Memb mhS) := ⟨⟨(w2).drew, (mhh _).2 ⟨y0, y1, y2, y4⟩⟩⟩
        have mhH := Lib.hid mhh
        clear mhh
        refine wp_region_mix [12, 13] (InS mhS) (by kernel_rfl) (by kernel_rfl) (InS.mk ((mhH.out _).2 ⟨y0, y1, y2, y4⟩)) ?_
        refine wpMix_seg 12 (by kernel_rfl) (by decide) ?_
        simp only [List.take_succ_cons, List.take_zero, List.drop_succ_cons, List.drop_zero]
        repeat (go_big_quiet_step (fail))
        refine wpQuiet_nil ?_
        refine wpMix_eff (by kernel_rfl) ?_
        go_wp2_with fail
        refine (PUT.out _).mono ?_
        rintro e w5 ⟨v5, rfl, o5, k5⟩
        obtain ⟨A5, c5, rfl, b5, in5⟩ := o5.shape
        rw [HPN.out] at b5 ⊢
        have l5 := b5.le
        have m5 := b5.max
        have B5 := Lib.hid b5
        have I5 := Lib.hid in5
        have K5 := Lib.hid ((Keeps.refl None w2).drew.trans k5 (T := None) (fun _ h => h) (fun _ _ h => h))
        have J5 := Lib.hid (T2.out.at_.later K5.out)
        clear o5 k5 b5 in5
        go_wp2
        refine MixK.on (InS.mk ((mhH.out _).2 (⟨J5.out.c.cellD 0 _ rfl, J5.out.c.cellD 1 _ rfl, J5.out.c.cellD 2 _ rfl, HEP.out ▸ J5.out.c.cellD 4 _ rfl⟩))) ?_
        refine wpMix_eff (by kernel_rfl) ?_
        go_wp2_with fail
        refine (J5.out.prog (k * 1024) B5.out (by have := RM2.out.st; omega) (fun b off h0 e hS => by have h1 := (I5.out b off e).1; have h2 := T2.out.at_.lt b hS; have h3 : w2.drew.heap.size = w2.heap.size := rfl; omega)).mono ?_
        rw [← HE.out, ← RES.out]
        rintro e w6 ⟨rfl, L3, t6⟩
        have T3 := Lib.hid ((T2.out.later K5.out).trans t6)
        clear t6
        go_wp2
        refine MixK.on (InS.mk ((mhH.out _).2 (⟨T3.out.at_.c.cellD 0 _ rfl, T3.out.at_.c.cellD 1 _ rfl, T3.out.at_.c.cellD 2 _ rfl, HEP.out ▸ T3.out.at_.c.cellD 4 _ rfl⟩))) ?_
        refine wpMix_seg 1 (by kernel_rfl) (by decide) ?_
        simp only [List.take_succ_cons, List.take_zero, List.drop_succ_cons, List.drop_zero]
        repeat (go_big_quiet_step (fail))
        refine wpQuiet_nil ?_
        refine wpMix_nil ?_
        clear mhk0 mhk1 mhk2 mhk3 mhn mhH
        go_wp2
        go_ret
        exact ⟨rfl, L3, T3.out⟩
      · have e2 : (x2 == 0) = false := by simpa using q2
        have LH : Hid (layH (s2, x2) k j.epoch = (s2, x2)) := if_neg q2
        rw [LH.out] at RES
        go_wp2
        go_ret
        exact ⟨by rw [RES.out]; rfl, L2, by rw [RES.out]; exact T2.out⟩
    · have q1 := g2
      have e1 : (x1 == 0) = false := by simpa using q1
      have LP : Hid (layP (s1, x1) k b = (s1, x1)) := if_neg q1
      have LH : Hid (layH (s1, x1) k j.epoch = (s1, x1)) := if_neg q1
      rw [LP.out, LH.out] at RES
      go_wp2
      go_ret
      exact ⟨by rw [RES.out]; rfl, L1, by rw [RES.out]; exact T1.out⟩
end Go.Proofs.Ytfldgaiiniknpaa
