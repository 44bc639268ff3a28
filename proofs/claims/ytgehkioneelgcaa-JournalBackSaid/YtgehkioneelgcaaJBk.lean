
/- JournalBack: records that were appended are there when the journal is opened again. -/
import Derived.Test.YtgehkioneelgcaaJBkXJlBk
import Derived.Test.YtgehkioneelgcaaJBkXJlPut
import Derived.Test.YtgehkioneelgcaaJBkXJlFits
import Derived.Test.YtgehkioneelgcaaJCuXJlArg
import Derived.Test.YtgehkioneelgcaaJBkXJlSized
import Derived.Test.YtgehkioneelgcaaJCuXFrame
import Derived.Test.YtgehkioneelgcaaJCuXInit
namespace Go.Proofs.Ytgehkioneelgcaa
open Go.RowKit Go.ChangeShapes Go.WideShapes Go.Deep

theorem LJ.keeps2 {W w w' : World} {B q jb : Nat} {X : JX} {s : FS} {j : JS} {S : Nat → Prop} (h : LJ W w B q jb X s j) (k : Keeps S w w') (h1 : ∀ b, X.S b → ¬ S b) (h2 : ∀ b, b < W.heap.size → ¬ S b) : LJ W w' B q jb X s j :=
  ⟨h.at_.keeps k h1, h.jbe, h.keeps.trans k (fun _ h => h) (fun b hb hs => absurd hs (h2 b hb)), h.le⟩
/-- What the law's loop keeps. -/
structure BL (W w : World) (B q jb : Nat) (rs : List RV) (i : Nat) (vw : Value) (X : JX) (s : FS) (l : List Rec) (ws : List RV) : Prop where
  bi : BI s i l
  lj : LJ W w B q jb X s (keptJ 1 0 l (blk (1008 - (pkL l).length)))
  ow : OwnR w W.heap.size vw ws
  ap : ∀ b, vw.ownBlock = some b → ¬ X.S b
  sub : ∀ r ∈ ws, r ∈ rs
  nm : l = numR 0 (ws.map RV.r)
  wl : ws.length ≤ i
theorem BL.next {W w w' : World} {B q jb : Nat} {rs : List RV} {i : Nat} {vw : Value} {X X' : JX} {s s' : FS} {l l' : List Rec} {ws : List RV} (h : BL W w B q jb rs i vw X s l ws) (t : JTurn w w' B q X X' s' (keptJ 1 0 l' (blk (1008 - (pkL l').length)))) :
    OwnR w' W.heap.size vw ws ∧ (∀ b, vw.ownBlock = some b → ¬ X'.S b) :=
  ⟨h.ow.keeps t.keeps h.ap, fun b hb hS => (t.o b hS).elim (h.ap b hb) (fun h2 => by have := (h.ow.block hb).2; omega)⟩
set_option maxRecDepth 100000 in
set_option maxHeartbeats 3200000 in
theorem back_any (A0 : Option Addr) (n0 c0 : Nat) (rs : List RV) (W : World) (h0 : Rws W A0 n0 c0 rs) (hb0 : Bds W (fun _ => True) rs) (hbl : ∀ r ∈ rs, r.b.length ≤ 140737488355328) :
    Calls Try.prog 4 #[.slice A0 n0 c0] W fun e W' => e = .returned (.bool true) ∧ Below W.heap.size W W' := by
  have l0 := h0.le
  have x0 := h0.max
  have H0 := Lib.hid h0
  have HB := Lib.hid hb0
  have BLN := Lib.hid hbl
  have L0 := Lib.hid h0.len
  have AL := Lib.hid (alive22_any W)
  clear h0 hb0 hbl
  go_enter Try.func4, Try.ntmps4
  go_wp2_with fail
  refine AL.out.mono ?_
  rintro e w1 ⟨rfl, k1⟩
  obtain ⟨s1, p1, p2, p3, p4, p5, p6, p7⟩ := alive22_plain
  have V0 := Lib.hid (Live.new 2 (by decide) (by decide))
  have NW := Lib.hid (lnew k1 ((2 : Nat) : Int))
  have BI0 := Lib.hid (BI.new p7)
  have OPN := Lib.hid (fun (w : World) B q L (h : LF W w B q L (newF ((2 : Nat) : Int))) => V0.out.opened h)
  have APP := Lib.hid (fun (w : World) B q jb X (h : LJ W w B q jb X (newF ((2 : Nat) : Int)) (keptJ 0 (-1) [] [])) => ljappend h V0.out 3 (A := none) (k := 0) (cap := 0) (body := []) ⟨rfl, Nat.le_refl _, by decide, (fun _ => ⟨rfl, rfl⟩), (fun z hz => by cases hz), fun h => absurd h (Nat.lt_irrefl _)⟩ (by decide))
  rw [back_first] at APP
  have CMP := Lib.hid (fun (w : World) B q jb X (h : LJ W w B q jb X (newF ((2 : Nat) : Int)) (keptJ 0 (-1) [] [])) => ljcompact h V0.out (m := 99) (A := none) (k := 0) (cap := 0) (rs := []) (P := fun _ => True) (Rws.none w) (Bds.nil _ _) (by decide) (fun r hr => by cases hr))
  rw [show ([] : List RV).map RV.r = [] from rfl, p1] at CMP
  clear p1 p2 p3 p4 p5 p6 p7 AL k1
  generalize newF ((2 : Nat) : Int) = f0 at *
  go_wp2_with fail
  refine NW.out.mono ?_
  rintro e w2 ⟨q, L, rfl, hF⟩
  have HF := Lib.hid hF
  clear hF NW
  go_wp2_with fail
  refine (OPN.out _ _ _ _ HF.out).mono ?_
  rintro e w3 ⟨X, jb, rfl, h3, -, -⟩
  have H3 := Lib.hid h3
  clear h3 HF OPN
  by_cases g1 : 40 < n0
  · have d1 : decide (40 < (n0 : Int)) = true := decide_eq_true (by omega)
    go_wp2
    go_ret
    exact ⟨rfl, H3.out.keeps.below (fun _ _ h => h)⟩
  have d1 : decide (40 < (n0 : Int)) = false := decide_eq_false (by omega)
  go_wp2_with fail
  refine (APP.out _ _ _ _ _ H3.out).mono ?_
  rintro e w4 ⟨rfl, X4, h4, -⟩
  have H4 : Hid (LJ W w4 w1.heap.size q jb X4 f0 (keptJ 0 (-1) [] [])) := h4
  clear h4 H3 APP
  go_wp2_with fail
  refine (num22_any _ _).mono ?_
  rintro e w5 ⟨rfl, rfl⟩
  go_wp2_with fail
  refine (CMP.out _ _ _ _ _ H4.out).mono ?_
  rintro e w5 ⟨rfl, X5, h5, -⟩
  have H5 : Hid (LJ W w5 w1.heap.size q jb X5 s1 (keptJ 1 0 [] (blk (1008 - (pkL []).length)))) := h5
  clear h5 H4 CMP
  go_wp2_with fail
  refine (num22_any _ _).mono ?_
  rintro e w6 ⟨rfl, rfl⟩
  obtain ⟨B, hB⟩ : ∃ x, w1.heap.size = x := ⟨_, rfl⟩
  rw [hB] at H5
  clear hB V0
  go_wp2
  clear d1
  go_loopw [6, 7] (fun vw iv wr => ∃ (i : Nat) (X : JX) (s : FS) (l : List Rec) (ws : List RV), i ≤ n0 ∧ iv = .int .i64 i ∧ BL W wr B q jb rs i vw X s l ws) (fun _ iv _ => n0 - (intOf iv).toNat)
  case atStart => exact ⟨0, X5, s1, [], [], Nat.zero_le _, rfl, ⟨BI0.out, H5.out, OwnR.nil _ _, (fun b h => by cases h), (fun r h => by cases h), rfl, Nat.le_refl _⟩⟩
  case round =>
    obtain ⟨i, X6, s5, l5, ws, hi, rfl, hl⟩ := hrel
    obtain ⟨wv, rfl⟩ : ∃ x, x = wr := ⟨_, rfl⟩
    obtain ⟨A6, c6, rfl, hw6, -⟩ := hl.ow.shape
    have WL := hl.wl
    have HW6 := Lib.hid hw6
    have HBL := Lib.hid hl
    have HJ := Lib.hid hl.lj
    have w6l := hw6.le
    have w6x := hw6.max
    have OK5 := Lib.hid hl.bi.live.keep.ok
    have ST := Lib.hid (fun (kind : Int) (body : List Int) (hb : ∀ z ∈ body, 0 ≤ z ∧ z ≤ 255) (hi : i < 40) => hl.bi.step hi (kind := kind) (body := body) hb)
    clear hl hw6 H5 BI0
    by_cases hlt : i < n0
    · have hir : i < rs.length := by rw [L0.out]; exact hlt
      obtain ⟨r, hr0⟩ : ∃ r, rs[i] = r := ⟨_, rfl⟩
      have hget : rs[i]? = some r := by rw [List.getElem?_eq_getElem hir, hr0]
      have MEM := Lib.hid (List.mem_of_getElem? hget)
      obtain ⟨gb, off, rfl, hgb, hcel⟩ := H0.out.at_ (by omega)
      obtain ⟨z0, z1, z2⟩ := hcel i r hget
      have CEL : Hid (∀ w, Keeps None W w → w.cell? ⟨gb, off + i * 3, none⟩ = some (.int .i64 r.k) ∧ w.cell? ⟨gb, off + i * 3 + 1, none⟩ = some (.int .i64 r.s) ∧ w.cell? ⟨gb, off + i * 3 + 2, none⟩ = some r.v) := fun w k => ⟨(k.cell hgb (fun h => h)).trans z0, (k.cell hgb (fun h => h)).trans z1, (k.cell hgb (fun h => h)).trans z2⟩
      have BR : Hid (∀ w, Keeps None W w → Bs w r.A r.b.length r.c r.b) := fun w k => (HB.out.bs r MEM.out).keeps k (fun _ _ _ _ _ h => h)
      have BB := Lib.hid (BLN.out r MEM.out)
      have brl := (HB.out.bs r MEM.out).le
      have brx := (HB.out.bs r MEM.out).max
      have STP := Lib.hid (ST.out r.k r.b (HB.out.bs r MEM.out).byte (by omega))
      have HRV : Hid (r.r.k = r.k ∧ r.r.b = r.b) := ⟨rfl, rfl⟩
      have PUT := Lib.hid (fun w (h : Bs w r.A r.b.length r.c r.b) => rsput_all r.k 0 r.A r.b.length r.c r.b w h)
      have PL := putL_le r.k 0 r.b
      have RMB : 0 ≤ (keptJ 1 0 l5 (blk (1008 - (pkL l5).length))).room ∧ (keptJ 1 0 l5 (blk (1008 - (pkL l5).length))).room ≤ 1008 := by
        have h1 := HBL.out.bi.pl
        rw [keptJ_room (by decide) (by omega)]
        omega
      have APP := Lib.hid (fun (w : World) X (h : LJ W w B q jb X s5 (keptJ 1 0 l5 (blk (1008 - (pkL l5).length)))) => ljappend h HBL.out.bi.live r.k (BR.out w h.keeps) BB.out)
      obtain ⟨pl, hpl⟩ : ∃ x, putL r.k 0 r.b = x := ⟨_, rfl⟩
      rw [hpl] at STP PUT PL
      obtain ⟨pn, HPN⟩ : ∃ x, Hid (pl.length = x) := ⟨_, rfl⟩
      rw [HPN.out] at STP PL
      obtain ⟨x0, x1, x2⟩ := CEL.out wv HJ.out.keeps
      unfold RV.v at CEL x2
      obtain ⟨rk, rsq, rA, rc, rb⟩ := r
      dsimp only at CEL BR BB brl brx STP HRV PUT APP x0 x1 x2
      obtain ⟨rn, HRN⟩ : ∃ x, Hid (rb.length = x) := ⟨_, rfl⟩
      rw [HRN.out] at CEL BR BB brl PUT APP x2
      clear hget hcel hr0 hir z0 z1 z2 ST hpl hgb
      generalize hrm : (keptJ 1 0 l5 (blk (1008 - (pkL l5).length))).room = rm at *
      have HRM := Lib.hid hrm
      clear hrm
      go_wp2
      obtain ⟨mS, mh⟩ : ∃ S : World → Prop, ∀ w', S w' ↔ (w'.cell? ⟨gb, off + i * 3, none⟩ = some (.int .i64 rk) ∧ w'.cell? ⟨gb, off + i * 3 + 2, none⟩ = some (.slice rA rn rc)) := ⟨_, fun _ => Iff.rfl⟩
      have mk0 : ∀ x : Memb mS, x.at_.cell? ⟨gb, off + i * 3, none⟩ = some (.int .i64 rk) := fun x => ((mh _).1 x.is).1
      have mk1 : ∀ x : Memb mS, x.at_.cell? ⟨gb, off + i * 3 + 2, none⟩ = some (.slice rA rn rc) := fun x => ((mh _).1 x.is).2
      have mn : Nonempty (Memb mS) := ⟨⟨(wv).drew, (mh _).2 ⟨x0, x2⟩⟩⟩
      have mH := Lib.hid mh
      clear mh
      refine wp_region_mix [11] (InS mS) (by kernel_rfl) (by kernel_rfl) (InS.mk ((mH.out _).2 ⟨x0, x2⟩)) ?_
      refine wpMix_seg 11 (by kernel_rfl) (by decide) ?_
      simp only [List.take_succ_cons, List.take_zero, List.drop_succ_cons, List.drop_zero]
      repeat (go_big_quiet_step (fail))
      refine wpQuiet_nil ?_
      refine wpMix_eff (by kernel_rfl) ?_
      go_wp2_with fail
      refine (PUT.out _ (BR.out _ HJ.out.drew.keeps)).mono ?_
      rintro e w6 ⟨v6, rfl, o6, k6⟩
      obtain ⟨Ap, cp, rfl, bp, -⟩ := o6.shape
      have p1 := bp.le
      have p2 := bp.max
      rw [HPN.out] at p1 ⊢
      have J6 := Lib.hid (HJ.out.drew.later k6)
      have K6 := Lib.hid ((Keeps.refl None wv).drew.trans k6 (T := None) (fun _ h => h) (fun _ _ h => h))
      clear o6 k6 bp PUT x0 x1 x2
      go_wp2
      refine MixK.on (InS.mk ((mH.out _).2 (⟨(CEL.out w6 J6.out.keeps).1, (CEL.out w6 J6.out.keeps).2.2⟩))) ?_
      refine wpMix_seg 1 (by kernel_rfl) (by decide) ?_
      simp only [List.take_succ_cons, List.take_zero, List.drop_succ_cons, List.drop_zero]
      repeat (go_big_quiet_step (fail))
      refine wpQuiet_nil ?_
      refine wpMix_nil ?_
      clear mk0 mk1 mn mH
      go_wp2_with fail
      refine (ljroom J6.out OK5.out).mono ?_
      rintro e w7 ⟨rfl, rfl⟩
      rw [HRM.out]
      obtain ⟨x0, x1, x2⟩ := CEL.out w6 J6.out.keeps
      have HBL7 : Hid (BL W w6.drew B q jb rs i (.slice A6 ws.length c6) X6 s5 l5 ws) := ⟨HBL.out.bi, J6.out.drew, (HBL.out.ow.later K6.out).later (Keeps.refl None w6).drew, HBL.out.ap, HBL.out.sub, HBL.out.nm, HBL.out.wl⟩
      clear K6
      rcases STP.out with ⟨hA, ae, bi8⟩ | ⟨hp0, hk1, hlt2, ae, bi8⟩ | ⟨s8, l8, hp0, hk1, hle2, ae, hl8, bi8, hr8⟩
      · have AE := Lib.hid ae
        have BI8 := Lib.hid bi8
        clear STP ae bi8
        -- region 12 behind the room: names 1 = the outcome's pattern
        go_wp2
        obtain ⟨m2S, m2h⟩ : ∃ S : World → Prop, ∀ w', S w' ↔ (w'.cell? ⟨gb, off + i * 3, none⟩ = some (.int .i64 rk) ∧ w'.cell? ⟨gb, off + i * 3 + 2, none⟩ = some (.slice rA rn rc)) := ⟨_, fun _ => Iff.rfl⟩
        have m2k0 : ∀ x : Memb m2S, x.at_.cell? ⟨gb, off + i * 3, none⟩ = some (.int .i64 rk) := fun x => ((m2h _).1 x.is).1
        have m2k1 : ∀ x : Memb m2S, x.at_.cell? ⟨gb, off + i * 3 + 2, none⟩ = some (.slice rA rn rc) := fun x => ((m2h _).1 x.is).2
        have m2n : Nonempty (Memb m2S) := ⟨⟨(w6).drew, (m2h _).2 ⟨x0, x2⟩⟩⟩
        have m2H := Lib.hid m2h
        clear m2h
        refine wp_region_mix [11] (InS m2S) (by kernel_rfl) (by kernel_rfl) (InS.mk ((m2H.out _).2 ⟨x0, x2⟩)) ?_
        refine wpMix_seg 11 (by kernel_rfl) (by decide) ?_
        simp only [List.take_succ_cons, List.take_zero, List.drop_succ_cons, List.drop_zero]
        repeat (go_big_quiet_step (fail))
        refine wpQuiet_nil ?_
        refine wpMix_eff (by kernel_rfl) ?_
        go_wp2_with fail
        refine (APP.out _ _ J6.out.drew).mono ?_
        rw [AE.out]
        rintro e w8 ⟨rfl, X8, h8, t8⟩
        have J8 := Lib.hid h8
        have T8 := Lib.hid t8
        simp only [] at J8
        clear h8 t8 APP x0 x1 x2
        go_wp2
        refine MixK.on (InS.mk ((m2H.out _).2 (⟨(CEL.out w8 J8.out.keeps).1, (CEL.out w8 J8.out.keeps).2.2⟩))) ?_
        refine wpMix_seg 1 (by kernel_rfl) (by decide) ?_
        simp only [List.take_succ_cons, List.take_zero, List.drop_succ_cons, List.drop_zero]
        repeat (go_big_quiet_step (fail))
        refine wpQuiet_nil ?_
        refine wpMix_nil ?_
        clear m2k0 m2k1 m2n m2H
        -- behind 1 or 14: nothing has changed
        have N8 : Hid (OwnR w8 W.heap.size (.slice A6 ws.length c6) ws ∧ ∀ b, (Value.slice A6 ws.length c6).ownBlock = some b → ¬ X8.S b) := HBL7.out.next T8.out
        have B8 : Hid (BL W w8 B q jb rs (i + 1) (.slice A6 ws.length c6) X8 s5 l5 ws) := ⟨BI8.out, J8.out, N8.out.1, N8.out.2, HBL.out.sub, HBL.out.nm, by omega⟩
        obtain ⟨x0, x1, x2⟩ := CEL.out w8 J8.out.keeps
        by_cases hp0 : pn = 0
        · subst hp0
          go_wp2_with fail
          refine (num22_any _ _).mono ?_
          rintro e w9 ⟨rfl, rfl⟩
          go_wp2
          go_roundw
          case rel => exact ⟨i + 1, _, _, _, _, by omega, by go_num, B8.out⟩
          case measure => simp [intOf]; omega
        · have dp : ((pn : Int) == 0) = false := by simp; omega
          obtain rfl : rk = 1 := hA.resolve_left hp0
          go_wp2_with fail
          refine (num22_any _ _).mono ?_
          rintro e w9 ⟨rfl, rfl⟩
          go_wp2
          go_roundw
          case rel => exact ⟨i + 1, _, _, _, _, by omega, by go_num, B8.out⟩
          case measure => simp [intOf]; omega
      · have AE := Lib.hid ae
        have BI8 := Lib.hid bi8
        clear STP ae bi8
        have dp : ((pn : Int) == 0) = false := by simp; omega
        have dk : (rk == 1) = false := by simpa using hk1
        have dr : decide (rm < (pn : Int)) = true := decide_eq_true hlt2
        -- region 12 behind the room: names 1 = the outcome's pattern
        go_wp2
        obtain ⟨m2S, m2h⟩ : ∃ S : World → Prop, ∀ w', S w' ↔ (w'.cell? ⟨gb, off + i * 3, none⟩ = some (.int .i64 rk) ∧ w'.cell? ⟨gb, off + i * 3 + 2, none⟩ = some (.slice rA rn rc)) := ⟨_, fun _ => Iff.rfl⟩
        have m2k0 : ∀ x : Memb m2S, x.at_.cell? ⟨gb, off + i * 3, none⟩ = some (.int .i64 rk) := fun x => ((m2h _).1 x.is).1
        have m2k1 : ∀ x : Memb m2S, x.at_.cell? ⟨gb, off + i * 3 + 2, none⟩ = some (.slice rA rn rc) := fun x => ((m2h _).1 x.is).2
        have m2n : Nonempty (Memb m2S) := ⟨⟨(w6).drew, (m2h _).2 ⟨x0, x2⟩⟩⟩
        have m2H := Lib.hid m2h
        clear m2h
        refine wp_region_mix [11] (InS m2S) (by kernel_rfl) (by kernel_rfl) (InS.mk ((m2H.out _).2 ⟨x0, x2⟩)) ?_
        refine wpMix_seg 11 (by kernel_rfl) (by decide) ?_
        simp only [List.take_succ_cons, List.take_zero, List.drop_succ_cons, List.drop_zero]
        repeat (go_big_quiet_step (fail))
        refine wpQuiet_nil ?_
        refine wpMix_eff (by kernel_rfl) ?_
        go_wp2_with fail
        refine (APP.out _ _ J6.out.drew).mono ?_
        rw [AE.out]
        rintro e w8 ⟨rfl, X8, h8, t8⟩
        have J8 := Lib.hid h8
        have T8 := Lib.hid t8
        simp only [] at J8
        clear h8 t8 APP x0 x1 x2
        go_wp2
        refine MixK.on (InS.mk ((m2H.out _).2 (⟨(CEL.out w8 J8.out.keeps).1, (CEL.out w8 J8.out.keeps).2.2⟩))) ?_
        refine wpMix_seg 1 (by kernel_rfl) (by decide) ?_
        simp only [List.take_succ_cons, List.take_zero, List.drop_succ_cons, List.drop_zero]
        repeat (go_big_quiet_step (fail))
        refine wpQuiet_nil ?_
        refine wpMix_nil ?_
        clear m2k0 m2k1 m2n m2H
        -- behind 1 or 14: nothing has changed
        have N8 : Hid (OwnR w8 W.heap.size (.slice A6 ws.length c6) ws ∧ ∀ b, (Value.slice A6 ws.length c6).ownBlock = some b → ¬ X8.S b) := HBL7.out.next T8.out
        have B8 : Hid (BL W w8 B q jb rs (i + 1) (.slice A6 ws.length c6) X8 s5 l5 ws) := ⟨BI8.out, J8.out, N8.out.1, N8.out.2, HBL.out.sub, HBL.out.nm, by omega⟩
        obtain ⟨x0, x1, x2⟩ := CEL.out w8 J8.out.keeps
        go_wp2_with fail
        refine (num22_any _ _).mono ?_
        rintro e w9 ⟨rfl, rfl⟩
        go_wp2_with fail
        refine (ljroom J8.out OK5.out).mono ?_
        rintro e w9 ⟨rfl, rfl⟩
        rw [HRM.out]
        have dm : (rm != rm) = false := by simp
        go_wp2
        go_roundw
        case rel => exact ⟨i + 1, _, _, _, _, by omega, by go_num, B8.out⟩
        case measure => simp [intOf]; omega
      · have AE := Lib.hid ae
        have BI8 := Lib.hid bi8
        have L8 := Lib.hid hl8
        have R8 := Lib.hid hr8
        have OK8 := Lib.hid bi8.live.keep.ok
        clear STP ae bi8 hl8 hr8
        have dp : ((pn : Int) == 0) = false := by simp; omega
        have dk : (rk == 1) = false := by simpa using hk1
        have dr : decide (rm < (pn : Int)) = false := decide_eq_false (by omega)
        -- region 12 behind the room: names 1 = the outcome's pattern
        go_wp2
        obtain ⟨m2S, m2h⟩ : ∃ S : World → Prop, ∀ w', S w' ↔ (w'.cell? ⟨gb, off + i * 3, none⟩ = some (.int .i64 rk) ∧ w'.cell? ⟨gb, off + i * 3 + 2, none⟩ = some (.slice rA rn rc)) := ⟨_, fun _ => Iff.rfl⟩
        have m2k0 : ∀ x : Memb m2S, x.at_.cell? ⟨gb, off + i * 3, none⟩ = some (.int .i64 rk) := fun x => ((m2h _).1 x.is).1
        have m2k1 : ∀ x : Memb m2S, x.at_.cell? ⟨gb, off + i * 3 + 2, none⟩ = some (.slice rA rn rc) := fun x => ((m2h _).1 x.is).2
        have m2n : Nonempty (Memb m2S) := ⟨⟨(w6).drew, (m2h _).2 ⟨x0, x2⟩⟩⟩
        have m2H := Lib.hid m2h
        clear m2h
        refine wp_region_mix [11] (InS m2S) (by kernel_rfl) (by kernel_rfl) (InS.mk ((m2H.out _).2 ⟨x0, x2⟩)) ?_
        refine wpMix_seg 11 (by kernel_rfl) (by decide) ?_
        simp only [List.take_succ_cons, List.take_zero, List.drop_succ_cons, List.drop_zero]
        repeat (go_big_quiet_step (fail))
        refine wpQuiet_nil ?_
        refine wpMix_eff (by kernel_rfl) ?_
        go_wp2_with fail
        refine (APP.out _ _ J6.out.drew).mono ?_
        rw [AE.out]
        rintro e w8 ⟨rfl, X8, h8, t8⟩
        have J8 := Lib.hid h8
        have T8 := Lib.hid t8
        simp only [] at J8
        clear h8 t8 APP x0 x1 x2
        go_wp2
        refine MixK.on (InS.mk ((m2H.out _).2 (⟨(CEL.out w8 J8.out.keeps).1, (CEL.out w8 J8.out.keeps).2.2⟩))) ?_
        refine wpMix_seg 1 (by kernel_rfl) (by decide) ?_
        simp only [List.take_succ_cons, List.take_zero, List.drop_succ_cons, List.drop_zero]
        repeat (go_big_quiet_step (fail))
        refine wpQuiet_nil ?_
        refine wpMix_nil ?_
        clear m2k0 m2k1 m2n m2H
        have N8 : Hid (OwnR w8 W.heap.size (.slice A6 ws.length c6) ws ∧ ∀ b, (Value.slice A6 ws.length c6).ownBlock = some b → ¬ X8.S b) := HBL7.out.next T8.out
        obtain ⟨x0, x1, x2⟩ := CEL.out w8 J8.out.keeps
        go_wp2_with fail
        refine (num22_any _ _).mono ?_
        rintro e w9 ⟨rfl, rfl⟩
        go_wp2_with fail
        refine (ljroom J8.out OK8.out).mono ?_
        rintro e w9 ⟨rfl, rfl⟩
        rw [R8.out]
        have dm : (rm - (pn : Int) != rm - (pn : Int)) = false := by simp
        go_wp2_with (at_builtin; refine Hid.out ?_)
        refine Lib.hid ?_
        refine wpList_append_recs (ns := [⟨rk, rsq, rA, rc, rb⟩]) (N8.out.1.later ((Keeps.refl None w8).alloc _)) (Rws.one _ (by
          show Blk _ _ [.int .i64 rk, .int .i64 rsq, .slice rA rb.length rc] _
          rw [HRN.out]
          exact Blk.new w8 [.int .i64 rk, .int .i64 rsq, .slice rA rn rc] 40)) (by omega) (Nat.le_trans J8.out.keeps.size (by simp)) rfl rfl rfl rfl rfl ?_
        intro v9 w9 o9 k9 b9
        have K9 : Hid (Keeps (fun k => (Value.slice A6 ws.length c6).ownBlock = some k) w8 w9) := ((Keeps.refl None w8).alloc _).trans k9 (fun _ h => absurd h (fun h => h)) (fun _ _ h => h)
        have J9 : Hid (LJ W w9 B q jb X8 s8 (keptJ 1 0 l8 (blk (1008 - (pkL l8).length)))) := J8.out.keeps2 K9.out (fun b hS he => N8.out.2 b he hS) (fun b hb he => by have := (N8.out.1.block he).1; omega)
        have B9 : Hid (BL W w9 B q jb rs (i + 1) v9 X8 s8 l8 (ws ++ [⟨rk, rsq, rA, rc, rb⟩])) := ⟨BI8.out, J9.out, o9, fun b hb hS => by
            rcases b9 with h | h
            · exact N8.out.2 b (h.symm.trans hb) hS
            · rw [hb] at h
              have h1 := J8.out.at_.lt b hS
              have h2 := Option.some.inj h
              simp at h2
              omega, fun r hr => by
            rcases List.mem_append.1 hr with h | h
            · exact HBL.out.sub r h
            · rw [List.mem_singleton.1 h]; exact MEM.out, by
            rw [L8.out, List.map_append]
            exact numR_own HBL.out.nm ⟨rk, rsq, rb⟩, by rw [List.length_append]; simp; omega⟩
        clear o9 k9 b9
        go_wp2
        go_roundw
        case rel => exact ⟨i + 1, _, _, _, _, by omega, by go_num, B9.out⟩
        case measure => simp [intOf]; omega
    · obtain rfl : i = n0 := by omega
      have V5 := Lib.hid HBL.out.bi.live
      have NM := Lib.hid HBL.out.nm
      have SUB := Lib.hid HBL.out.sub
      have BW : Hid (∀ w, Keeps None W w → Bds w (fun _ => True) ws) := fun w k => ⟨fun r hr => ((HB.out.later k).bs r (SUB.out r hr)), fun r hr => (HB.out.later k).p r (SUB.out r hr)⟩
      have PL5 := Lib.hid HBL.out.bi.pl
      clear ST HBL
      go_wp2_with fail
      refine (V5.out.opened HJ.out.lf).mono ?_
      rintro e wA ⟨XA, jbA, rfl, hA, hAL, kA⟩
      have JA := Lib.hid hA
      have JB := Lib.hid (HJ.out.later kA)
      have WA := Lib.hid (HW6.out.later kA)
      have OKA := Lib.hid OK5.out
      clear hA hAL kA HW6 HJ
      have JL5 : Hid ((keptJ 1 0 l5 (blk (1008 - (pkL l5).length))).l = l5) := by show _ = _; rw [keptJ_ge (by decide)]
      have JE5 : Hid (((keptJ 1 0 l5 (blk (1008 - (pkL l5).length))).epoch : Int) = 1) := by show _ = _; rw [keptJ_ge (by decide)]; rfl
      have JT5 : Hid ((keptJ 1 0 l5 (blk (1008 - (pkL l5).length))).torn = false) := keptJ_torn (by decide)
      obtain ⟨rm, HRM⟩ : ∃ x, Hid ((keptJ 1 0 l5 (blk (1008 - (pkL l5).length))).room = x) := ⟨_, rfl⟩
      obtain ⟨j5, hj5⟩ : ∃ x, keptJ 1 0 l5 (blk (1008 - (pkL l5).length)) = x := ⟨_, rfl⟩
      rw [hj5] at JA JB OKA JL5 JE5 JT5 HRM OK5
      clear hj5
      go_wp2_with fail
      refine (ljall JB.out OK5.out).mono ?_
      rw [JL5.out]
      rintro e wB ⟨AB, cB, rB, rfl, hrB, hmB, kB⟩
      have FB := Lib.hid (fits_all _ _ _ _ _ _ _ _ _ _ _ hrB.r (WA.out.later kB) hrB.bd (BW.out _ (JB.out.later kB).keeps))
      have J2 := Lib.hid (JA.out.later kB)
      have J3 := Lib.hid (JB.out.later kB)
      have W3 := Lib.hid (WA.out.later kB)
      rw [hmB, decide_eq_true NM.out] at FB
      have lB := hrB.r.le
      have xB := hrB.r.max
      clear hrB hmB kB JA JB WA
      go_wp2_with fail
      refine FB.out.mono ?_
      rintro e wC ⟨rfl, kC⟩
      have J4 := Lib.hid (J2.out.later kC)
      have J5 := Lib.hid (J3.out.later kC)
      have W5 := Lib.hid (W3.out.later kC)
      clear kC J2 J3 W3 FB
      go_wp2_with fail
      refine (ljall J4.out OKA.out).mono ?_
      rw [JL5.out]
      rintro e wD ⟨AD, cD, rD, rfl, hrD, hmD, kD⟩
      have FD := Lib.hid (fits_all _ _ _ _ _ _ _ _ _ _ _ hrD.r (W5.out.later kD) hrD.bd (BW.out _ (J4.out.later kD).keeps))
      have J6 := Lib.hid (J4.out.later kD)
      have J7 := Lib.hid (J5.out.later kD)
      rw [hmD, decide_eq_true NM.out] at FD
      have lD := hrD.r.le
      have xD := hrD.r.max
      clear hrD hmD kD J4 J5 W5
      go_wp2_with fail
      refine FD.out.mono ?_
      rintro e wE ⟨rfl, kE⟩
      have J8 := Lib.hid (J6.out.later kE)
      have J9 := Lib.hid (J7.out.later kE)
      clear kE J6 J7 FD
      go_wp2_with fail
      refine (ljepoch J8.out).mono ?_
      rintro e wF ⟨rfl, rfl⟩
      rw [JE5.out]
      go_wp2_with fail
      refine (ljtorn J8.out).mono ?_
      rintro e wF ⟨rfl, rfl⟩
      rw [JT5.out]
      go_wp2_with fail
      refine (ljroom J8.out OKA.out).mono ?_
      rintro e wF ⟨rfl, rfl⟩
      go_wp2_with fail
      refine (ljroom J9.out OK5.out).mono ?_
      rintro e wF ⟨rfl, rfl⟩
      rw [HRM.out]
      have dm : (rm == rm) = true := by simp
      go_wp2
      go_ret
      exact ⟨rfl, J9.out.keeps.below (fun _ _ h => h)⟩
set_option maxRecDepth 100000 in
theorem JournalBack_lifted (os : Os) (started : os.Started) (H : Type) (enc : TypeId × Value → H) :
    ReturnsInHanded {} Try.checked os 4 .any (Rows.journalBackSpec.pre6 enc Try.prog Try.f4 Rows.journalBackRow.domain false) (Rows.journalBackSpec.post enc Try.prog Try.f4 false true false false) := by
  refine returnsInHanded_of_change_sized (C := Try.checked) Try.own started (by kernel_rfl) Try.func4
    (ChangeSpec.witness6 (enc := enc) (C := Try.checked) false ⟨#[], #[.slice none 0 0], []⟩ 8 (by kernel_rfl) (by kernel_rfl) (by kernel_rfl) (by kernel_rfl)) ?_
  intro W base args ds gs before hval0 hW hcnd hsz0 _
  have hsz : (DataW.weightsEach Try.prog (Try.f4.params.toList ++ []) (ds ++ gs)).all (· ≤ reachBytes) = true := hsz0
  have hval : ∀ (j : Nat) t v, Try.f4.params[j]? = some t → args[j]? = some v → Value.okWide Try.prog W .any base t v := hval0
  have hW' := hW
  obtain ⟨p, q, hA0, hV, rfl, hfz, hnd⟩ := hW
  have hA : DataW.TrodAll enc Try.prog W 0 (fun _ => true) true Try.f4.params.toList args.toList ds p := hA0
  rw [Try.params4] at hA hval hsz
  obtain ⟨v0, vs0, d0, ds0, p0, q0, hargs, rfl, rfl, h0, r0⟩ := trodAll_cons hA
  obtain ⟨rfl, rfl, rfl⟩ := trodAll_nil r0
  obtain rfl : args = #[v0] := by cases args; simp_all
  obtain ⟨rfl, rfl⟩ := trodVars_none hV
  have k0 := h0
  have lt0 : ∀ x ∈ p0, x.block < W.heap.size := by obtain ⟨m, hm⟩ := k0; exact DataW.trod_lt m _ _ _ hm
  obtain ⟨a0, len0, cap0, rfl⟩ := okWide_slice Try.underlying22 (hval 0 22 v0 rfl rfl)
  obtain ⟨z0, s0, b0⟩ := open_recs h0
  have bl0 := recs_sized h0 (fun k hk => by have := List.all_eq_true.1 hsz k (DataW.weights_mem_each (j := 0) (t := 22) rfl rfl k hk); simpa using this) s0
  clear hA0 hval0 hsz0
  refine (back_any a0 len0 cap0 z0 W s0 b0 bl0).mono fun e W' ⟨he, bel⟩ => ?_
  subst he
  exact ⟨_, rfl, _, _, _, [], _, [], hW', trodAll_mk1 (shut_bool Try.underlying4 _), (trodAll_cons_mk (Below.trod Try.laidOut (by kernel_rfl) (of_decide_eq_true (by kernel_rfl)) k0 bel lt0) trodAll_mk0), rfl, bel.frame _, fun h => by cases h⟩

set_option maxRecDepth 100000 in
theorem JournalBack_closed : joinedFacts Try.checked.prog 4 Try.f4 Rows.journalBackSpec Rows.journalBackRow = true := by
  unfold joinedFacts
  rw [closed_laid, closed_maps, closed_heard, closed_plain, closed_mayEnter, closed_lifts, closed_make]
  kernel_rfl

theorem JournalBack_holds : Rows.JournalBackSaid :=
  OpenClaim.holds_of_wide 4 Try.f4 rfl rfl rfl rfl rfl rfl rfl ⟨rfl, rfl, rfl, rfl, rfl⟩ rfl rfl rfl rfl rfl (by kernel_rfl) Try.func4 JournalBack_closed
    (of_decide_eq_true (by kernel_rfl)) (by unfold Func.isWrapper; first | (rw [if_pos (by decide +kernel)]; kernel_rfl) | (rw [if_neg (by decide +kernel)]; exact ⟨rfl, rfl⟩))
    (fun os started H enc _ => JournalBack_lifted os started H enc)
#print axioms JournalBack_holds
end Go.Proofs.Ytgehkioneelgcaa
