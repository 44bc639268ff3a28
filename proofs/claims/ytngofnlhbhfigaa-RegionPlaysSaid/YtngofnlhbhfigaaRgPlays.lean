/-
  For every first sector, number of sectors and row of calls, the law RegionPlays returns true: what the calls on a region answer and the content of the flash agree with the definition. No condition.
-/
import Derived.Test.YtngofnlhbhfigaaRgDo0
import Derived.Test.YtngofnlhbhfigaaFlPlays
import Derived.Test.YtngofnlhbhfigaaActs
import Derived.Test.YtngofnlhbhfigaaInit
namespace Go.Proofs.Ytngofnlhbhfigaa
open Go.RowKit Go.ChangeShapes Go.WideShapes Go.ChangeAt Go.Deep

set_option maxRecDepth 100000 in
set_option maxHeartbeats 3200000 in
theorem plays3_any (first count : Int) (A : Option Addr) (m cap : Nat) (xs : List Value) (F : Nat → Ac) (W : World) (h : ActsAt W A m cap xs F) :
    Calls Try.prog 10 #[.int .i64 first, .int .i64 count, .slice A m cap] W fun e w' => e = .returned (.bool true) ∧ Below W.heap.size W w' := by
  have FEW := Lib.hid (fun w hk => few3_any A m cap xs F W w h hk)
  have m1 := h.sl.2.1
  have m2 := h.sl.2.2.1
  cases hfw : fewB m F with
  | false =>
    rw [hfw] at FEW
    clear hfw h
    go_enter Try.func10, Try.ntmps10
    go_wp2_with fail
    refine (alive3_any W).mono ?_
    rintro e w1 ⟨rfl, K1⟩
    go_wp2_with fail
    refine (FEW.out _ K1).mono ?_
    rintro e w' ⟨rfl, rfl⟩
    go_wp2
    go_ret
    exact ⟨rfl, K1.below (fun _ _ h => h)⟩
  | true =>
  rw [hfw] at FEW
  obtain ⟨f1a, f1b⟩ := fewB_yes hfw
  have FB := Lib.hid f1b
  clear hfw f1b
  have HAC := Lib.hid h
  have RM := Lib.hid (newF_roomK 5)
  have EL0 : Hid ((newF 5).er.length = 5) := rfl
  have NW := Lib.hid (fun w (hk : Keeps None W w) => lnew hk 5)
  have NR := Lib.hid (fun w => rfnew_any 5 w)
  have MK := Lib.hid (fun (w1 w2 w3 : World) q L Lr hf h1 hg h3 => FR.made (W := W) (w1 := w1) (w2 := w2) (w3 := w3) (q := q) (L := L) (Lr := Lr) (k := 5) hf h1 hg h3)
  unfold RMade at NR
  generalize newF 5 = f0 at *
  clear h
  go_enter Try.func10, Try.ntmps10
  go_wp2_with fail
  refine (alive3_any W).mono ?_
  rintro e w1 ⟨rfl, K1⟩
  go_wp2_with fail
  refine (FEW.out _ K1).mono ?_
  rintro e w' ⟨rfl, rfl⟩
  have HK1 := Lib.hid K1
  clear K1
  go_wp2_with fail
  refine (NW.out _ HK1.out).mono ?_
  rintro e w2 ⟨q, L, rfl, hF⟩
  have HF := Lib.hid hF
  clear hF NW
  go_wp2_with fail
  refine (NR.out _).mono ?_
  rintro e w3 ⟨Lr, rfl, hg, -, k3⟩
  have H3 := Lib.hid (MK.out w1 w2 w3 q L Lr HF.out HF.out.keeps hg k3)
  clear hg k3 HF MK NR
  generalize Lr.bf = qr at *
  generalize w1.heap.size = B0 at *
  generalize w2.heap.size = B1 at *
  have LN : Hid (Lr.n = 5) := by show _ = _; rw [← H3.out.g.el]; exact EL0.out
  cases hsb : someB first count ((5 : Nat) : Int) with
  | true =>
    have hsp := of_decide_eq_true hsb
    obtain ⟨f1, rfl⟩ : ∃ f : Nat, first = f := ⟨first.toNat, by omega⟩
    obtain ⟨c1, rfl⟩ : ∃ c : Nat, count = c := ⟨count.toNat, by omega⟩
    have hfc : f1 + c1 ≤ 5 := by omega
    clear hsp
    go_wp2_with fail
    refine (lgof H3.out.f f1 c1).mono ?_
    rw [EL0.out, ofF_yes hsb, Int.zero_add]
    rintro e w4 ⟨rfl, k4⟩
    have H4 := Lib.hid ((H3.out.later k4).alloc (.cells #[.pointer (some ⟨q, 0, none⟩), .int .i64 f1, .int .i64 c1] 27))
    have R4 := Lib.hid (Blk.new w4 [.pointer (some ⟨q, 0, none⟩), .int .i64 f1, .int .i64 c1] 27)
    have N4 : Hid (¬ L.O w4.heap.size ∧ ¬ Lr.O w4.heap.size) := ⟨fun hO => by have := (H3.out.later k4).f.at_.lt _ hO; omega, fun hO => by have := (H3.out.later k4).g.lt _ hO; omega⟩
    clear k4 H3
    go_wp2_with fail
    refine (rgof_any B1 Lr f0 qr f1 c1 _ H4.out.g H4.out.gq).mono ?_
    rw [LN.out, ofF_yes hsb, Int.zero_add]
    rintro e w5 ⟨rfl, k5⟩
    generalize w4.heap.size = rb at *
    have H6 := Lib.hid ((H4.out.later k5).alloc (.cells #[.pointer (some ⟨qr, 0, none⟩), .int .i64 f1, .int .i64 c1] 66))
    have R6 := Lib.hid ((k5.blk R4.out (fun h => h)).alloc (.cells #[.pointer (some ⟨qr, 0, none⟩), .int .i64 f1, .int .i64 c1] 66))
    have S6 := Lib.hid (Blk.new w5 [.pointer (some ⟨qr, 0, none⟩), .int .i64 f1, .int .i64 c1] 66)
    have NB : Hid (¬ L.O rb ∧ ¬ L.O w5.heap.size ∧ ¬ Lr.O rb ∧ ¬ Lr.O w5.heap.size) := ⟨N4.out.1, fun hO => by have := (H4.out.later k5).f.at_.lt _ hO; omega, N4.out.2, fun hO => by have := (H4.out.later k5).g.lt _ hO; omega⟩
    clear k5 H4 R4 N4
    go_wp2
    generalize w5.heap.size = sb at *
    generalize w5.alloc (.cells #[.pointer (some ⟨qr, 0, none⟩), .int .i64 f1, .int .i64 c1] 66) = w6 at *
    obtain ⟨mS, mh⟩ : ∃ S : World → Prop, ∀ w', S w' ↔ (w'.cell? ⟨rb, 0, none⟩ = some (.pointer (some ⟨q, 0, none⟩)) ∧ w'.cell? ⟨rb, 1, none⟩ = some (.int .i64 f1) ∧ w'.cell? ⟨rb, 2, none⟩ = some (.int .i64 c1) ∧ w'.cell? ⟨sb, 0, none⟩ = some (.pointer (some ⟨qr, 0, none⟩)) ∧ w'.cell? ⟨sb, 1, none⟩ = some (.int .i64 f1) ∧ w'.cell? ⟨sb, 2, none⟩ = some (.int .i64 c1)) := ⟨_, fun _ => Iff.rfl⟩
    have mk0 : ∀ x : Memb mS, x.at_.cell? ⟨rb, 0, none⟩ = some (.pointer (some ⟨q, 0, none⟩)) := fun x => ((mh _).1 x.is).1
    have mk1 : ∀ x : Memb mS, x.at_.cell? ⟨rb, 1, none⟩ = some (.int .i64 f1) := fun x => ((mh _).1 x.is).2.1
    have mk2 : ∀ x : Memb mS, x.at_.cell? ⟨rb, 2, none⟩ = some (.int .i64 c1) := fun x => ((mh _).1 x.is).2.2.1
    have mk3 : ∀ x : Memb mS, x.at_.cell? ⟨sb, 0, none⟩ = some (.pointer (some ⟨qr, 0, none⟩)) := fun x => ((mh _).1 x.is).2.2.2.1
    have mk4 : ∀ x : Memb mS, x.at_.cell? ⟨sb, 1, none⟩ = some (.int .i64 f1) := fun x => ((mh _).1 x.is).2.2.2.2.1
    have mk5 : ∀ x : Memb mS, x.at_.cell? ⟨sb, 2, none⟩ = some (.int .i64 c1) := fun x => ((mh _).1 x.is).2.2.2.2.2
    have mn : Nonempty (Memb mS) := ⟨⟨(w6).drew, (mh _).2 ⟨R6.out.cellD 0 _ rfl, R6.out.cellD 1 _ rfl, R6.out.cellD 2 _ rfl, S6.out.cellD 0 _ rfl, S6.out.cellD 1 _ rfl, S6.out.cellD 2 _ rfl⟩⟩⟩
    have mH := Lib.hid mh
    clear mh
    refine wp_region_mix [1, 9, 11] (InS mS) (by kernel_rfl) (by kernel_rfl) (InS.mk ((mH.out _).2 ⟨R6.out.cellD 0 _ rfl, R6.out.cellD 1 _ rfl, R6.out.cellD 2 _ rfl, S6.out.cellD 0 _ rfl, S6.out.cellD 1 _ rfl, S6.out.cellD 2 _ rfl⟩)) ?_
    refine wpMix_seg 1 (by kernel_rfl) (by decide) ?_
    simp only [List.take_succ_cons, List.take_zero, List.drop_succ_cons, List.drop_zero]
    repeat (go_big_quiet_step (fail))
    refine wpQuiet_nil ?_
    refine wpMix_eff (by kernel_rfl) ?_
    go_wp2_with fail
    refine (num3_any _ _).mono ?_
    rintro e w' ⟨rfl, rfl⟩
    go_wp2
    refine MixK.on (InS.mk ((mH.out _).2 ⟨R6.out.cellD 0 _ rfl, R6.out.cellD 1 _ rfl, R6.out.cellD 2 _ rfl, S6.out.cellD 0 _ rfl, S6.out.cellD 1 _ rfl, S6.out.cellD 2 _ rfl⟩)) ?_
    refine wpMix_seg 7 (by kernel_rfl) (by decide) ?_
    simp only [List.take_succ_cons, List.take_zero, List.drop_succ_cons, List.drop_zero]
    repeat (go_big_quiet_step (fail))
    refine wpQuiet_nil ?_
    refine wpMix_eff (by kernel_rfl) ?_
    go_wp2_with fail
    refine (gsize_any (some ⟨q, 0, none⟩) f1 c1 (by omega) _).mono ?_
    rintro e w7 ⟨rfl, k7⟩
    have H7 := Lib.hid (H6.out.drew.later k7)
    have R7 := Lib.hid (k7.blk R6.out.drew (fun h => h))
    have S7 := Lib.hid (k7.blk S6.out.drew (fun h => h))
    clear k7
    go_wp2
    refine MixK.on (InS.mk ((mH.out _).2 (⟨R7.out.cellD 0 _ rfl, R7.out.cellD 1 _ rfl, R7.out.cellD 2 _ rfl, S7.out.cellD 0 _ rfl, S7.out.cellD 1 _ rfl, S7.out.cellD 2 _ rfl⟩))) ?_
    refine wpMix_seg 1 (by kernel_rfl) (by decide) ?_
    simp only [List.take_succ_cons, List.take_zero, List.drop_succ_cons, List.drop_zero]
    repeat (go_big_quiet_step (fail))
    refine wpQuiet_nil ?_
    refine wpMix_eff (by kernel_rfl) ?_
    go_wp2_with fail
    refine (rgsize_any (some ⟨qr, 0, none⟩) f1 c1 (by omega) _).mono ?_
    rintro e w8 ⟨rfl, k8⟩
    have H8 := Lib.hid (H7.out.later k8)
    have R8 := Lib.hid (k8.blk R7.out (fun h => h))
    have S8 := Lib.hid (k8.blk S7.out (fun h => h))
    clear k8
    go_wp2
    refine MixK.on (InS.mk ((mH.out _).2 (⟨R8.out.cellD 0 _ rfl, R8.out.cellD 1 _ rfl, R8.out.cellD 2 _ rfl, S8.out.cellD 0 _ rfl, S8.out.cellD 1 _ rfl, S8.out.cellD 2 _ rfl⟩))) ?_
    refine wpMix_seg 3 (by kernel_rfl) (by decide) ?_
    simp only [List.take_succ_cons, List.take_zero, List.drop_succ_cons, List.drop_zero]
    repeat (go_big_quiet_step (fail))
    refine wpQuiet_nil ?_
    refine wpMix_nil ?_
    clear mk0 mk1 mk2 mk3 mk4 mk5 mn mH
    clear H7 R7 S7 R6 S6
    have H7 := H8
    have R7 := R8
    have S7 := S8
    clear H8 R8 S8
    -- (some ⟨q, 0, none⟩) pointer, (some ⟨qr, 0, none⟩) the reference's pointer, f1 first, c1 count, do3_any hw HS.out ((m - (j + 1)) * 1101) (HR.out.less (by omega)) f1 c1 (by rw [HE.out]; exact hfc) (F j).k (F j).a (F j).n (F j).A (F j).l (F j).c (F j).zs (HAC.out.at_ j hlt).b (FB.out j hlt) (HAC.out.at_ j hlt).nb the contract of do
    clear H6
    go_wp2
    go_loopw [14] (fun iv wr => ∃ (j : Nat) (s : FS) (L : FL) (r : FS) (Lr : RL), j ≤ m ∧ iv = .int .i64 j ∧ FR W wr B0 q L s B1 qr Lr r ∧ Sim s r ∧ Room s ((m - j) * 1101) ∧ s.er.length = 5 ∧ Blk wr rb [.pointer (some ⟨q, 0, none⟩), .int .i64 f1, .int .i64 c1] 27 ∧ Blk wr sb [.pointer (some ⟨qr, 0, none⟩), .int .i64 f1, .int .i64 c1] 66 ∧ ¬ L.O rb ∧ ¬ L.O sb ∧ ¬ Lr.O rb ∧ ¬ Lr.O sb) (fun iv _ => m - (intOf iv).toNat)
    case atStart => exact ⟨0, f0, L, f0, Lr, Nat.zero_le _, rfl, H7.out, Sim.self f0, RM.out.less (by omega), EL0.out, R7.out, S7.out, NB.out⟩
    case round =>
      obtain ⟨j, s, L, r, Lr, hj, rfl, hF, hS, hR, hE, hRb, hSb, hN⟩ := hrel
      have HF := Lib.hid hF
      have HS := Lib.hid hS
      have HR := Lib.hid hR
      have HE := Lib.hid hE
      have RB := Lib.hid hRb
      have SB := Lib.hid hSb
      have HNB := Lib.hid hN
      clear hF hS hR hE hRb hSb hN H7 RM R7 S7 NB EL0
      by_cases hlt : j < m
      · obtain ⟨b, off, rfl, y0, y1, y2, y3, -⟩ := HAC.out.cells HF.out.keeps hlt
        have DO := Lib.hid (fun w' (hw : FR W w' B0 q L s B1 qr Lr r) => do3_any hw HS.out ((m - (j + 1)) * 1101) (HR.out.less (by omega)) f1 c1 (by rw [HE.out]; exact hfc) (F j).k (F j).a (F j).n (F j).A (F j).l (F j).c (F j).zs (HAC.out.at_ j hlt).b (FB.out j hlt) (HAC.out.at_ j hlt).nb)
        rw [HE.out] at DO
        generalize (F j).k = fk at *
        generalize (F j).a = fa at *
        generalize (F j).n = fn at *
        generalize (F j).A = fA at *
        generalize (F j).l = fl at *
        generalize (F j).c = fc at *
        obtain ⟨wv, rfl⟩ : ∃ x, x = wr := ⟨_, rfl⟩
        go_wp2
        obtain ⟨m2S, m2h⟩ : ∃ S : World → Prop, ∀ w', S w' ↔ (w'.cell? ⟨rb, 0, none⟩ = some (.pointer (some ⟨q, 0, none⟩)) ∧ w'.cell? ⟨rb, 1, none⟩ = some (.int .i64 f1) ∧ w'.cell? ⟨rb, 2, none⟩ = some (.int .i64 c1) ∧ w'.cell? ⟨sb, 0, none⟩ = some (.pointer (some ⟨qr, 0, none⟩)) ∧ w'.cell? ⟨sb, 1, none⟩ = some (.int .i64 f1) ∧ w'.cell? ⟨sb, 2, none⟩ = some (.int .i64 c1)) := ⟨_, fun _ => Iff.rfl⟩
        have m2k0 : ∀ x : Memb m2S, x.at_.cell? ⟨rb, 0, none⟩ = some (.pointer (some ⟨q, 0, none⟩)) := fun x => ((m2h _).1 x.is).1
        have m2k1 : ∀ x : Memb m2S, x.at_.cell? ⟨rb, 1, none⟩ = some (.int .i64 f1) := fun x => ((m2h _).1 x.is).2.1
        have m2k2 : ∀ x : Memb m2S, x.at_.cell? ⟨rb, 2, none⟩ = some (.int .i64 c1) := fun x => ((m2h _).1 x.is).2.2.1
        have m2k3 : ∀ x : Memb m2S, x.at_.cell? ⟨sb, 0, none⟩ = some (.pointer (some ⟨qr, 0, none⟩)) := fun x => ((m2h _).1 x.is).2.2.2.1
        have m2k4 : ∀ x : Memb m2S, x.at_.cell? ⟨sb, 1, none⟩ = some (.int .i64 f1) := fun x => ((m2h _).1 x.is).2.2.2.2.1
        have m2k5 : ∀ x : Memb m2S, x.at_.cell? ⟨sb, 2, none⟩ = some (.int .i64 c1) := fun x => ((m2h _).1 x.is).2.2.2.2.2
        have m2n : Nonempty (Memb m2S) := ⟨⟨(wv).drew, (m2h _).2 ⟨RB.out.cellD 0 _ rfl, RB.out.cellD 1 _ rfl, RB.out.cellD 2 _ rfl, SB.out.cellD 0 _ rfl, SB.out.cellD 1 _ rfl, SB.out.cellD 2 _ rfl⟩⟩⟩
        have m2H := Lib.hid m2h
        clear m2h
        refine wp_region_mix [7, 8] (InS m2S) (by kernel_rfl) (by kernel_rfl) (InS.mk ((m2H.out _).2 ⟨RB.out.cellD 0 _ rfl, RB.out.cellD 1 _ rfl, RB.out.cellD 2 _ rfl, SB.out.cellD 0 _ rfl, SB.out.cellD 1 _ rfl, SB.out.cellD 2 _ rfl⟩)) ?_
        refine wpMix_seg 7 (by kernel_rfl) (by decide) ?_
        simp only [List.take_succ_cons, List.take_zero, List.drop_succ_cons, List.drop_zero]
        repeat (go_big_quiet_step (fail))
        refine wpQuiet_nil ?_
        refine wpMix_eff (by kernel_rfl) ?_
        go_wp2
        refine MixK.on (InS.mk ((m2H.out _).2 ⟨RB.out.cellD 0 _ rfl, RB.out.cellD 1 _ rfl, RB.out.cellD 2 _ rfl, SB.out.cellD 0 _ rfl, SB.out.cellD 1 _ rfl, SB.out.cellD 2 _ rfl⟩)) ?_
        refine wpMix_eff (by kernel_rfl) ?_
        go_wp2_with fail
        refine (DO.out _ HF.out.drew).mono ?_
        rintro e w4 ⟨rfl, L4, s4, Lr4, r4, h4, i4, rm4, el4, lk4⟩
        have H4 := Lib.hid h4
        have S4 := Lib.hid i4
        have R4 := Lib.hid rm4
        have E4 := Lib.hid el4
        have RB4 := Lib.hid (lk4.keeps.blk RB.out.drew (fun h => h.elim HNB.out.1 HNB.out.2.2.1))
        have SB4 := Lib.hid (lk4.keeps.blk SB.out.drew (fun h => h.elim HNB.out.2.1 HNB.out.2.2.2))
        have NB4 : Hid (¬ L4.O rb ∧ ¬ L4.O sb ∧ ¬ Lr4.O rb ∧ ¬ Lr4.O sb) := ⟨fun hO => (lk4.o rb hO).elim HNB.out.1 (fun h => by have := RB.out.drew.lt; omega), fun hO => (lk4.o sb hO).elim HNB.out.2.1 (fun h => by have := SB.out.drew.lt; omega), fun hO => (lk4.p rb hO).elim HNB.out.2.2.1 (fun h => by have := RB.out.drew.lt; omega), fun hO => (lk4.p sb hO).elim HNB.out.2.2.2 (fun h => by have := SB.out.drew.lt; omega)⟩
        clear h4 i4 rm4 el4 lk4
        go_wp2
        refine MixK.on (InS.mk ((m2H.out _).2 (⟨RB4.out.cellD 0 _ rfl, RB4.out.cellD 1 _ rfl, RB4.out.cellD 2 _ rfl, SB4.out.cellD 0 _ rfl, SB4.out.cellD 1 _ rfl, SB4.out.cellD 2 _ rfl⟩))) ?_
        refine wpMix_seg 1 (by kernel_rfl) (by decide) ?_
        simp only [List.take_succ_cons, List.take_zero, List.drop_succ_cons, List.drop_zero]
        repeat (go_big_quiet_step (fail))
        refine wpQuiet_nil ?_
        refine wpMix_nil ?_
        clear m2k0 m2k1 m2k2 m2k3 m2k4 m2k5 m2n m2H
        go_wp2
        go_roundw
        case rel => exact ⟨j + 1, s4, L4, r4, Lr4, hlt, by go_num, H4.out, S4.out, R4.out, E4.out, RB4.out, SB4.out, NB4.out⟩
        case measure => simp [intOf]; omega
      · obtain rfl : j = m := by omega
        obtain ⟨cb, BB⟩ := HF.out.bb HS.out
        have dk := HF.out.dk HS.out
        obtain ⟨N, hN⟩ : ∃ N, s.b.length = N := ⟨_, rfl⟩
        have hpk : s.peekF 0 N = s.b := by
          have := peek_eq (s := s) (a := 0) (n := N) (X := s.b) (by omega) hN (fun i _ => by rw [Nat.zero_add])
          exact this
        have PK := Lib.hid (fun w' (h' : FR W w' B0 q L s B1 qr Lr r) => lpeek h'.f 0 N)
        rw [hpk] at PK
        have SZ := Lib.hid (fun w' (h' : FR W w' B0 q L s B1 qr Lr r) => lsize h'.f)
        rw [hN] at SZ cb BB
        have HBB := Lib.hid BB
        have HCB := Lib.hid (fun w' (h' : FR W w' B0 q L s B1 qr Lr r) => (h'.bb HS.out))
        rw [hN] at HCB
        have HDK := Lib.hid (fun w' (h' : FR W w' B0 q L s B1 qr Lr r) => (h'.dk HS.out))
        have OF := Lib.hid (fun w' (h' : FR W w' B0 q L s B1 qr Lr r) => loff h'.f)
        have HNN := Lib.hid hN
        obtain ⟨d, hd⟩ : ∃ d, s.dark = d := ⟨_, rfl⟩
        rw [hd] at dk HDK OF
        have qd : (d == d) = true := by simp
        obtain ⟨sz, hsz⟩ : ∃ sz, strOf s.b = sz := ⟨_, rfl⟩
        have HSZ := Lib.hid hsz
        have qz : (sz.toList == sz.toList) = true := by simp
        generalize Lr.gb = gb at *
        generalize Lr.capb = capb at *
        clear hpk hN hsz BB hd RB SB HNB
        obtain ⟨wv, rfl⟩ : ∃ x, x = wr := ⟨_, rfl⟩
        go_wp2
        obtain ⟨m3S, m3h⟩ : ∃ S : World → Prop, ∀ w', S w' ↔ (w'.cell? ⟨qr, 0, none⟩ = some (.slice (some ⟨gb, 0, none⟩) N capb) ∧ w'.cell? ⟨qr, 5, none⟩ = some (.bool d) ∧ ((convert 22 9 (.slice (some ⟨gb, 0, none⟩) N capb)).run Try.prog w' = .ok (.string sz) w')) := ⟨_, fun _ => Iff.rfl⟩
        have m3k0 : ∀ x : Memb m3S, x.at_.cell? ⟨qr, 0, none⟩ = some (.slice (some ⟨gb, 0, none⟩) N capb) := fun x => ((m3h _).1 x.is).1
        have m3k1 : ∀ x : Memb m3S, x.at_.cell? ⟨qr, 5, none⟩ = some (.bool d) := fun x => ((m3h _).1 x.is).2.1
        have m3k2 : ∀ x : Memb m3S, (convert 22 9 (.slice (some ⟨gb, 0, none⟩) N capb)).run Try.prog x.at_ = .ok (.string sz) x.at_ := fun x => ((m3h _).1 x.is).2.2
        have m3n : Nonempty (Memb m3S) := ⟨⟨(wv).drew, (m3h _).2 ⟨cb, dk, (HSZ.out ▸ run_str HBB.out.drew)⟩⟩⟩
        have m3H := Lib.hid m3h
        clear m3h
        refine wp_region_mix [2, 3, 4, 13] (InS m3S) (by kernel_rfl) (by kernel_rfl) (InS.mk ((m3H.out _).2 ⟨cb, dk, (HSZ.out ▸ run_str HBB.out.drew)⟩)) ?_
        refine wpMix_seg 2 (by kernel_rfl) (by decide) ?_
        simp only [List.take_succ_cons, List.take_zero, List.drop_succ_cons, List.drop_zero]
        repeat (first | go_big_quiet_step (fail) | (go_big_quiet_want; first | refine quiet_conv m3k2 rfl rfl rfl (by simp only [Act.put, List.setIfInBounds_toArray, List.set_cons_succ, List.set_cons_zero]; rfl) ?_; go_big_quiet_on))
        refine wpQuiet_nil ?_
        refine wpMix_eff (by kernel_rfl) ?_
        go_wp2_with fail
        refine (SZ.out _ HF.out.drew).mono ?_
        rintro e w' ⟨rfl, rfl⟩
        go_wp2
        refine MixK.on (InS.mk ((m3H.out _).2 ⟨cb, dk, (HSZ.out ▸ run_str HBB.out.drew)⟩)) ?_
        refine wpMix_eff (by kernel_rfl) ?_
        go_wp2_with fail
        refine (PK.out _ HF.out.drew).mono ?_
        rintro e w8 ⟨v8, rfl, o8, k8⟩
        obtain ⟨A8, c8, rfl, b8⟩ := slice_of_own o8
        rw [HNN.out] at b8 ⊢
        have H8 := Lib.hid (HF.out.drew.later k8)
        have B8 := Lib.hid (HBB.out.drew.keeps k8 (fun _ _ _ _ _ h => h))
        have C8 := Lib.hid (HCB.out w8 H8.out).1
        have D8 := Lib.hid (HDK.out w8 H8.out)
        have sd := run_str b8
        rw [HSZ.out] at sd
        clear o8 b8 k8
        go_wp2
        refine MixK.on (InS.mk ((m3H.out _).2 (⟨C8.out, D8.out, HSZ.out ▸ run_str B8.out⟩))) ?_
        refine wpMix_eff (by kernel_rfl) ?_
        go_wp2
        refine MixK.on (InS.mk ((m3H.out _).2 (⟨C8.out, D8.out, HSZ.out ▸ run_str B8.out⟩))) ?_
        refine wpMix_seg 8 (by kernel_rfl) (by decide) ?_
        simp only [List.take_succ_cons, List.take_zero, List.drop_succ_cons, List.drop_zero]
        repeat (first | go_big_quiet_step (fail) | (go_big_quiet_want; first | refine quiet_conv m3k2 rfl rfl rfl (by simp only [Act.put, List.setIfInBounds_toArray, List.set_cons_succ, List.set_cons_zero]; rfl) ?_; go_big_quiet_on))
        refine wpQuiet_nil ?_
        refine wpMix_eff (by kernel_rfl) ?_
        go_wp2_with fail
        refine (OF.out _ H8.out).mono ?_
        rintro e w' ⟨rfl, rfl⟩
        go_wp2
        refine MixK.on (InS.mk ((m3H.out _).2 (⟨C8.out, D8.out, HSZ.out ▸ run_str B8.out⟩))) ?_
        refine wpMix_seg 7 (by kernel_rfl) (by decide) ?_
        simp only [List.take_succ_cons, List.take_zero, List.drop_succ_cons, List.drop_zero]
        repeat (first | go_big_quiet_step (fail) | (go_big_quiet_want; first | refine quiet_conv m3k2 rfl rfl rfl (by simp only [Act.put, List.setIfInBounds_toArray, List.set_cons_succ, List.set_cons_zero]; rfl) ?_; go_big_quiet_on))
        refine wpQuiet_nil ?_
        refine wpMix_nil ?_
        clear m3k0 m3k1 m3k2 m3n m3H
        go_wp2
        go_ret
        exact ⟨by first | rfl | simp, H8.out.keeps.below (fun _ _ h => h)⟩
  | false =>
    go_wp2_with fail
    refine (lgof H3.out.f first count).mono ?_
    rw [EL0.out, ofF_no hsb]
    unfold rg0
    rintro e w4 ⟨rfl, k4⟩
    have H4 := Lib.hid ((H3.out.later k4).alloc (.cells #[.pointer none, .int .i64 0, .int .i64 0] 27))
    have R4 := Lib.hid (Blk.new w4 [.pointer none, .int .i64 0, .int .i64 0] 27)
    have N4 : Hid (¬ L.O w4.heap.size ∧ ¬ Lr.O w4.heap.size) := ⟨fun hO => by have := (H3.out.later k4).f.at_.lt _ hO; omega, fun hO => by have := (H3.out.later k4).g.lt _ hO; omega⟩
    clear k4 H3
    go_wp2_with fail
    refine (rgof_any B1 Lr f0 qr first count _ H4.out.g H4.out.gq).mono ?_
    rw [LN.out, ofF_no hsb]
    unfold rg0
    rintro e w5 ⟨rfl, k5⟩
    generalize w4.heap.size = rb at *
    have H6 := Lib.hid ((H4.out.later k5).alloc (.cells #[.pointer none, .int .i64 0, .int .i64 0] 66))
    have R6 := Lib.hid ((k5.blk R4.out (fun h => h)).alloc (.cells #[.pointer none, .int .i64 0, .int .i64 0] 66))
    have S6 := Lib.hid (Blk.new w5 [.pointer none, .int .i64 0, .int .i64 0] 66)
    have NB : Hid (¬ L.O rb ∧ ¬ L.O w5.heap.size ∧ ¬ Lr.O rb ∧ ¬ Lr.O w5.heap.size) := ⟨N4.out.1, fun hO => by have := (H4.out.later k5).f.at_.lt _ hO; omega, N4.out.2, fun hO => by have := (H4.out.later k5).g.lt _ hO; omega⟩
    clear k5 H4 R4 N4
    go_wp2
    generalize w5.heap.size = sb at *
    generalize w5.alloc (.cells #[.pointer none, .int .i64 0, .int .i64 0] 66) = w6 at *
    obtain ⟨mS, mh⟩ : ∃ S : World → Prop, ∀ w', S w' ↔ (w'.cell? ⟨rb, 0, none⟩ = some (.pointer none) ∧ w'.cell? ⟨rb, 1, none⟩ = some (.int .i64 0) ∧ w'.cell? ⟨rb, 2, none⟩ = some (.int .i64 0) ∧ w'.cell? ⟨sb, 0, none⟩ = some (.pointer none) ∧ w'.cell? ⟨sb, 1, none⟩ = some (.int .i64 0) ∧ w'.cell? ⟨sb, 2, none⟩ = some (.int .i64 0)) := ⟨_, fun _ => Iff.rfl⟩
    have mk0 : ∀ x : Memb mS, x.at_.cell? ⟨rb, 0, none⟩ = some (.pointer none) := fun x => ((mh _).1 x.is).1
    have mk1 : ∀ x : Memb mS, x.at_.cell? ⟨rb, 1, none⟩ = some (.int .i64 0) := fun x => ((mh _).1 x.is).2.1
    have mk2 : ∀ x : Memb mS, x.at_.cell? ⟨rb, 2, none⟩ = some (.int .i64 0) := fun x => ((mh _).1 x.is).2.2.1
    have mk3 : ∀ x : Memb mS, x.at_.cell? ⟨sb, 0, none⟩ = some (.pointer none) := fun x => ((mh _).1 x.is).2.2.2.1
    have mk4 : ∀ x : Memb mS, x.at_.cell? ⟨sb, 1, none⟩ = some (.int .i64 0) := fun x => ((mh _).1 x.is).2.2.2.2.1
    have mk5 : ∀ x : Memb mS, x.at_.cell? ⟨sb, 2, none⟩ = some (.int .i64 0) := fun x => ((mh _).1 x.is).2.2.2.2.2
    have mn : Nonempty (Memb mS) := ⟨⟨(w6).drew, (mh _).2 ⟨R6.out.cellD 0 _ rfl, R6.out.cellD 1 _ rfl, R6.out.cellD 2 _ rfl, S6.out.cellD 0 _ rfl, S6.out.cellD 1 _ rfl, S6.out.cellD 2 _ rfl⟩⟩⟩
    have mH := Lib.hid mh
    clear mh
    refine wp_region_mix [1, 9, 11] (InS mS) (by kernel_rfl) (by kernel_rfl) (InS.mk ((mH.out _).2 ⟨R6.out.cellD 0 _ rfl, R6.out.cellD 1 _ rfl, R6.out.cellD 2 _ rfl, S6.out.cellD 0 _ rfl, S6.out.cellD 1 _ rfl, S6.out.cellD 2 _ rfl⟩)) ?_
    refine wpMix_seg 1 (by kernel_rfl) (by decide) ?_
    simp only [List.take_succ_cons, List.take_zero, List.drop_succ_cons, List.drop_zero]
    repeat (go_big_quiet_step (fail))
    refine wpQuiet_nil ?_
    refine wpMix_eff (by kernel_rfl) ?_
    go_wp2_with fail
    refine (num3_any _ _).mono ?_
    rintro e w' ⟨rfl, rfl⟩
    go_wp2
    refine MixK.on (InS.mk ((mH.out _).2 ⟨R6.out.cellD 0 _ rfl, R6.out.cellD 1 _ rfl, R6.out.cellD 2 _ rfl, S6.out.cellD 0 _ rfl, S6.out.cellD 1 _ rfl, S6.out.cellD 2 _ rfl⟩)) ?_
    refine wpMix_seg 7 (by kernel_rfl) (by decide) ?_
    simp only [List.take_succ_cons, List.take_zero, List.drop_succ_cons, List.drop_zero]
    repeat (go_big_quiet_step (fail))
    refine wpQuiet_nil ?_
    refine wpMix_eff (by kernel_rfl) ?_
    go_wp2
    refine MixK.on (InS.mk ((mH.out _).2 ⟨R6.out.cellD 0 _ rfl, R6.out.cellD 1 _ rfl, R6.out.cellD 2 _ rfl, S6.out.cellD 0 _ rfl, S6.out.cellD 1 _ rfl, S6.out.cellD 2 _ rfl⟩)) ?_
    refine wpMix_seg 1 (by kernel_rfl) (by decide) ?_
    simp only [List.take_succ_cons, List.take_zero, List.drop_succ_cons, List.drop_zero]
    repeat (go_big_quiet_step (fail))
    refine wpQuiet_nil ?_
    refine wpMix_eff (by kernel_rfl) ?_
    go_wp2
    refine MixK.on (InS.mk ((mH.out _).2 ⟨R6.out.cellD 0 _ rfl, R6.out.cellD 1 _ rfl, R6.out.cellD 2 _ rfl, S6.out.cellD 0 _ rfl, S6.out.cellD 1 _ rfl, S6.out.cellD 2 _ rfl⟩)) ?_
    refine wpMix_seg 3 (by kernel_rfl) (by decide) ?_
    simp only [List.take_succ_cons, List.take_zero, List.drop_succ_cons, List.drop_zero]
    repeat (go_big_quiet_step (fail))
    refine wpQuiet_nil ?_
    refine wpMix_nil ?_
    clear mk0 mk1 mk2 mk3 mk4 mk5 mn mH
    have H7 := Lib.hid H6.out.drew
    have R7 := Lib.hid R6.out.drew
    have S7 := Lib.hid S6.out.drew
    clear R6 S6
    -- none pointer, none the reference's pointer, 0 first, 0 count, do3none_any hw HS.out ((m - (j + 1)) * 1101) (HR.out.less (by omega)) (F j).k (F j).a (F j).n (F j).A (F j).l (F j).c (F j).zs (HAC.out.at_ j hlt).b (FB.out j hlt) (HAC.out.at_ j hlt).nb the contract of do
    clear H6
    go_wp2
    go_loopw [14] (fun iv wr => ∃ (j : Nat) (s : FS) (L : FL) (r : FS) (Lr : RL), j ≤ m ∧ iv = .int .i64 j ∧ FR W wr B0 q L s B1 qr Lr r ∧ Sim s r ∧ Room s ((m - j) * 1101) ∧ s.er.length = 5 ∧ Blk wr rb [.pointer none, .int .i64 0, .int .i64 0] 27 ∧ Blk wr sb [.pointer none, .int .i64 0, .int .i64 0] 66 ∧ ¬ L.O rb ∧ ¬ L.O sb ∧ ¬ Lr.O rb ∧ ¬ Lr.O sb) (fun iv _ => m - (intOf iv).toNat)
    case atStart => exact ⟨0, f0, L, f0, Lr, Nat.zero_le _, rfl, H7.out, Sim.self f0, RM.out.less (by omega), EL0.out, R7.out, S7.out, NB.out⟩
    case round =>
      obtain ⟨j, s, L, r, Lr, hj, rfl, hF, hS, hR, hE, hRb, hSb, hN⟩ := hrel
      have HF := Lib.hid hF
      have HS := Lib.hid hS
      have HR := Lib.hid hR
      have HE := Lib.hid hE
      have RB := Lib.hid hRb
      have SB := Lib.hid hSb
      have HNB := Lib.hid hN
      clear hF hS hR hE hRb hSb hN H7 RM R7 S7 NB EL0
      by_cases hlt : j < m
      · obtain ⟨b, off, rfl, y0, y1, y2, y3, -⟩ := HAC.out.cells HF.out.keeps hlt
        have DO := Lib.hid (fun w' (hw : FR W w' B0 q L s B1 qr Lr r) => do3none_any hw HS.out ((m - (j + 1)) * 1101) (HR.out.less (by omega)) (F j).k (F j).a (F j).n (F j).A (F j).l (F j).c (F j).zs (HAC.out.at_ j hlt).b (FB.out j hlt) (HAC.out.at_ j hlt).nb)
        rw [HE.out] at DO
        generalize (F j).k = fk at *
        generalize (F j).a = fa at *
        generalize (F j).n = fn at *
        generalize (F j).A = fA at *
        generalize (F j).l = fl at *
        generalize (F j).c = fc at *
        obtain ⟨wv, rfl⟩ : ∃ x, x = wr := ⟨_, rfl⟩
        go_wp2
        obtain ⟨m2S, m2h⟩ : ∃ S : World → Prop, ∀ w', S w' ↔ (w'.cell? ⟨rb, 0, none⟩ = some (.pointer none) ∧ w'.cell? ⟨rb, 1, none⟩ = some (.int .i64 0) ∧ w'.cell? ⟨rb, 2, none⟩ = some (.int .i64 0) ∧ w'.cell? ⟨sb, 0, none⟩ = some (.pointer none) ∧ w'.cell? ⟨sb, 1, none⟩ = some (.int .i64 0) ∧ w'.cell? ⟨sb, 2, none⟩ = some (.int .i64 0)) := ⟨_, fun _ => Iff.rfl⟩
        have m2k0 : ∀ x : Memb m2S, x.at_.cell? ⟨rb, 0, none⟩ = some (.pointer none) := fun x => ((m2h _).1 x.is).1
        have m2k1 : ∀ x : Memb m2S, x.at_.cell? ⟨rb, 1, none⟩ = some (.int .i64 0) := fun x => ((m2h _).1 x.is).2.1
        have m2k2 : ∀ x : Memb m2S, x.at_.cell? ⟨rb, 2, none⟩ = some (.int .i64 0) := fun x => ((m2h _).1 x.is).2.2.1
        have m2k3 : ∀ x : Memb m2S, x.at_.cell? ⟨sb, 0, none⟩ = some (.pointer none) := fun x => ((m2h _).1 x.is).2.2.2.1
        have m2k4 : ∀ x : Memb m2S, x.at_.cell? ⟨sb, 1, none⟩ = some (.int .i64 0) := fun x => ((m2h _).1 x.is).2.2.2.2.1
        have m2k5 : ∀ x : Memb m2S, x.at_.cell? ⟨sb, 2, none⟩ = some (.int .i64 0) := fun x => ((m2h _).1 x.is).2.2.2.2.2
        have m2n : Nonempty (Memb m2S) := ⟨⟨(wv).drew, (m2h _).2 ⟨RB.out.cellD 0 _ rfl, RB.out.cellD 1 _ rfl, RB.out.cellD 2 _ rfl, SB.out.cellD 0 _ rfl, SB.out.cellD 1 _ rfl, SB.out.cellD 2 _ rfl⟩⟩⟩
        have m2H := Lib.hid m2h
        clear m2h
        refine wp_region_mix [7, 8] (InS m2S) (by kernel_rfl) (by kernel_rfl) (InS.mk ((m2H.out _).2 ⟨RB.out.cellD 0 _ rfl, RB.out.cellD 1 _ rfl, RB.out.cellD 2 _ rfl, SB.out.cellD 0 _ rfl, SB.out.cellD 1 _ rfl, SB.out.cellD 2 _ rfl⟩)) ?_
        refine wpMix_seg 7 (by kernel_rfl) (by decide) ?_
        simp only [List.take_succ_cons, List.take_zero, List.drop_succ_cons, List.drop_zero]
        repeat (go_big_quiet_step (fail))
        refine wpQuiet_nil ?_
        refine wpMix_eff (by kernel_rfl) ?_
        go_wp2
        refine MixK.on (InS.mk ((m2H.out _).2 ⟨RB.out.cellD 0 _ rfl, RB.out.cellD 1 _ rfl, RB.out.cellD 2 _ rfl, SB.out.cellD 0 _ rfl, SB.out.cellD 1 _ rfl, SB.out.cellD 2 _ rfl⟩)) ?_
        refine wpMix_eff (by kernel_rfl) ?_
        go_wp2_with fail
        refine (DO.out _ HF.out.drew).mono ?_
        rintro e w4 ⟨rfl, L4, s4, Lr4, r4, h4, i4, rm4, el4, lk4⟩
        have H4 := Lib.hid h4
        have S4 := Lib.hid i4
        have R4 := Lib.hid rm4
        have E4 := Lib.hid el4
        have RB4 := Lib.hid (lk4.keeps.blk RB.out.drew (fun h => h.elim HNB.out.1 HNB.out.2.2.1))
        have SB4 := Lib.hid (lk4.keeps.blk SB.out.drew (fun h => h.elim HNB.out.2.1 HNB.out.2.2.2))
        have NB4 : Hid (¬ L4.O rb ∧ ¬ L4.O sb ∧ ¬ Lr4.O rb ∧ ¬ Lr4.O sb) := ⟨fun hO => (lk4.o rb hO).elim HNB.out.1 (fun h => by have := RB.out.drew.lt; omega), fun hO => (lk4.o sb hO).elim HNB.out.2.1 (fun h => by have := SB.out.drew.lt; omega), fun hO => (lk4.p rb hO).elim HNB.out.2.2.1 (fun h => by have := RB.out.drew.lt; omega), fun hO => (lk4.p sb hO).elim HNB.out.2.2.2 (fun h => by have := SB.out.drew.lt; omega)⟩
        clear h4 i4 rm4 el4 lk4
        go_wp2
        refine MixK.on (InS.mk ((m2H.out _).2 (⟨RB4.out.cellD 0 _ rfl, RB4.out.cellD 1 _ rfl, RB4.out.cellD 2 _ rfl, SB4.out.cellD 0 _ rfl, SB4.out.cellD 1 _ rfl, SB4.out.cellD 2 _ rfl⟩))) ?_
        refine wpMix_seg 1 (by kernel_rfl) (by decide) ?_
        simp only [List.take_succ_cons, List.take_zero, List.drop_succ_cons, List.drop_zero]
        repeat (go_big_quiet_step (fail))
        refine wpQuiet_nil ?_
        refine wpMix_nil ?_
        clear m2k0 m2k1 m2k2 m2k3 m2k4 m2k5 m2n m2H
        go_wp2
        go_roundw
        case rel => exact ⟨j + 1, s4, L4, r4, Lr4, hlt, by go_num, H4.out, S4.out, R4.out, E4.out, RB4.out, SB4.out, NB4.out⟩
        case measure => simp [intOf]; omega
      · obtain rfl : j = m := by omega
        obtain ⟨cb, BB⟩ := HF.out.bb HS.out
        have dk := HF.out.dk HS.out
        obtain ⟨N, hN⟩ : ∃ N, s.b.length = N := ⟨_, rfl⟩
        have hpk : s.peekF 0 N = s.b := by
          have := peek_eq (s := s) (a := 0) (n := N) (X := s.b) (by omega) hN (fun i _ => by rw [Nat.zero_add])
          exact this
        have PK := Lib.hid (fun w' (h' : FR W w' B0 q L s B1 qr Lr r) => lpeek h'.f 0 N)
        rw [hpk] at PK
        have SZ := Lib.hid (fun w' (h' : FR W w' B0 q L s B1 qr Lr r) => lsize h'.f)
        rw [hN] at SZ cb BB
        have HBB := Lib.hid BB
        have HCB := Lib.hid (fun w' (h' : FR W w' B0 q L s B1 qr Lr r) => (h'.bb HS.out))
        rw [hN] at HCB
        have HDK := Lib.hid (fun w' (h' : FR W w' B0 q L s B1 qr Lr r) => (h'.dk HS.out))
        have OF := Lib.hid (fun w' (h' : FR W w' B0 q L s B1 qr Lr r) => loff h'.f)
        have HNN := Lib.hid hN
        obtain ⟨d, hd⟩ : ∃ d, s.dark = d := ⟨_, rfl⟩
        rw [hd] at dk HDK OF
        have qd : (d == d) = true := by simp
        obtain ⟨sz, hsz⟩ : ∃ sz, strOf s.b = sz := ⟨_, rfl⟩
        have HSZ := Lib.hid hsz
        have qz : (sz.toList == sz.toList) = true := by simp
        generalize Lr.gb = gb at *
        generalize Lr.capb = capb at *
        clear hpk hN hsz BB hd RB SB HNB
        obtain ⟨wv, rfl⟩ : ∃ x, x = wr := ⟨_, rfl⟩
        go_wp2
        obtain ⟨m3S, m3h⟩ : ∃ S : World → Prop, ∀ w', S w' ↔ (w'.cell? ⟨qr, 0, none⟩ = some (.slice (some ⟨gb, 0, none⟩) N capb) ∧ w'.cell? ⟨qr, 5, none⟩ = some (.bool d) ∧ ((convert 22 9 (.slice (some ⟨gb, 0, none⟩) N capb)).run Try.prog w' = .ok (.string sz) w')) := ⟨_, fun _ => Iff.rfl⟩
        have m3k0 : ∀ x : Memb m3S, x.at_.cell? ⟨qr, 0, none⟩ = some (.slice (some ⟨gb, 0, none⟩) N capb) := fun x => ((m3h _).1 x.is).1
        have m3k1 : ∀ x : Memb m3S, x.at_.cell? ⟨qr, 5, none⟩ = some (.bool d) := fun x => ((m3h _).1 x.is).2.1
        have m3k2 : ∀ x : Memb m3S, (convert 22 9 (.slice (some ⟨gb, 0, none⟩) N capb)).run Try.prog x.at_ = .ok (.string sz) x.at_ := fun x => ((m3h _).1 x.is).2.2
        have m3n : Nonempty (Memb m3S) := ⟨⟨(wv).drew, (m3h _).2 ⟨cb, dk, (HSZ.out ▸ run_str HBB.out.drew)⟩⟩⟩
        have m3H := Lib.hid m3h
        clear m3h
        refine wp_region_mix [2, 3, 4, 13] (InS m3S) (by kernel_rfl) (by kernel_rfl) (InS.mk ((m3H.out _).2 ⟨cb, dk, (HSZ.out ▸ run_str HBB.out.drew)⟩)) ?_
        refine wpMix_seg 2 (by kernel_rfl) (by decide) ?_
        simp only [List.take_succ_cons, List.take_zero, List.drop_succ_cons, List.drop_zero]
        repeat (first | go_big_quiet_step (fail) | (go_big_quiet_want; first | refine quiet_conv m3k2 rfl rfl rfl (by simp only [Act.put, List.setIfInBounds_toArray, List.set_cons_succ, List.set_cons_zero]; rfl) ?_; go_big_quiet_on))
        refine wpQuiet_nil ?_
        refine wpMix_eff (by kernel_rfl) ?_
        go_wp2_with fail
        refine (SZ.out _ HF.out.drew).mono ?_
        rintro e w' ⟨rfl, rfl⟩
        go_wp2
        refine MixK.on (InS.mk ((m3H.out _).2 ⟨cb, dk, (HSZ.out ▸ run_str HBB.out.drew)⟩)) ?_
        refine wpMix_eff (by kernel_rfl) ?_
        go_wp2_with fail
        refine (PK.out _ HF.out.drew).mono ?_
        rintro e w8 ⟨v8, rfl, o8, k8⟩
        obtain ⟨A8, c8, rfl, b8⟩ := slice_of_own o8
        rw [HNN.out] at b8 ⊢
        have H8 := Lib.hid (HF.out.drew.later k8)
        have B8 := Lib.hid (HBB.out.drew.keeps k8 (fun _ _ _ _ _ h => h))
        have C8 := Lib.hid (HCB.out w8 H8.out).1
        have D8 := Lib.hid (HDK.out w8 H8.out)
        have sd := run_str b8
        rw [HSZ.out] at sd
        clear o8 b8 k8
        go_wp2
        refine MixK.on (InS.mk ((m3H.out _).2 (⟨C8.out, D8.out, HSZ.out ▸ run_str B8.out⟩))) ?_
        refine wpMix_eff (by kernel_rfl) ?_
        go_wp2
        refine MixK.on (InS.mk ((m3H.out _).2 (⟨C8.out, D8.out, HSZ.out ▸ run_str B8.out⟩))) ?_
        refine wpMix_seg 8 (by kernel_rfl) (by decide) ?_
        simp only [List.take_succ_cons, List.take_zero, List.drop_succ_cons, List.drop_zero]
        repeat (first | go_big_quiet_step (fail) | (go_big_quiet_want; first | refine quiet_conv m3k2 rfl rfl rfl (by simp only [Act.put, List.setIfInBounds_toArray, List.set_cons_succ, List.set_cons_zero]; rfl) ?_; go_big_quiet_on))
        refine wpQuiet_nil ?_
        refine wpMix_eff (by kernel_rfl) ?_
        go_wp2_with fail
        refine (OF.out _ H8.out).mono ?_
        rintro e w' ⟨rfl, rfl⟩
        go_wp2
        refine MixK.on (InS.mk ((m3H.out _).2 (⟨C8.out, D8.out, HSZ.out ▸ run_str B8.out⟩))) ?_
        refine wpMix_seg 7 (by kernel_rfl) (by decide) ?_
        simp only [List.take_succ_cons, List.take_zero, List.drop_succ_cons, List.drop_zero]
        repeat (first | go_big_quiet_step (fail) | (go_big_quiet_want; first | refine quiet_conv m3k2 rfl rfl rfl (by simp only [Act.put, List.setIfInBounds_toArray, List.set_cons_succ, List.set_cons_zero]; rfl) ?_; go_big_quiet_on))
        refine wpQuiet_nil ?_
        refine wpMix_nil ?_
        clear m3k0 m3k1 m3k2 m3n m3H
        go_wp2
        go_ret
        exact ⟨by first | rfl | simp, H8.out.keeps.below (fun _ _ h => h)⟩
theorem plays3_all (first count : Int) (A : Option Addr) (m cap : Nat) (xs : List Value) (W : World) (hs : IsSl W A m cap 4 xs) (h : ∀ i, i < m → ∃ c, ActAt W xs i c) :
    Calls Try.prog 10 #[.int .i64 first, .int .i64 count, .slice A m cap] W fun e w' => e = .returned (.bool true) ∧ Below W.heap.size W w' := by
  obtain ⟨F, hF⟩ := acts_of hs h
  exact plays3_any first count A m cap xs F W hF
set_option maxRecDepth 100000 in
theorem RegionPlays_lifted (os : Os) (started : os.Started) (H : Type) (enc : TypeId × Value → H) :
    ReturnsInHanded {} Try.checked os 10 .any (Rows.regionPlaysSpec.pre6 enc Try.prog Try.f10 Rows.regionPlaysRow.domain false) (Rows.regionPlaysSpec.post enc Try.prog Try.f10 false true false false) := by
  refine returnsInHanded_of_change (C := Try.checked) Try.own started (by kernel_rfl) Try.func10
    (ChangeSpec.witness6 (enc := enc) (C := Try.checked) false ⟨#[], #[.int .i64 0, .int .i64 0, .slice none 0 0], []⟩ 8 (by kernel_rfl) (by kernel_rfl) (by kernel_rfl) (by kernel_rfl)) ?_
  intro W base args ds gs before hval0 hW hcnd _
  have hval : ∀ (j : Nat) t v, Try.f10.params[j]? = some t → args[j]? = some v → Value.okWide Try.prog W .any base t v := hval0
  have hW' := hW
  obtain ⟨p, q, hA0, hV, rfl, hfz, hnd⟩ := hW
  have hA : DataW.TrodAll enc Try.prog W 0 (fun _ => true) true Try.f10.params.toList args.toList ds p := hA0
  rw [Try.params10] at hA hval
  obtain ⟨v0, vs0, d0, ds0, p0, q0, hargs, rfl, rfl, h0, r0⟩ := trodAll_cons hA
  obtain ⟨v1, vs1, d1, ds1, p1, q1, rfl, rfl, rfl, h1, r1⟩ := trodAll_cons r0
  obtain ⟨v2, vs2, d2, ds2, p2, q2, rfl, rfl, rfl, h2, r2⟩ := trodAll_cons r1
  obtain ⟨rfl, rfl, rfl⟩ := trodAll_nil r2
  obtain rfl : args = #[v0, v1, v2] := by cases args; simp_all
  obtain ⟨rfl, rfl⟩ := trodVars_none hV
  have k0 := h0
  have lt0 : ∀ x ∈ p0, x.block < W.heap.size := by obtain ⟨m, hm⟩ := k0; exact DataW.trod_lt m _ _ _ hm
  obtain ⟨a0, rfl, rfl, rfl, w0⟩ := open_int Try.underlying3 (hval 0 3 v0 rfl rfl) h0
  have k1 := h1
  have lt1 : ∀ x ∈ p1, x.block < W.heap.size := by obtain ⟨m, hm⟩ := k1; exact DataW.trod_lt m _ _ _ hm
  obtain ⟨a1, rfl, rfl, rfl, w1⟩ := open_int Try.underlying3 (hval 1 3 v1 rfl rfl) h1
  have k2 := h2
  have lt2 : ∀ x ∈ p2, x.block < W.heap.size := by obtain ⟨m, hm⟩ := k2; exact DataW.trod_lt m _ _ _ hm
  obtain ⟨a2, len2, cap2, rfl⟩ := okWide_slice Try.underlying58 (hval 2 58 v2 rfl rfl)
  obtain ⟨z2, s2, f2⟩ := open_structs' Try.underlying58 Try.underlying60 (by kernel_rfl) (by kernel_rfl) (by decide) h2
  clear hA0 hval0
  refine (plays3_all a0 a1 a2 len2 cap2 z2 W s2 (fun i hi => by obtain ⟨y0, e0, _⟩ := fld_int f2 (j := 0) rfl Try.underlying3 hi; obtain ⟨y1, e1, _⟩ := fld_int f2 (j := 1) rfl Try.underlying3 hi; obtain ⟨y2, e2, w2⟩ := fld_int f2 (j := 2) rfl Try.underlying3 hi; obtain ⟨A, l, c, zs, e3, hb⟩ := fld_bytes f2 (j := 3) rfl rfl hi; exact ⟨⟨y0, y1, y2, A, l, c, zs⟩, e0, e1, e2, e3, hb, (wf_i64_bd w2).2⟩)).mono fun e W' ⟨he, bel⟩ => ?_
  subst he
  exact ⟨_, rfl, _, _, _, [], _, [], hW', trodAll_mk1 (shut_bool Try.underlying4 _), (trodAll_cons_mk (Below.trod Try.laidOut (by kernel_rfl) (of_decide_eq_true (by kernel_rfl)) k0 bel lt0) (trodAll_cons_mk (Below.trod Try.laidOut (by kernel_rfl) (of_decide_eq_true (by kernel_rfl)) k1 bel lt1) (trodAll_cons_mk (Below.trod Try.laidOut (by kernel_rfl) (of_decide_eq_true (by kernel_rfl)) k2 bel lt2) trodAll_mk0))), rfl, bel.frame _, fun h => by cases h⟩

set_option maxRecDepth 100000 in
theorem RegionPlays_closed : joinedFacts Try.checked.prog 10 Try.f10 Rows.regionPlaysSpec Rows.regionPlaysRow = true := by
  unfold joinedFacts
  rw [closed_laid, closed_maps, closed_heard, closed_plain, closed_mayEnter, closed_lifts, closed_make]
  kernel_rfl

theorem RegionPlays_holds : Rows.RegionPlaysSaid :=
  OpenClaim.holds_of_wide 10 Try.f10 rfl rfl rfl rfl rfl rfl rfl ⟨rfl, rfl, rfl, rfl, rfl⟩ rfl rfl rfl rfl rfl (by kernel_rfl) Try.func10 RegionPlays_closed
    (of_decide_eq_true (by kernel_rfl)) (by unfold Func.isWrapper; first | (rw [if_pos (by decide +kernel)]; kernel_rfl) | (rw [if_neg (by decide +kernel)]; exact ⟨rfl, rfl⟩))
    (fun os started H enc _ => RegionPlays_lifted os started H enc)
#print axioms RegionPlays_holds
end Go.Proofs.Ytngofnlhbhfigaa
