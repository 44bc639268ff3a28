
/- The walks of package region: Program, sector, Erase, IsBlank, Part, Of. -/
import Derived.Test.YtiiljelhhdklnaaLFlc
import Derived.Deep.WholeRow
namespace Go.Proofs.Ytiiljelhhdklnaa
open Go.RowKit

set_option maxRecDepth 100000 in
set_option maxHeartbeats 800000 in
theorem gprogram_any (B : Nat) (L : FL) (s : FS) (q first count : Nat) (a : Int) (A : Option Addr) (m c : Nat) (zs : List Int) (w : World) (h : FAt w B L s) (hq : L.bf = q) (hf : first + count ≤ 256) (hb : Bs w A m c zs) (hst : 0 ≤ s.steps ∧ s.steps + m ≤ 1000000000000)
    (hA : ∀ b off, 0 < m → A = some ⟨b, off, none⟩ → ¬ L.S b) : Calls Try.prog 62 #[.agg #[.pointer (some ⟨q, 0, none⟩), .int .i64 first, .int .i64 count], .int .i64 a, .slice A m c] w (ProgTold w B L (s.gprog first count a zs)) := by
  have MAY := Lib.hid (fun w' (hh : FAt w' B L s) => gmay_any B L s q first count a m w' hh hq (by omega))
  have hml := hb.len
  have hle := hb.le
  have hmx := hb.max
  have PR := Lib.hid (fun w' a (hh : FAt w' B L s) (hk : Keeps None w w') => fprogram_any B L s a A m c zs w' hh (hb.keeps hk (fun _ _ _ _ _ h => h)) hst hA)
  simp only [FL.p, hq] at PR
  have GR : Hid (s.gprog first count a zs = if s.dark = true then (s, 5) else if withinB a m (1024 * count : Nat) = true then s.progF (1024 * first + a) zs else (s, 2)) := by
    show s.gprog first count a zs = _
    unfold FS.gprog; rw [hml]
  have NB : Hid (¬ L.O w.heap.size) := fun hO => Nat.lt_irrefl _ (h.lt _ hO)
  have HW := Lib.hid h
  have k0 : Keeps None w (w.alloc (.cells #[.pointer (some ⟨q, 0, none⟩), .int .i64 first, .int .i64 count] 63)) := (Keeps.refl None w).alloc _
  have bx : Blk (w.alloc (.cells #[.pointer (some ⟨q, 0, none⟩), .int .i64 first, .int .i64 count] 63)) w.heap.size [.pointer (some ⟨q, 0, none⟩), .int .i64 first, .int .i64 count] 63 := Blk.new w [.pointer (some ⟨q, 0, none⟩), .int .i64 first, .int .i64 count] 63
  have K0 := Lib.hid k0
  have BX := Lib.hid bx
  clear k0 bx
  have H0 := Lib.hid (h.later K0.out)
  clear h hb hA hml
  have gen : ∀ er : Int, er ≠ 0 → mayF s.dark a m (1024 * count : Nat) = er → s.gprog first count a zs = (s, er) → Calls Try.prog 62 #[.agg #[.pointer (some ⟨q, 0, none⟩), .int .i64 first, .int .i64 count], .int .i64 a, .slice A m c] w (ProgTold w B L (s.gprog first count a zs)) := by
    intro er h0 hm hg
    have e1 : (er != 0) = true := by simp [h0]
    have HG := Lib.hid hg
    rw [hm] at MAY
    clear hm hg h0
    go_enter Try.func62, Try.ntmps62
    go_wp2_with fail
    refine (MAY.out _ H0.out).mono ?_
    rintro e w1 ⟨rfl, k1⟩
    have K1 := Lib.hid (K0.out.trans k1 (T := None) (fun _ h => h) (fun _ _ h => h))
    clear k1
    go_wp2
    go_ret
    rw [HG.out]
    exact ⟨rfl, _, Turn.still HW.out K1.out⟩
  cases hd : s.dark with
  | true => exact gen 5 (by decide) (by rw [hd]; rfl) (by rw [GR.out, if_pos hd])
  | false =>
    cases hw : withinB a m (1024 * count : Nat) with
    | false => exact gen 2 (by decide) (by rw [hd]; unfold mayF; rw [if_neg (by decide), if_neg (by rw [hw]; decide)]) (by rw [GR.out, if_neg (by rw [hd]; decide), if_neg (by rw [hw]; decide)])
    | true =>
      have hg : s.gprog first count a zs = s.progF (1024 * first + a) zs := by rw [GR.out, if_neg (by rw [hd]; decide), if_pos hw]
      have hm : mayF s.dark a m (1024 * count : Nat) = 0 := by rw [hd]; unfold mayF; rw [if_neg (by decide), if_pos hw]
      obtain ⟨i, j, rfl, hj, hij⟩ := within_nat hw
      rw [hg]
      rw [hm] at MAY
      have BS := Lib.hid (fun w => gbase_any (some ⟨q, 0, none⟩) first count (by omega) w)
      obtain ⟨bs, hbs⟩ : ∃ b : Nat, 1024 * first = b := ⟨_, rfl⟩
      obtain ⟨p, hp⟩ : ∃ p : Nat, bs + i = p := ⟨_, rfl⟩
      have e1 : (1024 * (first : Int) + i) = (p : Int) := by omega
      rw [e1]
      rw [hbs] at BS
      have w1 : IntKind.i64.wrap ((bs : Int) + i) = p := by rw [show (bs : Int) + i = (p : Int) by omega]; exact wrap_nat _ (by omega)
      have PRp := Lib.hid (fun w' (hh : FAt w' B L s) (hk : Keeps None w w') => PR.out w' p hh hk)
      generalize s.progF p zs = r at *
      clear gen GR hg hm hw hd PR hbs hp e1 hj
      go_enter Try.func62, Try.ntmps62
      go_wp2_with fail
      refine (MAY.out _ H0.out).mono ?_
      rintro e w1' ⟨rfl, k1⟩
      have K1 := Lib.hid (K0.out.trans k1 (T := None) (fun _ h => h) (fun _ _ h => h))
      have B1 := Lib.hid (k1.blk BX.out (fun h => h))
      have H1 := Lib.hid (H0.out.later k1)
      clear k1
      go_wp2
      obtain ⟨mS, mh⟩ : ∃ S : World → Prop, ∀ w', S w' ↔ (w'.cell? ⟨w.heap.size, 0, none⟩ = some (.pointer (some ⟨q, 0, none⟩)) ∧ w'.cell? ⟨w.heap.size, 1, none⟩ = some (.int .i64 first) ∧ w'.cell? ⟨w.heap.size, 2, none⟩ = some (.int .i64 count)) := ⟨_, fun _ => Iff.rfl⟩
      have mk0 : ∀ x : Memb mS, x.at_.cell? ⟨w.heap.size, 0, none⟩ = some (.pointer (some ⟨q, 0, none⟩)) := fun x => ((mh _).1 x.is).1
      have mk1 : ∀ x : Memb mS, x.at_.cell? ⟨w.heap.size, 1, none⟩ = some (.int .i64 first) := fun x => ((mh _).1 x.is).2.1
      have mk2 : ∀ x : Memb mS, x.at_.cell? ⟨w.heap.size, 2, none⟩ = some (.int .i64 count) := fun x => ((mh _).1 x.is).2.2
      have mn : Nonempty (Memb mS) := ⟨⟨(w1').drew, (mh _).2 ⟨B1.out.cellD 0 _ rfl, B1.out.cellD 1 _ rfl, B1.out.cellD 2 _ rfl⟩⟩⟩
      have mH := Lib.hid mh
      clear mh
      refine wp_region_mix [3, 7] (InS mS) (by kernel_rfl) (by kernel_rfl) (InS.mk ((mH.out _).2 ⟨B1.out.cellD 0 _ rfl, B1.out.cellD 1 _ rfl, B1.out.cellD 2 _ rfl⟩)) ?_
      refine wpMix_seg 3 (by kernel_rfl) (by decide) ?_
      simp only [List.take_succ_cons, List.take_zero, List.drop_succ_cons, List.drop_zero]
      repeat (first | go_big_quiet_step (fail) | (go_big_quiet_want; first | refine quiet_build BU.out rfl rfl (by simp [Act.eval]) (by simp only [Act.put, List.setIfInBounds_toArray, List.set_cons_succ, List.set_cons_zero]; rfl) ?_; go_big_quiet_on))
      refine wpQuiet_nil ?_
      refine wpMix_eff (by kernel_rfl) ?_
      go_wp2_with fail
      refine (BS.out _).mono ?_
      rintro e w2 ⟨rfl, k2⟩
      have K2 := Lib.hid (K1.out.drew.trans k2 (T := None) (fun _ h => h) (fun _ _ h => h))
      have B2 := Lib.hid (k2.blk B1.out.drew (fun h => h))
      have H2 := Lib.hid (H1.out.drew.later k2)
      clear k2
      go_wp2
      refine MixK.on (InS.mk ((mH.out _).2 (⟨B2.out.cellD 0 _ rfl, B2.out.cellD 1 _ rfl, B2.out.cellD 2 _ rfl⟩))) ?_
      refine wpMix_seg 3 (by kernel_rfl) (by decide) ?_
      simp only [List.take_succ_cons, List.take_zero, List.drop_succ_cons, List.drop_zero]
      repeat (first | go_big_quiet_step (fail) | (go_big_quiet_want; first | refine quiet_build BU.out rfl rfl (by simp [Act.eval]) (by simp only [Act.put, List.setIfInBounds_toArray, List.set_cons_succ, List.set_cons_zero]; rfl) ?_; go_big_quiet_on))
      refine wpQuiet_nil ?_
      refine wpMix_eff (by kernel_rfl) ?_
      go_wp2_with fail
      refine (PRp.out _ H2.out K2.out).mono ?_
      rintro e w3 ⟨rfl, L3, t3⟩
      have T3 := Lib.hid (Turn.from K2.out t3)
      have B3 := Lib.hid (t3.keeps.blk B2.out NB.out)
      clear t3
      go_wp2
      refine MixK.on (InS.mk ((mH.out _).2 (⟨B3.out.cellD 0 _ rfl, B3.out.cellD 1 _ rfl, B3.out.cellD 2 _ rfl⟩))) ?_
      refine wpMix_seg 1 (by kernel_rfl) (by decide) ?_
      simp only [List.take_succ_cons, List.take_zero, List.drop_succ_cons, List.drop_zero]
      repeat (first | go_big_quiet_step (fail) | (go_big_quiet_want; first | refine quiet_build BU.out rfl rfl (by simp [Act.eval]) (by simp only [Act.put, List.setIfInBounds_toArray, List.set_cons_succ, List.set_cons_zero]; rfl) ?_; go_big_quiet_on))
      refine wpQuiet_nil ?_
      refine wpMix_nil ?_
      clear mk0 mk1 mk2 mn mH
      go_wp2
      go_ret
      exact ⟨rfl, _, T3.out⟩

set_option maxRecDepth 100000 in
theorem gsector_any (B : Nat) (L : FL) (s : FS) (q first count : Nat) (k : Int) (w : World) (h : FAt w B L s) (hq : L.bf = q) (hc : count ≤ 1000000) : Calls Try.prog 88 #[.agg #[.pointer (some ⟨q, 0, none⟩), .int .i64 first, .int .i64 count], .int .i64 k] w (Pure (.int .i64 (sectF s.dark k count)) w) := by
  have OFF := Lib.hid (fun w' (hh : FAt w' B L s) => foff_any B L s w' hh)
  simp only [FL.p, hq] at OFF
  have k0 : Keeps None w (w.alloc (.cells #[.pointer (some ⟨q, 0, none⟩), .int .i64 first, .int .i64 count] 63)) := (Keeps.refl None w).alloc _
  have bx : Blk (w.alloc (.cells #[.pointer (some ⟨q, 0, none⟩), .int .i64 first, .int .i64 count] 63)) w.heap.size [.pointer (some ⟨q, 0, none⟩), .int .i64 first, .int .i64 count] 63 := Blk.new w [.pointer (some ⟨q, 0, none⟩), .int .i64 first, .int .i64 count] 63
  have K0 := Lib.hid k0
  have BX := Lib.hid bx
  clear k0 bx
  have H0 := Lib.hid (h.later K0.out)
  clear h
  cases hd : s.dark with
  | true =>
    rw [hd] at OFF
    have WI : Hid (sectF true k count = 5) := rfl
    clear hd
    go_enter Try.func88, Try.ntmps88
    go_wp2_with fail
    refine (OFF.out _ H0.out).mono ?_
    rintro e w' ⟨rfl, rfl⟩
    go_wp2
    go_ret
    exact ⟨ret_int WI.out.symm, K0.out⟩
  | false =>
    rw [hd] at OFF
    have WI0 : Hid (sectF false k count = if k < 0 ∨ (count : Int) ≤ k then 2 else 0) := if_neg (by decide)
    clear hd
    by_cases q1 : k < 0
    · have d1 : decide (k < 0) = true := decide_eq_true q1
      have WI : Hid (sectF false k count = 2) := by show _ = _; rw [WI0.out, if_pos (.inl q1)]
      clear WI0
      go_enter Try.func88, Try.ntmps88
      go_wp2_with fail
      refine (OFF.out _ H0.out).mono ?_
      rintro e w' ⟨rfl, rfl⟩
      go_wp2
      go_ret
      exact ⟨ret_int WI.out.symm, K0.out⟩
    have d1 : decide (k < 0) = false := decide_eq_false q1
    by_cases q2 : (count : Int) ≤ k
    · have d2 : decide ((count : Int) ≤ k) = true := decide_eq_true q2
      have WI : Hid (sectF false k count = 2) := by show _ = _; rw [WI0.out, if_pos (.inr q2)]
      clear WI0
      go_enter Try.func88, Try.ntmps88
      go_wp2_with fail
      refine (OFF.out _ H0.out).mono ?_
      rintro e w' ⟨rfl, rfl⟩
      go_wp2
      go_ret
      exact ⟨ret_int WI.out.symm, K0.out⟩
    have d2 : decide ((count : Int) ≤ k) = false := decide_eq_false q2
    have WI : Hid (sectF false k count = 0) := by show _ = _; rw [WI0.out, if_neg (by omega)]
    clear WI0
    go_enter Try.func88, Try.ntmps88
    go_wp2_with fail
    refine (OFF.out _ H0.out).mono ?_
    rintro e w' ⟨rfl, rfl⟩
    go_wp2
    go_ret
    exact ⟨ret_int WI.out.symm, K0.out⟩

set_option maxRecDepth 100000 in
theorem gerase_any (B : Nat) (L : FL) (s : FS) (q first count : Nat) (k : Int) (w : World) (h : FAt w B L s) (hq : L.bf = q) (hf : first + count ≤ 256) (hst : 0 ≤ s.steps ∧ s.steps ≤ 1000000000000) (her : ∀ i, 0 ≤ s.er.getD i 0 ∧ s.er.getD i 0 ≤ 1000000000000) :
    Calls Try.prog 76 #[.agg #[.pointer (some ⟨q, 0, none⟩), .int .i64 first, .int .i64 count], .int .i64 k] w (ProgTold w B L (s.gerase first count k)) := by
  have SEC := Lib.hid (fun w' (hh : FAt w' B L s) => gsector_any B L s q first count k w' hh hq (by omega))
  have ER := Lib.hid (fun w' k (hh : FAt w' B L s) => ferase_any B L s k w' hh hst her)
  simp only [FL.p, hq] at ER
  have GR : Hid (s.gerase first count k = if s.dark = true then (s, 5) else if k < 0 ∨ (count : Int) ≤ k then (s, 2) else s.eraseF (first + k)) := rfl
  have HW := Lib.hid h
  have k0 : Keeps None w (w.alloc (.cells #[.pointer (some ⟨q, 0, none⟩), .int .i64 first, .int .i64 count] 63)) := (Keeps.refl None w).alloc _
  have bx : Blk (w.alloc (.cells #[.pointer (some ⟨q, 0, none⟩), .int .i64 first, .int .i64 count] 63)) w.heap.size [.pointer (some ⟨q, 0, none⟩), .int .i64 first, .int .i64 count] 63 := Blk.new w [.pointer (some ⟨q, 0, none⟩), .int .i64 first, .int .i64 count] 63
  have K0 := Lib.hid k0
  have BX := Lib.hid bx
  clear k0 bx
  have H0 := Lib.hid (h.later K0.out)
  clear h
  have gen : ∀ er : Int, er ≠ 0 → sectF s.dark k count = er → s.gerase first count k = (s, er) → Calls Try.prog 76 #[.agg #[.pointer (some ⟨q, 0, none⟩), .int .i64 first, .int .i64 count], .int .i64 k] w (ProgTold w B L (s.gerase first count k)) := by
    intro er h0 hm hg
    have e1 : (er != 0) = true := by simp [h0]
    have HG := Lib.hid hg
    rw [hm] at SEC
    clear hm hg h0
    go_enter Try.func76, Try.ntmps76
    go_wp2_with fail
    refine (SEC.out _ H0.out).mono ?_
    rintro e w1 ⟨rfl, k1⟩
    have K1 := Lib.hid (K0.out.trans k1 (T := None) (fun _ h => h) (fun _ _ h => h))
    clear k1
    go_wp2
    go_ret
    rw [HG.out]
    exact ⟨rfl, _, Turn.still HW.out K1.out⟩
  cases hd : s.dark with
  | true => exact gen 5 (by decide) (by rw [hd]; rfl) (by rw [GR.out, if_pos hd])
  | false =>
    by_cases q1 : k < 0 ∨ (count : Int) ≤ k
    · exact gen 2 (by decide) (by rw [hd]; unfold sectF; rw [if_neg (by decide), if_pos q1]) (by rw [GR.out, if_neg (by rw [hd]; decide), if_pos q1])
    · have hg : s.gerase first count k = s.eraseF (first + k) := by rw [GR.out, if_neg (by rw [hd]; decide), if_neg q1]
      have hm : sectF s.dark k count = 0 := by rw [hd]; unfold sectF; rw [if_neg (by decide), if_neg q1]
      have b1 : 0 ≤ k := by omega
      have b2 : k ≤ 256 := by omega
      rw [hg]
      rw [hm] at SEC
      have ERp := Lib.hid (fun w' (hh : FAt w' B L s) => ER.out w' (first + k) hh)
      generalize s.eraseF (first + k) = r at *
      clear gen GR hg hm hd ER q1
      go_enter Try.func76, Try.ntmps76
      go_wp2_with fail
      refine (SEC.out _ H0.out).mono ?_
      rintro e w1 ⟨rfl, k1⟩
      have K1 := Lib.hid (K0.out.trans k1 (T := None) (fun _ h => h) (fun _ _ h => h))
      have B1 := Lib.hid (k1.blk BX.out (fun h => h))
      have H1 := Lib.hid (H0.out.later k1)
      have y0 := B1.out.cellD 0 _ rfl
      have y1 := B1.out.cellD 1 _ rfl
      have y2 := B1.out.cellD 2 _ rfl
      clear k1
      go_wp2_with fail
      refine (ERp.out _ H1.out).mono ?_
      rintro e w3 ⟨rfl, L3, t3⟩
      have T3 := Lib.hid (Turn.from K1.out t3)
      clear t3
      go_wp2
      go_ret
      exact ⟨rfl, _, T3.out⟩

set_option maxRecDepth 100000 in
theorem gisblank_any (B : Nat) (L : FL) (s : FS) (q first count : Nat) (k : Int) (w : World) (h : FAt w B L s) (hq : L.bf = q) (hf : first + count ≤ L.n) :
    Calls Try.prog 75 #[.agg #[.pointer (some ⟨q, 0, none⟩), .int .i64 first, .int .i64 count], .int .i64 k] w (Pure (.tuple #[.bool (s.gblank first count k).1, .int .i64 (s.gblank first count k).2]) w) := by
  have hn9 := h.n9
  have SEC := Lib.hid (fun w' (hh : FAt w' B L s) => gsector_any B L s q first count k w' hh hq (by omega))
  have RD := Lib.hid (fun w' a m (hh : FAt w' B L s) => gread_any B L s q first count a m w' hh hq (by omega))
  have GR : Hid (s.gblank first count k = if s.dark = true then (false, 5) else if k < 0 ∨ (count : Int) ≤ k then (false, 2) else (blankB ((s.b.drop (1024 * (first + k.toNat))).take 1024), 0)) := rfl
  have hbl := h.bl
  have hnN := h.nN
  have k0 : Keeps None w (w.alloc (.cells #[.pointer (some ⟨q, 0, none⟩), .int .i64 first, .int .i64 count] 63)) := (Keeps.refl None w).alloc _
  have bx : Blk (w.alloc (.cells #[.pointer (some ⟨q, 0, none⟩), .int .i64 first, .int .i64 count] 63)) w.heap.size [.pointer (some ⟨q, 0, none⟩), .int .i64 first, .int .i64 count] 63 := Blk.new w [.pointer (some ⟨q, 0, none⟩), .int .i64 first, .int .i64 count] 63
  have K0 := Lib.hid k0
  have BX := Lib.hid bx
  clear k0 bx
  have H0 := Lib.hid (h.later K0.out)
  clear h
  have gen : ∀ er : Int, er ≠ 0 → sectF s.dark k count = er → s.gblank first count k = (false, er) → Calls Try.prog 75 #[.agg #[.pointer (some ⟨q, 0, none⟩), .int .i64 first, .int .i64 count], .int .i64 k] w (Pure (.tuple #[.bool (s.gblank first count k).1, .int .i64 (s.gblank first count k).2]) w) := by
    intro er h0 hm hg
    have e1 : (er != 0) = true := by simp [h0]
    have HG := Lib.hid hg
    rw [hm] at SEC
    clear hm hg h0
    go_enter Try.func75, Try.ntmps75
    go_wp2_with fail
    refine (SEC.out _ H0.out).mono ?_
    rintro e w1 ⟨rfl, k1⟩
    have K1 := Lib.hid (K0.out.trans k1 (T := None) (fun _ h => h) (fun _ _ h => h))
    clear k1
    go_wp2
    go_ret2
    rw [HG.out]
    exact ⟨rfl, K1.out⟩
  cases hd : s.dark with
  | true => exact gen 5 (by decide) (by rw [hd]; rfl) (by rw [GR.out, if_pos hd])
  | false =>
    by_cases q1 : k < 0 ∨ (count : Int) ≤ k
    · exact gen 2 (by decide) (by rw [hd]; unfold sectF; rw [if_neg (by decide), if_pos q1]) (by rw [GR.out, if_neg (by rw [hd]; decide), if_pos q1])
    · obtain ⟨j, rfl⟩ : ∃ j : Nat, k = j := ⟨k.toNat, by omega⟩
      have hj : j < count := by omega
      have hg : s.gblank first count j = (blankB ((s.b.drop (1024 * (first + j))).take 1024), 0) := by rw [GR.out, if_neg (by rw [hd]; decide), if_neg q1, Int.toNat_natCast]
      have hm : sectF s.dark j count = 0 := by rw [hd]; unfold sectF; rw [if_neg (by decide), if_neg q1]
      have hr : s.gread first count ((1024 * j : Nat) : Int) 1024 = ((s.b.drop (1024 * (first + j))).take 1024, 0) := by
        unfold FS.gread
        rw [if_neg (by rw [hd]; decide), if_pos (show withinB _ _ _ = true from decide_eq_true ⟨by omega, by omega, by omega, by omega⟩)]
        unfold FS.readF
        rw [if_neg (by rw [hd]; decide), hbl, if_pos (show withinB _ _ _ = true from decide_eq_true ⟨by omega, by omega, by omega, by omega⟩)]
        have e : (1024 * (first : Int) + ((1024 * j : Nat) : Int)).toNat = 1024 * (first + j) := by omega
        rw [e]; rfl
      rw [hg]
      rw [hm] at SEC
      have RDp := Lib.hid (fun w' (hh : FAt w' B L s) => RD.out w' ((1024 * j : Nat) : Int) 1024 hh)
      rw [hr] at RDp
      obtain ⟨zs, hzs⟩ : ∃ zs, (s.b.drop (1024 * (first + j))).take 1024 = zs := ⟨_, rfl⟩
      rw [hzs] at RDp ⊢
      obtain ⟨p, hp⟩ : ∃ p : Nat, 1024 * j = p := ⟨_, rfl⟩
      have e1 : ((j : Int) * 1024) = p := by omega
      rw [hp] at RDp
      clear gen GR hg hm hd RD q1 hr hzs hp hbl hnN
      go_enter Try.func75, Try.ntmps75
      go_wp2_with fail
      refine (SEC.out _ H0.out).mono ?_
      rintro e w1 ⟨rfl, k1⟩
      have K1 := Lib.hid (K0.out.trans k1 (T := None) (fun _ h => h) (fun _ _ h => h))
      have B1 := Lib.hid (k1.blk BX.out (fun h => h))
      have H1 := Lib.hid (H0.out.later k1)
      have y0 := B1.out.cellD 0 _ rfl
      have y1 := B1.out.cellD 1 _ rfl
      have y2 := B1.out.cellD 2 _ rfl
      clear k1
      go_wp2_with fail
      refine (RDp.out _ H1.out).mono ?_
      rintro e w3 ⟨v3, rfl, o3, k3⟩
      obtain ⟨A3, c3, rfl, bs3⟩ := slice_of_own o3
      have K3 := Lib.hid (K1.out.trans k3 (T := None) (fun _ h => h) (fun _ _ h => h))
      have IB := Lib.hid (isBlank_any _ _ _ _ _ bs3)
      clear k3 o3 bs3 y0 y1 y2
      go_wp2_with fail
      refine IB.out.mono ?_
      rintro e w' ⟨rfl, rfl⟩
      go_wp2
      go_ret2
      exact ⟨rfl, K3.out⟩

theorem blk_newAt {X : World} {b : Nat} (h : X.heap.size = b) (c : List Value) (T : TypeId) : Blk (X.alloc (.cells c.toArray T)) b c T := by
  subst h; exact Blk.new _ _ _
theorem results_cell2 {fn : Func} {p u : Tmp} {ty : TypeId} (h : fn.results = #[.cell p ty, .tmp u]) (tmps : Array Value) (P : Program) (w : World) :
    (results fn tmps).run P w = ((asAddr (tmps.getD p undef)).run P w).andThen fun a w₁ => ((loadVar ty a).run P w₁).andThen fun x w₂ => .ok (.tuple #[x, tmps.getD u undef]) w₂ := by
  simp only [results, h]
  simp [Sem.run_bind, Result.andThen]
theorem Try.infoR63 : (Try.prog.info? 63).map (fun i => (i.zero, i.size)) = some (some (.agg #[.pointer none, .int .i64 0, .int .i64 0]), 3) := by kernel_rfl
theorem rg_res {fn : Func} (hr : fn.results = #[.cell 6 63, .tmp 7]) {w : World} {g : Nat} {a b c x : Value} {T : TypeId} (tmps : Array Value) (h : Blk w g [a, b, c] T) (h2 : tmps.getD 6 undef = .pointer (some ⟨g, 0, none⟩)) (h3 : tmps.getD 7 undef = x) :
    (results fn tmps).run Try.prog w = .ok (.tuple #[.agg #[a, b, c], x]) w := by
  have hl : (loadVar 63 ⟨g, 0, none⟩).run Try.prog w = .ok (.agg #[a, b, c]) w :=
    run_loadVar_row w g T 63 #[a, b, c] (0, 0) _ h Try.underlying63 rfl (by rw [(zero_of_info Try.infoR63).2]; rfl)
  rw [results_cell2 (p := 6) (u := 7) (ty := 63) hr, h2, h3]
  simp only [asAddr, Sem.run_pure, Result.andThen_ok, hl]

set_option maxRecDepth 100000 in
theorem gof_nil (a m : Int) (w : World) : Calls Try.prog 31 #[.pointer none, .int .i64 a, .int .i64 m] w (Pure (.tuple #[rg0, .int .i64 1]) w) := by
  have BB : Hid (Blk (w.alloc (.cells #[.pointer none, .int .i64 0, .int .i64 0] 63)) w.heap.size [.pointer none, .int .i64 0, .int .i64 0] 63) := Blk.new w [.pointer none, .int .i64 0, .int .i64 0] 63
  have KB : Hid (Keeps None w (w.alloc (.cells #[.pointer none, .int .i64 0, .int .i64 0] 63))) := (Keeps.refl None w).alloc _
  go_enter Try.func31, Try.ntmps31
  go_wp2
  refine bodyPost_ret (rg_res rfl _ BB.out rfl rfl) rfl ?_
  exact ⟨rfl, KB.out⟩
/-- What Of and Part tell. -/
def ofF (p : Option Addr) (first count n : Int) (b : Int) : Value := if someB first count n = true then .tuple #[.agg #[.pointer p, .int .i64 (b + first), .int .i64 count], .int .i64 0] else .tuple #[rg0, .int .i64 1]

set_option maxRecDepth 100000 in
theorem gof_any (B : Nat) (L : FL) (s : FS) (q : Nat) (a m : Int) (w : World) (h : FAt w B L s) (hq : L.bf = q) : Calls Try.prog 31 #[.pointer (some ⟨q, 0, none⟩), .int .i64 a, .int .i64 m] w (Pure (ofF (some ⟨q, 0, none⟩) a m L.n 0) w) := by
  have SZ := Lib.hid (fun w' (hh : FAt w' B L s) => fsize_any B L s w' hh)
  simp only [FL.p, hq] at SZ
  have hn9 := h.n9
  have SM := Lib.hid (fun w => gsome_any a m L.n ⟨by omega, by omega⟩ w)
  have eN : ((L.N : Int) / 1024) = L.n := by have := h.nN; omega
  have H0 := Lib.hid (h.alloc (.cells #[.pointer none, .int .i64 0, .int .i64 0] 63))
  have BB : Hid (Blk (w.alloc (.cells #[.pointer none, .int .i64 0, .int .i64 0] 63)) w.heap.size [.pointer none, .int .i64 0, .int .i64 0] 63) := Blk.new w [.pointer none, .int .i64 0, .int .i64 0] 63
  have KB : Hid (Keeps None w (w.alloc (.cells #[.pointer none, .int .i64 0, .int .i64 0] 63))) := (Keeps.refl None w).alloc _
  have OF : Hid (ofF (some ⟨q, 0, none⟩) a m L.n 0 = if someB a m L.n = true then .tuple #[.agg #[.pointer (some ⟨q, 0, none⟩), .int .i64 a, .int .i64 m], .int .i64 0] else .tuple #[rg0, .int .i64 1]) := by
    show ofF _ _ _ _ _ = _
    unfold ofF; rw [Int.zero_add]
  generalize L.n = n at *
  generalize L.N = N at *
  clear h
  cases hs : someB a m n with
  | false =>
    rw [hs] at SM OF
    clear hs
    go_enter Try.func31, Try.ntmps31
    go_wp2_with fail
    refine (SZ.out _ H0.out).mono ?_
    rintro e w' ⟨rfl, rfl⟩
    go_wp2_with fail
    refine (SM.out _).mono ?_
    rintro e w' ⟨rfl, rfl⟩
    -- BB.out the cell's block
    have zz0 := Blk.cellD (BB.out) 0 _ rfl
    have zz1 := Blk.cellD (BB.out) 1 _ rfl
    have zz2 := Blk.cellD (BB.out) 2 _ rfl
    have zf0 := Blk.frozen (BB.out) 0
    have zf1 := Blk.frozen (BB.out) 1
    have zf2 := Blk.frozen (BB.out) 2
    go_wp2
    refine bodyPost_ret (rg_res rfl _ (by first | exact BB.out | exact ((BB.out.set 0 _).set 1 _).set 2 _) rfl rfl) rfl ?_
    rw [OF.out]
    exact ⟨rfl, by first | exact KB.out | exact ((KB.out.setCell _ _ (fun h => absurd h (Nat.lt_irrefl _))).setCell _ _ (fun h => absurd h (Nat.lt_irrefl _))).setCell _ _ (fun h => absurd h (Nat.lt_irrefl _))⟩
  | true =>
    rw [hs] at SM OF
    clear hs
    go_enter Try.func31, Try.ntmps31
    go_wp2_with fail
    refine (SZ.out _ H0.out).mono ?_
    rintro e w' ⟨rfl, rfl⟩
    go_wp2_with fail
    refine (SM.out _).mono ?_
    rintro e w' ⟨rfl, rfl⟩
    -- BB.out the cell's block
    have zz0 := Blk.cellD (BB.out) 0 _ rfl
    have zz1 := Blk.cellD (BB.out) 1 _ rfl
    have zz2 := Blk.cellD (BB.out) 2 _ rfl
    have zf0 := Blk.frozen (BB.out) 0
    have zf1 := Blk.frozen (BB.out) 1
    have zf2 := Blk.frozen (BB.out) 2
    go_wp2
    refine bodyPost_ret (rg_res rfl _ (by first | exact BB.out | exact Blk.new _ [_, _, _] _ | exact ((BB.out.set 0 _).set 1 _).set 2 _) rfl rfl) rfl ?_
    rw [OF.out]
    exact ⟨rfl, by first | exact KB.out | exact (Keeps.refl None w).alloc _ | exact ((KB.out.setCell _ _ (fun h => absurd h (Nat.lt_irrefl _))).setCell _ _ (fun h => absurd h (Nat.lt_irrefl _))).setCell _ _ (fun h => absurd h (Nat.lt_irrefl _))⟩

end Go.Proofs.Ytiiljelhhdklnaa
