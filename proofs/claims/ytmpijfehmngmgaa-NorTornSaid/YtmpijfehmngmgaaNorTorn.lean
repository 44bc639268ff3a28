/- The law NorTorn: its walk. -/
import Derived.Test.YtmpijfehmngmgaaNorTwice
namespace Go.Proofs.Ytmpijfehmngmgaa
open Go.RowKit

theorem canN_os_torn {os ns ps : List Int} (ho : ∀ z ∈ os, 0 ≤ z ∧ z ≤ 255) (hn : ∀ z ∈ ns, 0 ≤ z ∧ z ≤ 255) (hp : ∀ z ∈ ps, 0 ≤ z ∧ z ≤ 255) (hc : canN os ns = true) : canN os (tornN os ns ps) = true := by
  obtain ⟨l1, h1⟩ := (canN_iff ho hn).1 hc
  refine (canN_iff ho (tornN_byte ho hn hp)).2 ⟨by rw [tornN, if_pos hc, tornTo_length]; exact l1, fun i => ?_⟩
  rw [tornN, if_pos hc, tornTo_getD]
  split
  · have a := byte_getD ho i
    have b := byte_getD hn i
    have c := byte_getD hp i
    have d := bits_and_bd _ _ a c
    have h1i := h1 i
    rw [tornAt, u8_or _ _ b.1 (by omega) d.1 (by omega), Int.toNat_natCast, u8_and _ _ a.1 (by omega) c.1 (by omega), Int.toNat_natCast, ← h1i]
    apply Nat.eq_of_testBit_eq; intro j
    simp only [Nat.testBit_and, Nat.testBit_or]
    cases (ns.getD i 0).toNat.testBit j <;> cases (os.getD i 0).toNat.testBit j <;> simp
  · simp
/-- The torn row, laid byte by byte as far as the pick reaches. -/
theorem edTo_torn {os ns ps : List Int} (ho : ∀ z ∈ os, 0 ≤ z ∧ z ≤ 255) (hn : ∀ z ∈ ns, 0 ≤ z ∧ z ≤ 255) (hc : canN os ns = true) :
    edTo (tornAt os ns ps) ns (min os.length ps.length) = tornN os ns ps := by
  have l1 := ((canN_iff ho hn).1 hc).1
  rw [tornN, if_pos hc, edTo, tornTo]
  refine List.map_congr_left fun i hi => ?_
  have hi2 := List.mem_range.1 hi
  by_cases h : i < min os.length ps.length
  · rw [if_pos h, if_pos hi2]
  · rw [if_neg h, if_pos hi2]
    have e1 : ps.getD i 0 = 0 := by simp [List.getD, List.getElem?_eq_none (show ps.length ≤ i by omega)]
    have a := byte_getD ho i
    have b := byte_getD hn i
    rw [tornAt, e1, u8_and _ _ a.1 (by omega) (by omega) (by omega)]
    have : (os.getD i 0).toNat &&& (0 : Int).toNat = 0 := by simp
    rw [this, u8_or _ _ b.1 (by omega) (by omega) (by omega)]
    rw [show (((0 : Nat) : Int)).toNat = 0 from rfl, Nat.or_zero]; omega
/-- Torn by what is torn already: the same. -/
theorem torn_torn {os ns ps : List Int} (ho : ∀ z ∈ os, 0 ≤ z ∧ z ≤ 255) (hn : ∀ z ∈ ns, 0 ≤ z ∧ z ≤ 255) (hp : ∀ z ∈ ps, 0 ≤ z ∧ z ≤ 255) (hc : canN os ns = true) : tornN os ns (tornN os ns ps) = tornN os ns ps := by
  obtain ⟨l1, h1⟩ := (canN_iff ho hn).1 hc
  rw [tornN, if_pos hc]
  conv => rhs; rw [tornN, if_pos hc]
  unfold tornTo
  refine List.map_congr_left fun i hi => ?_
  have hi2 := List.mem_range.1 hi
  rw [if_pos hi2, if_pos hi2]
  have e : (tornN os ns ps).getD i 0 = tornAt os ns ps i := by rw [tornN, if_pos hc, tornTo_getD, if_pos hi2, if_pos hi2]
  have a := byte_getD ho i
  have b := byte_getD hn i
  have c := byte_getD hp i
  have d := bits_and_bd _ _ a c
  have t := tornAt_byte ho hn hp i
  have d2 := bits_and_bd _ _ a t
  have h1i := h1 i
  conv => lhs; rw [tornAt, e, u8_or _ _ b.1 (by omega) d2.1 (by omega), u8_and _ _ a.1 (by omega) t.1 (by omega), Int.toNat_natCast]
  conv => rhs; rw [tornAt, u8_or _ _ b.1 (by omega) d.1 (by omega), u8_and _ _ a.1 (by omega) c.1 (by omega), Int.toNat_natCast]
  rw [tornAt, u8_or _ _ b.1 (by omega) d.1 (by omega), u8_and _ _ a.1 (by omega) c.1 (by omega), Int.toNat_natCast, Int.toNat_natCast]
  congr 1
  rw [← h1i]
  apply Nat.eq_of_testBit_eq; intro j
  simp only [Nat.testBit_and, Nat.testBit_or]
  cases (ns.getD i 0).toNat.testBit j <;> cases (os.getD i 0).toNat.testBit j <;> simp



set_option maxRecDepth 100000 in
set_option maxHeartbeats 4000000 in
theorem tornlaw_any (A1 A2 A3 : Option Addr) (n1 c1 n2 c2 n3 c3 : Nat) (zs bs cs : List Int) (w : World) (h1 : Bs w A1 n1 c1 zs) (h2 : Bs w A2 n2 c2 bs) (h3 : Bs w A3 n3 c3 cs) :
    Calls Try.prog 5 #[.slice A1 n1 c1, .slice A2 n2 c2, .slice A3 n3 c3] w fun e w' => e = .returned (.bool true) ∧ Below w.heap.size w w' := by
  have SH := Lib.hid fun w' (hb : Below w.heap.size w w') => same_below hb (short_any A1 A2 A3 n1 c1 n2 c2 n3 c3 w')
  cases hs : shortB n1 n2 n3 with
  | false =>
    rw [hs] at SH
    clear hs
    go_enter Try.func5, Try.ntmps5
    go_wp2_with fail
    refine (alive1_b _).mono ?_
    rintro e w1 ⟨rfl, B1⟩
    go_wp2_with fail
    refine (SH.out _ B1.out).mono ?_
    rintro e w2 ⟨rfl, B2⟩
    go_wp2
    go_ret
    exact ⟨rfl, B2.out⟩
  | true =>
    rw [hs] at SH
    have hsn : n1 ≤ 400 ∧ n2 ≤ 400 ∧ n3 ≤ 400 := by simpa [shortB] using hs
    obtain ⟨hn1, hn2, hn3⟩ := hsn
    have L1 := Lib.hid h1.len
    have L2 := Lib.hid h2.len
    have L3 := Lib.hid h3.len
    have mx1 := h1.le
    have mx2 := h2.le
    have mx3 := h3.le
    have H1 := Lib.hid h1
    have H2 := Lib.hid h2
    have H3 := Lib.hid h3
    have bm := andN_byte h1.byte h2.byte
    have cm := canN_andN h1.byte h2.byte
    have G1 : Hid (betweenN zs (andN zs bs) (tornN zs (andN zs bs) cs) = true) := by unfold betweenN; rw [cm, canN_os_torn h1.byte bm h3.byte cm, canN_torn h1.byte bm h3.byte cm]; rfl
    have G2 : Hid (betweenN zs (andN zs bs) zs = true) := by unfold betweenN; rw [cm, canN_refl h1.byte]; rfl
    have G3 : Hid (betweenN zs (andN zs bs) (andN zs bs) = true) := by unfold betweenN; rw [cm, canN_refl bm]; rfl
    have G4 : Hid (tornN zs (andN zs bs) (tornN zs (andN zs bs) cs) = tornN zs (andN zs bs) cs) := torn_torn h1.byte bm h3.byte cm
    have G5 : Hid (edTo (tornAt zs (andN zs bs) cs) (andN zs bs) (min zs.length cs.length) = tornN zs (andN zs bs) cs) := edTo_torn h1.byte bm cm
    have ML : Hid ((andN zs bs).length = n1) := by rw [andN, edTo_length]; exact h1.len
    have TL : Hid ((tornN zs (andN zs bs) cs).length = n1) := by rw [tornN, if_pos cm, tornTo_length]; exact ML
    clear h1 h2 h3 hs bm cm
    go_enter Try.func5, Try.ntmps5
    go_wp2_with fail
    refine (alive1_b _).mono ?_
    rintro e w1 ⟨rfl, B1⟩
    go_wp2_with fail
    refine (SH.out _ B1.out).mono ?_
    rintro e w2 ⟨rfl, B2⟩
    -- 9 slot of the loop's number, andAt the byte's law, bits_and_bd its bounds, and the operation, bs the picked row, H2 its H, n2 its length's name
    have hsz := B2.out.size
    go_wp2_with (at_builtin; refine wpList_append_bs (Own.nil _ w.heap.size) (bs_below H1.out B2.out) (by simp; omega) hsz rfl rfl rfl rfl rfl ?_; intro v' w4 ho4 hk4)
    rw [List.nil_append] at ho4
    obtain ⟨A, cap, hv, hbs, -⟩ := ho4.shape
    rw [L1.out] at hv hbs
    subst hv
    have hle := hbs.le
    have hmx := hbs.max
    have HO := Lib.hid ho4
    have B4 := Lib.hid (below_keeps B2.out hk4 (fun i e => by simp [Value.ownBlock] at e))
    clear ho4 hk4 hbs SH B1 B2
    go_loopw [9] (fun i wr => ∃ k : Nat, k ≤ min n1 n2 ∧ i = .int .i64 k ∧ Own wr w.heap.size (.slice A n1 cap) (edTo (andAt zs bs) zs k) ∧ Below w.heap.size w wr) (fun i _ => min n1 n2 - (intOf i).toNat)
    case atStart => exact ⟨0, Nat.zero_le _, rfl, by rw [edTo_zero]; exact HO.out, B4.out⟩
    case round =>
      obtain ⟨k, hkn, rfl, hO, hB⟩ := hrel
      by_cases hlt : k < min n1 n2
      · have hlt1 : k < n1 := by omega
        have hlt2 : k < n2 := by omega
        obtain ⟨g, rfl, hg1, -, -, -, -, hgc, hgf⟩ := hO.at_ hlt1
        generalize (edTo (andAt zs bs) zs k).getD k 0 = z9 at hgc
        obtain ⟨bl1, of1, x1, rfl, hx1, hx1a, hx1b, hc1⟩ := (bs_below H1.out hB).get hlt1
        obtain ⟨bl2, of2, x2, rfl, hx2, hx2a, hx2b, hc2⟩ := (bs_below H2.out hB).get hlt2
        have z4 := bits_and_bd x1 x2 ⟨hx1a, hx1b⟩ ⟨hx2a, hx2b⟩
        have ef : andAt zs bs k = bits .and .u8 x1 x2 := by rw [andAt, hx1, hx2]
        have hO2 := hO.store rfl k _ z4 (by rw [edTo_length, L1.out]; exact hlt1)
        rw [← ef, edTo_succ _ _ _ (by rw [L1.out]; exact hlt1), ef] at hO2
        have HO2 := Lib.hid hO2
        have HB := Lib.hid hB
        clear hO hO2 hB ef hx1 hx2 HO B4
        go_wp2
        obtain ⟨mS, mh⟩ : ∃ S : World → Prop, ∀ w', S w' ↔ (w'.cell? ⟨bl1, of1 + k, none⟩ = some (.int .u8 x1) ∧ w'.cell? ⟨bl2, of2 + k, none⟩ = some (.int .u8 x2)) := ⟨_, fun _ => Iff.rfl⟩
        have mk0 : ∀ x : Memb mS, x.at_.cell? ⟨bl1, of1 + k, none⟩ = some (.int .u8 x1) := fun x => ((mh _).1 x.is).1
        have mk1 : ∀ x : Memb mS, x.at_.cell? ⟨bl2, of2 + k, none⟩ = some (.int .u8 x2) := fun x => ((mh _).1 x.is).2
        have mn : Nonempty (Memb mS) := ⟨⟨(wr).drew, (mh _).2 ⟨hc1, hc2⟩⟩⟩
        have mH := Lib.hid mh
        clear mh
        refine wp_region_mix [12] (InS mS) (by kernel_rfl) (by kernel_rfl) (InS.mk ((mH.out _).2 ⟨hc1, hc2⟩)) ?_
        refine wpMix_seg 12 (by kernel_rfl) (by decide) ?_
        simp only [List.take_succ_cons, List.take_zero, List.drop_succ_cons, List.drop_zero]
        repeat (go_big_quiet_step (fail))
        refine wpQuiet_nil ?_
        refine wpMix_eff (by kernel_rfl) ?_
        go_wp2
        refine MixK.last (by kernel_rfl) ?_
        refine wpMix_nil ?_
        clear mk0 mk1 mn mH
        go_wp2
        go_roundw
        case rel => exact ⟨k + 1, by omega, by go_num, HO2.out.drew, below_keeps HB.out (((Keeps.refl (fun b => w.heap.size ≤ b) _).setCell _ _ (fun _ => hg1)).drew) (fun _ h => h)⟩
        case measure => simp [intOf]; omega
      · have e : k = min n1 n2 := by omega
        have hM : Bs wr A n1 cap (edTo (andAt zs bs) zs (min zs.length (bs).length)) := by
          obtain ⟨A', cap', e1, e2, _⟩ := hO.shape
          rw [edTo_length, L1.out] at e1 e2
          cases e1
          rw [L1.out, L2.out, ← e]; exact e2
        have HM := Lib.hid hM
        have HB := Lib.hid hB
        clear hM hO hB HO B4
        have HM2 : Hid (Bs wr A n1 cap (andN zs bs)) := HM
        have H1' := Lib.hid (bs_below H1.out HB.out)
        have H3' := Lib.hid (bs_below H3.out HB.out)
        clear HM H1 H2 H3
        generalize andN zs bs = mid at *
        by_cases hk1 : k < n1
        · have hk2 : n2 ≤ k := by omega
          clear hlt e hkn
          obtain ⟨wv, rfl⟩ : ∃ x, x = wr := ⟨_, rfl⟩
          go_wp2_with (at_builtin; refine wpList_append_bs (Own.nil _ wv.heap.size) HM2.out (by simp; omega) (Nat.le_refl _) rfl rfl rfl rfl rfl ?_; intro v6 w6 ho6 hk6)
          rw [List.nil_append] at ho6
          obtain ⟨A6, cap6, hv6, hbs6, -⟩ := ho6.shape
          rw [ML.out] at hv6 hbs6
          subst hv6
          have hle6 := hbs6.le
          have hmx6 := hbs6.max
          have HO6 := Lib.hid ho6
          have B6 := Lib.hid (below_keeps (Below.refl wv.heap.size wv) hk6 (fun i e => by simp [Value.ownBlock] at e))
          clear ho6 hk6 hbs6
          go_loopw [11] (fun i wr => ∃ j : Nat, j ≤ min n1 n3 ∧ i = .int .i64 j ∧ Own wr wv.heap.size (.slice A6 n1 cap6) (edTo (tornAt zs mid cs) mid j) ∧ Below wv.heap.size wv wr) (fun i _ => min n1 n3 - (intOf i).toNat)
          case atStart => exact ⟨0, Nat.zero_le _, rfl, by rw [edTo_zero]; exact HO6.out, B6.out⟩
          case round =>
            obtain ⟨j, hjn, rfl, hO, hB⟩ := hrel
            by_cases hlt : j < min n1 n3
            · have hlt1 : j < n1 := by omega
              have hlt3 : j < n3 := by omega
              obtain ⟨g, rfl, hg1, -, -, -, -, hgc, hgf⟩ := hO.at_ hlt1
              generalize (edTo (tornAt zs mid cs) mid j).getD j 0 = z9 at hgc
              obtain ⟨bl0, of0, x0, rfl, hx0, hx0a, hx0b, hc0⟩ := (bs_below HM2.out hB).get hlt1
              obtain ⟨bl1, of1, x1, rfl, hx1, hx1a, hx1b, hc1⟩ := (bs_below H1'.out hB).get hlt1
              obtain ⟨bl3, of3, x3, rfl, hx3, hx3a, hx3b, hc3⟩ := (bs_below H3'.out hB).get hlt3
              have z5 := bits_and_bd x1 x3 ⟨hx1a, hx1b⟩ ⟨hx3a, hx3b⟩
              have z4 := bits_or_bd x0 _ ⟨hx0a, hx0b⟩ z5
              have ef : tornAt zs mid cs j = bits .or .u8 x0 (bits .and .u8 x1 x3) := by rw [tornAt, hx0, hx1, hx3]
              have hO2 := hO.store rfl j _ z4 (by rw [edTo_length, ML.out]; exact hlt1)
              rw [← ef, edTo_succ _ _ _ (by rw [ML.out]; exact hlt1), ef] at hO2
              have HO2 := Lib.hid hO2
              have HB2 := Lib.hid hB
              clear hO hO2 hB ef hx0 hx1 hx3 HO6 B6
              go_wp2
              obtain ⟨mS, mh⟩ : ∃ S : World → Prop, ∀ w', S w' ↔ (w'.cell? ⟨bl0, of0 + j, none⟩ = some (.int .u8 x0) ∧ w'.cell? ⟨bl1, of1 + j, none⟩ = some (.int .u8 x1) ∧ w'.cell? ⟨bl3, of3 + j, none⟩ = some (.int .u8 x3)) := ⟨_, fun _ => Iff.rfl⟩
              have mk0 : ∀ x : Memb mS, x.at_.cell? ⟨bl0, of0 + j, none⟩ = some (.int .u8 x0) := fun x => ((mh _).1 x.is).1
              have mk1 : ∀ x : Memb mS, x.at_.cell? ⟨bl1, of1 + j, none⟩ = some (.int .u8 x1) := fun x => ((mh _).1 x.is).2.1
              have mk2 : ∀ x : Memb mS, x.at_.cell? ⟨bl3, of3 + j, none⟩ = some (.int .u8 x3) := fun x => ((mh _).1 x.is).2.2
              have mn : Nonempty (Memb mS) := ⟨⟨(wr).drew, (mh _).2 ⟨hc0, hc1, hc3⟩⟩⟩
              have mH := Lib.hid mh
              clear mh
              refine wp_region_mix [17] (InS mS) (by kernel_rfl) (by kernel_rfl) (InS.mk ((mH.out _).2 ⟨hc0, hc1, hc3⟩)) ?_
              refine wpMix_seg 17 (by kernel_rfl) (by decide) ?_
              simp only [List.take_succ_cons, List.take_zero, List.drop_succ_cons, List.drop_zero]
              repeat (go_big_quiet_step (fail))
              refine wpQuiet_nil ?_
              refine wpMix_eff (by kernel_rfl) ?_
              go_wp2
              refine MixK.last (by kernel_rfl) ?_
              refine wpMix_nil ?_
              clear mk0 mk1 mk2 mn mH
              go_wp2
              go_roundw
              case rel => exact ⟨j + 1, by omega, by go_num, HO2.out.drew, below_keeps HB2.out (((Keeps.refl (fun b => wv.heap.size ≤ b) _).setCell _ _ (fun _ => hg1)).drew) (fun _ h => h)⟩
              case measure => simp [intOf]; omega
            · have e6 : j = min n1 n3 := by omega
              have hF : Bs wr A6 n1 cap6 (tornN zs mid cs) := by
                have hO3 : Own wr wv.heap.size (.slice A6 n1 cap6) (tornN zs mid cs) := by rw [← G5.out, L1.out, L3.out, ← e6]; exact hO
                obtain ⟨A', cap', e1, e2, _⟩ := hO3.shape
                rw [TL.out] at e1 e2
                cases e1
                exact e2
              have HF := Lib.hid hF
              have HB6 := Lib.hid hB
              clear hF hO hB HO6 B6
              by_cases hj1 : j < n1
              · have hj2 : n3 ≤ j := by omega
                clear hlt e6 hjn
                have TORN := Lib.hid (cloned_below (Below.refl wr.heap.size wr) (torn_any A1 A A3 n1 c1 n1 cap n3 c3 zs mid cs wr (bs_below H1'.out HB6.out) (bs_below HM2.out HB6.out) (bs_below H3'.out HB6.out) (by omega)))
                go_wp2_with fail
                refine TORN.out.mono ?_
                rintro e w5 ⟨A5, n5, c5, rfl, T5, B5⟩
                have n5e : n5 = n1 := by rw [← T5.out.len, TL.out]
                subst n5e
                have le5 := T5.out.le
                have mx5 := T5.out.max
                have Q1 := Lib.hid (bs_below (bs_below H1'.out HB6.out) B5.out)
                have QM := Lib.hid (bs_below (bs_below HM2.out HB6.out) B5.out)
                have QF := Lib.hid (bs_below HF.out B5.out)
                have STR := Lib.hid fun w' (hb : Below w5.heap.size w5 w') => run_str (bs_below QF.out hb)
                have BT := Lib.hid fun w' (hb : Below w5.heap.size w5 w') => told_below hb (between_any A1 A A5 _ c1 _ cap _ c5 zs mid _ w' (bs_below Q1.out hb) (bs_below QM.out hb) (bs_below T5.out hb))
                have BF := Lib.hid fun w' (hb : Below w5.heap.size w5 w') => told_below hb (between_any A1 A A6 _ c1 _ cap _ cap6 zs mid _ w' (bs_below Q1.out hb) (bs_below QM.out hb) (bs_below QF.out hb))
                have BO := Lib.hid fun w' (hb : Below w5.heap.size w5 w') => told_below hb (between_any A1 A A1 _ c1 _ cap _ c1 zs mid _ w' (bs_below Q1.out hb) (bs_below QM.out hb) (bs_below Q1.out hb))
                have BM := Lib.hid fun w' (hb : Below w5.heap.size w5 w') => told_below hb (between_any A1 A A _ c1 _ cap _ cap zs mid _ w' (bs_below Q1.out hb) (bs_below QM.out hb) (bs_below QM.out hb))
                have TT := Lib.hid fun w' (hb : Below w5.heap.size w5 w') => cloned_below hb (torn_any A1 A A6 _ c1 _ cap _ cap6 zs mid _ w' (bs_below Q1.out hb) (bs_below QM.out hb) (bs_below QF.out hb) (by omega))
                rw [G1.out] at BT BF
                rw [G2.out] at BO
                rw [G3.out] at BM
                rw [G4.out] at TT
                have HB5 := Lib.hid (below_far (below_far HB.out HB6.out) B5.out)
                obtain ⟨sm, HSM⟩ : ∃ sm, Hid (strOf (tornN zs mid cs) = sm) := ⟨_, rfl⟩
                rw [HSM.out] at STR
                clear TORN T5 HM2 H1' H3' L1 L2 L3 HB B5 HB6 HF G1 G2 G3 G4 G5 Q1 QM QF ML TL
                go_wp2
                obtain ⟨mS, mh⟩ : ∃ S : World → Prop, ∀ w', S w' ↔ (((convert 22 9 (.slice A6 n5 cap6)).run Try.prog w' = .ok (.string sm) w')) := ⟨_, fun _ => Iff.rfl⟩
                have mk0 : ∀ x : Memb mS, (convert 22 9 (.slice A6 n5 cap6)).run Try.prog x.at_ = .ok (.string sm) x.at_ := fun x => ((mh _).1 x.is)
                have mn : Nonempty (Memb mS) := ⟨⟨(w5).drew, (mh _).2 (STR.out _ (below_drew (Below.refl _ _)))⟩⟩
                have mH := Lib.hid mh
                clear mh
                refine wp_region_mix [9, 15, 21, 22, 31, 37] (InS mS) (by kernel_rfl) (by kernel_rfl) (InS.mk ((mH.out _).2 (STR.out _ (below_drew (Below.refl _ _))))) ?_
                refine wpMix_seg 9 (by kernel_rfl) (by decide) ?_
                simp only [List.take_succ_cons, List.take_zero, List.drop_succ_cons, List.drop_zero]
                repeat (first | go_big_quiet_step (fail) | (go_big_quiet_want; first | refine quiet_conv mk0 rfl rfl rfl (by simp only [Act.put, List.setIfInBounds_toArray, List.set_cons_succ, List.set_cons_zero]; rfl) ?_; go_big_quiet_on))
                refine wpQuiet_nil ?_
                refine wpMix_eff (by kernel_rfl) ?_
                go_wp2_with fail
                refine (BT.out _ (below_drew (Below.refl _ _))).mono ?_
                rintro e w6 ⟨rfl, B6⟩
                go_wp2
                refine MixK.on (InS.mk ((mH.out _).2 (STR.out _ B6.out))) ?_
                refine wpMix_seg 5 (by kernel_rfl) (by decide) ?_
                simp only [List.take_succ_cons, List.take_zero, List.drop_succ_cons, List.drop_zero]
                repeat (first | go_big_quiet_step (fail) | (go_big_quiet_want; first | refine quiet_conv mk0 rfl rfl rfl (by simp only [Act.put, List.setIfInBounds_toArray, List.set_cons_succ, List.set_cons_zero]; rfl) ?_; go_big_quiet_on))
                refine wpQuiet_nil ?_
                refine wpMix_eff (by kernel_rfl) ?_
                go_wp2_with fail
                refine (BF.out _ B6.out).mono ?_
                rintro e w7 ⟨rfl, B7⟩
                go_wp2
                refine MixK.on (InS.mk ((mH.out _).2 (STR.out _ B7.out))) ?_
                refine wpMix_seg 5 (by kernel_rfl) (by decide) ?_
                simp only [List.take_succ_cons, List.take_zero, List.drop_succ_cons, List.drop_zero]
                repeat (first | go_big_quiet_step (fail) | (go_big_quiet_want; first | refine quiet_conv mk0 rfl rfl rfl (by simp only [Act.put, List.setIfInBounds_toArray, List.set_cons_succ, List.set_cons_zero]; rfl) ?_; go_big_quiet_on))
                refine wpQuiet_nil ?_
                refine wpMix_eff (by kernel_rfl) ?_
                go_wp2_with fail
                refine (TT.out _ B7.out).mono ?_
                rintro e w8 ⟨A8, n8, c8, rfl, T8, B8⟩
                have s8 := run_str T8.out
                rw [HSM.out] at s8
                go_wp2
                refine MixK.on (InS.mk ((mH.out _).2 (STR.out _ B8.out))) ?_
                refine wpMix_eff (by kernel_rfl) ?_
                go_wp2
                clear s8
                refine MixK.on (InS.mk ((mH.out _).2 (STR.out _ B8.out))) ?_
                refine wpMix_seg 8 (by kernel_rfl) (by decide) ?_
                simp only [List.take_succ_cons, List.take_zero, List.drop_succ_cons, List.drop_zero]
                repeat (first | go_big_quiet_step (fail) | (go_big_quiet_want; first | refine quiet_conv mk0 rfl rfl rfl (by simp only [Act.put, List.setIfInBounds_toArray, List.set_cons_succ, List.set_cons_zero]; rfl) ?_; go_big_quiet_on))
                refine wpQuiet_nil ?_
                refine wpMix_eff (by kernel_rfl) ?_
                go_wp2_with fail
                refine (BO.out _ B8.out).mono ?_
                rintro e w9 ⟨rfl, B9⟩
                go_wp2
                refine MixK.on (InS.mk ((mH.out _).2 (STR.out _ B9.out))) ?_
                refine wpMix_seg 5 (by kernel_rfl) (by decide) ?_
                simp only [List.take_succ_cons, List.take_zero, List.drop_succ_cons, List.drop_zero]
                repeat (first | go_big_quiet_step (fail) | (go_big_quiet_want; first | refine quiet_conv mk0 rfl rfl rfl (by simp only [Act.put, List.setIfInBounds_toArray, List.set_cons_succ, List.set_cons_zero]; rfl) ?_; go_big_quiet_on))
                refine wpQuiet_nil ?_
                refine wpMix_eff (by kernel_rfl) ?_
                go_wp2_with fail
                refine (BM.out _ B9.out).mono ?_
                rintro e w10 ⟨rfl, B10⟩
                go_wp2
                refine MixK.on (InS.mk ((mH.out _).2 (STR.out _ B10.out))) ?_
                refine wpMix_seg 2 (by kernel_rfl) (by decide) ?_
                simp only [List.take_succ_cons, List.take_zero, List.drop_succ_cons, List.drop_zero]
                repeat (first | go_big_quiet_step (fail) | (go_big_quiet_want; first | refine quiet_conv mk0 rfl rfl rfl (by simp only [Act.put, List.setIfInBounds_toArray, List.set_cons_succ, List.set_cons_zero]; rfl) ?_; go_big_quiet_on))
                refine wpQuiet_nil ?_
                refine wpMix_nil ?_
                clear mk0 mn mH
                go_wp2
                go_ret
                exact ⟨rfl, below_far HB5.out B10.out⟩
              · have hj2 : n1 ≤ j := by omega
                clear hlt e6 hjn hj1
                have TORN := Lib.hid (cloned_below (Below.refl wr.heap.size wr) (torn_any A1 A A3 n1 c1 n1 cap n3 c3 zs mid cs wr (bs_below H1'.out HB6.out) (bs_below HM2.out HB6.out) (bs_below H3'.out HB6.out) (by omega)))
                go_wp2_with fail
                refine TORN.out.mono ?_
                rintro e w5 ⟨A5, n5, c5, rfl, T5, B5⟩
                have n5e : n5 = n1 := by rw [← T5.out.len, TL.out]
                subst n5e
                have le5 := T5.out.le
                have mx5 := T5.out.max
                have Q1 := Lib.hid (bs_below (bs_below H1'.out HB6.out) B5.out)
                have QM := Lib.hid (bs_below (bs_below HM2.out HB6.out) B5.out)
                have QF := Lib.hid (bs_below HF.out B5.out)
                have STR := Lib.hid fun w' (hb : Below w5.heap.size w5 w') => run_str (bs_below QF.out hb)
                have BT := Lib.hid fun w' (hb : Below w5.heap.size w5 w') => told_below hb (between_any A1 A A5 _ c1 _ cap _ c5 zs mid _ w' (bs_below Q1.out hb) (bs_below QM.out hb) (bs_below T5.out hb))
                have BF := Lib.hid fun w' (hb : Below w5.heap.size w5 w') => told_below hb (between_any A1 A A6 _ c1 _ cap _ cap6 zs mid _ w' (bs_below Q1.out hb) (bs_below QM.out hb) (bs_below QF.out hb))
                have BO := Lib.hid fun w' (hb : Below w5.heap.size w5 w') => told_below hb (between_any A1 A A1 _ c1 _ cap _ c1 zs mid _ w' (bs_below Q1.out hb) (bs_below QM.out hb) (bs_below Q1.out hb))
                have BM := Lib.hid fun w' (hb : Below w5.heap.size w5 w') => told_below hb (between_any A1 A A _ c1 _ cap _ cap zs mid _ w' (bs_below Q1.out hb) (bs_below QM.out hb) (bs_below QM.out hb))
                have TT := Lib.hid fun w' (hb : Below w5.heap.size w5 w') => cloned_below hb (torn_any A1 A A6 _ c1 _ cap _ cap6 zs mid _ w' (bs_below Q1.out hb) (bs_below QM.out hb) (bs_below QF.out hb) (by omega))
                rw [G1.out] at BT BF
                rw [G2.out] at BO
                rw [G3.out] at BM
                rw [G4.out] at TT
                have HB5 := Lib.hid (below_far (below_far HB.out HB6.out) B5.out)
                obtain ⟨sm, HSM⟩ : ∃ sm, Hid (strOf (tornN zs mid cs) = sm) := ⟨_, rfl⟩
                rw [HSM.out] at STR
                clear TORN T5 HM2 H1' H3' L1 L2 L3 HB B5 HB6 HF G1 G2 G3 G4 G5 Q1 QM QF ML TL
                go_wp2
                obtain ⟨mS, mh⟩ : ∃ S : World → Prop, ∀ w', S w' ↔ (((convert 22 9 (.slice A6 n5 cap6)).run Try.prog w' = .ok (.string sm) w')) := ⟨_, fun _ => Iff.rfl⟩
                have mk0 : ∀ x : Memb mS, (convert 22 9 (.slice A6 n5 cap6)).run Try.prog x.at_ = .ok (.string sm) x.at_ := fun x => ((mh _).1 x.is)
                have mn : Nonempty (Memb mS) := ⟨⟨(w5).drew, (mh _).2 (STR.out _ (below_drew (Below.refl _ _)))⟩⟩
                have mH := Lib.hid mh
                clear mh
                refine wp_region_mix [9, 15, 21, 22, 31, 37] (InS mS) (by kernel_rfl) (by kernel_rfl) (InS.mk ((mH.out _).2 (STR.out _ (below_drew (Below.refl _ _))))) ?_
                refine wpMix_seg 9 (by kernel_rfl) (by decide) ?_
                simp only [List.take_succ_cons, List.take_zero, List.drop_succ_cons, List.drop_zero]
                repeat (first | go_big_quiet_step (fail) | (go_big_quiet_want; first | refine quiet_conv mk0 rfl rfl rfl (by simp only [Act.put, List.setIfInBounds_toArray, List.set_cons_succ, List.set_cons_zero]; rfl) ?_; go_big_quiet_on))
                refine wpQuiet_nil ?_
                refine wpMix_eff (by kernel_rfl) ?_
                go_wp2_with fail
                refine (BT.out _ (below_drew (Below.refl _ _))).mono ?_
                rintro e w6 ⟨rfl, B6⟩
                go_wp2
                refine MixK.on (InS.mk ((mH.out _).2 (STR.out _ B6.out))) ?_
                refine wpMix_seg 5 (by kernel_rfl) (by decide) ?_
                simp only [List.take_succ_cons, List.take_zero, List.drop_succ_cons, List.drop_zero]
                repeat (first | go_big_quiet_step (fail) | (go_big_quiet_want; first | refine quiet_conv mk0 rfl rfl rfl (by simp only [Act.put, List.setIfInBounds_toArray, List.set_cons_succ, List.set_cons_zero]; rfl) ?_; go_big_quiet_on))
                refine wpQuiet_nil ?_
                refine wpMix_eff (by kernel_rfl) ?_
                go_wp2_with fail
                refine (BF.out _ B6.out).mono ?_
                rintro e w7 ⟨rfl, B7⟩
                go_wp2
                refine MixK.on (InS.mk ((mH.out _).2 (STR.out _ B7.out))) ?_
                refine wpMix_seg 5 (by kernel_rfl) (by decide) ?_
                simp only [List.take_succ_cons, List.take_zero, List.drop_succ_cons, List.drop_zero]
                repeat (first | go_big_quiet_step (fail) | (go_big_quiet_want; first | refine quiet_conv mk0 rfl rfl rfl (by simp only [Act.put, List.setIfInBounds_toArray, List.set_cons_succ, List.set_cons_zero]; rfl) ?_; go_big_quiet_on))
                refine wpQuiet_nil ?_
                refine wpMix_eff (by kernel_rfl) ?_
                go_wp2_with fail
                refine (TT.out _ B7.out).mono ?_
                rintro e w8 ⟨A8, n8, c8, rfl, T8, B8⟩
                have s8 := run_str T8.out
                rw [HSM.out] at s8
                go_wp2
                refine MixK.on (InS.mk ((mH.out _).2 (STR.out _ B8.out))) ?_
                refine wpMix_eff (by kernel_rfl) ?_
                go_wp2
                clear s8
                refine MixK.on (InS.mk ((mH.out _).2 (STR.out _ B8.out))) ?_
                refine wpMix_seg 8 (by kernel_rfl) (by decide) ?_
                simp only [List.take_succ_cons, List.take_zero, List.drop_succ_cons, List.drop_zero]
                repeat (first | go_big_quiet_step (fail) | (go_big_quiet_want; first | refine quiet_conv mk0 rfl rfl rfl (by simp only [Act.put, List.setIfInBounds_toArray, List.set_cons_succ, List.set_cons_zero]; rfl) ?_; go_big_quiet_on))
                refine wpQuiet_nil ?_
                refine wpMix_eff (by kernel_rfl) ?_
                go_wp2_with fail
                refine (BO.out _ B8.out).mono ?_
                rintro e w9 ⟨rfl, B9⟩
                go_wp2
                refine MixK.on (InS.mk ((mH.out _).2 (STR.out _ B9.out))) ?_
                refine wpMix_seg 5 (by kernel_rfl) (by decide) ?_
                simp only [List.take_succ_cons, List.take_zero, List.drop_succ_cons, List.drop_zero]
                repeat (first | go_big_quiet_step (fail) | (go_big_quiet_want; first | refine quiet_conv mk0 rfl rfl rfl (by simp only [Act.put, List.setIfInBounds_toArray, List.set_cons_succ, List.set_cons_zero]; rfl) ?_; go_big_quiet_on))
                refine wpQuiet_nil ?_
                refine wpMix_eff (by kernel_rfl) ?_
                go_wp2_with fail
                refine (BM.out _ B9.out).mono ?_
                rintro e w10 ⟨rfl, B10⟩
                go_wp2
                refine MixK.on (InS.mk ((mH.out _).2 (STR.out _ B10.out))) ?_
                refine wpMix_seg 2 (by kernel_rfl) (by decide) ?_
                simp only [List.take_succ_cons, List.take_zero, List.drop_succ_cons, List.drop_zero]
                repeat (first | go_big_quiet_step (fail) | (go_big_quiet_want; first | refine quiet_conv mk0 rfl rfl rfl (by simp only [Act.put, List.setIfInBounds_toArray, List.set_cons_succ, List.set_cons_zero]; rfl) ?_; go_big_quiet_on))
                refine wpQuiet_nil ?_
                refine wpMix_nil ?_
                clear mk0 mn mH
                go_wp2
                go_ret
                exact ⟨rfl, below_far HB5.out B10.out⟩
        · have hk2 : n1 ≤ k := by omega
          clear hlt e hkn hk1
          obtain ⟨wv, rfl⟩ : ∃ x, x = wr := ⟨_, rfl⟩
          go_wp2_with (at_builtin; refine wpList_append_bs (Own.nil _ wv.heap.size) HM2.out (by simp; omega) (Nat.le_refl _) rfl rfl rfl rfl rfl ?_; intro v6 w6 ho6 hk6)
          rw [List.nil_append] at ho6
          obtain ⟨A6, cap6, hv6, hbs6, -⟩ := ho6.shape
          rw [ML.out] at hv6 hbs6
          subst hv6
          have hle6 := hbs6.le
          have hmx6 := hbs6.max
          have HO6 := Lib.hid ho6
          have B6 := Lib.hid (below_keeps (Below.refl wv.heap.size wv) hk6 (fun i e => by simp [Value.ownBlock] at e))
          clear ho6 hk6 hbs6
          go_loopw [11] (fun i wr => ∃ j : Nat, j ≤ min n1 n3 ∧ i = .int .i64 j ∧ Own wr wv.heap.size (.slice A6 n1 cap6) (edTo (tornAt zs mid cs) mid j) ∧ Below wv.heap.size wv wr) (fun i _ => min n1 n3 - (intOf i).toNat)
          case atStart => exact ⟨0, Nat.zero_le _, rfl, by rw [edTo_zero]; exact HO6.out, B6.out⟩
          case round =>
            obtain ⟨j, hjn, rfl, hO, hB⟩ := hrel
            by_cases hlt : j < min n1 n3
            · have hlt1 : j < n1 := by omega
              have hlt3 : j < n3 := by omega
              obtain ⟨g, rfl, hg1, -, -, -, -, hgc, hgf⟩ := hO.at_ hlt1
              generalize (edTo (tornAt zs mid cs) mid j).getD j 0 = z9 at hgc
              obtain ⟨bl0, of0, x0, rfl, hx0, hx0a, hx0b, hc0⟩ := (bs_below HM2.out hB).get hlt1
              obtain ⟨bl1, of1, x1, rfl, hx1, hx1a, hx1b, hc1⟩ := (bs_below H1'.out hB).get hlt1
              obtain ⟨bl3, of3, x3, rfl, hx3, hx3a, hx3b, hc3⟩ := (bs_below H3'.out hB).get hlt3
              have z5 := bits_and_bd x1 x3 ⟨hx1a, hx1b⟩ ⟨hx3a, hx3b⟩
              have z4 := bits_or_bd x0 _ ⟨hx0a, hx0b⟩ z5
              have ef : tornAt zs mid cs j = bits .or .u8 x0 (bits .and .u8 x1 x3) := by rw [tornAt, hx0, hx1, hx3]
              have hO2 := hO.store rfl j _ z4 (by rw [edTo_length, ML.out]; exact hlt1)
              rw [← ef, edTo_succ _ _ _ (by rw [ML.out]; exact hlt1), ef] at hO2
              have HO2 := Lib.hid hO2
              have HB2 := Lib.hid hB
              clear hO hO2 hB ef hx0 hx1 hx3 HO6 B6
              go_wp2
              obtain ⟨mS, mh⟩ : ∃ S : World → Prop, ∀ w', S w' ↔ (w'.cell? ⟨bl0, of0 + j, none⟩ = some (.int .u8 x0) ∧ w'.cell? ⟨bl1, of1 + j, none⟩ = some (.int .u8 x1) ∧ w'.cell? ⟨bl3, of3 + j, none⟩ = some (.int .u8 x3)) := ⟨_, fun _ => Iff.rfl⟩
              have mk0 : ∀ x : Memb mS, x.at_.cell? ⟨bl0, of0 + j, none⟩ = some (.int .u8 x0) := fun x => ((mh _).1 x.is).1
              have mk1 : ∀ x : Memb mS, x.at_.cell? ⟨bl1, of1 + j, none⟩ = some (.int .u8 x1) := fun x => ((mh _).1 x.is).2.1
              have mk2 : ∀ x : Memb mS, x.at_.cell? ⟨bl3, of3 + j, none⟩ = some (.int .u8 x3) := fun x => ((mh _).1 x.is).2.2
              have mn : Nonempty (Memb mS) := ⟨⟨(wr).drew, (mh _).2 ⟨hc0, hc1, hc3⟩⟩⟩
              have mH := Lib.hid mh
              clear mh
              refine wp_region_mix [17] (InS mS) (by kernel_rfl) (by kernel_rfl) (InS.mk ((mH.out _).2 ⟨hc0, hc1, hc3⟩)) ?_
              refine wpMix_seg 17 (by kernel_rfl) (by decide) ?_
              simp only [List.take_succ_cons, List.take_zero, List.drop_succ_cons, List.drop_zero]
              repeat (go_big_quiet_step (fail))
              refine wpQuiet_nil ?_
              refine wpMix_eff (by kernel_rfl) ?_
              go_wp2
              refine MixK.last (by kernel_rfl) ?_
              refine wpMix_nil ?_
              clear mk0 mk1 mk2 mn mH
              go_wp2
              go_roundw
              case rel => exact ⟨j + 1, by omega, by go_num, HO2.out.drew, below_keeps HB2.out (((Keeps.refl (fun b => wv.heap.size ≤ b) _).setCell _ _ (fun _ => hg1)).drew) (fun _ h => h)⟩
              case measure => simp [intOf]; omega
            · have e6 : j = min n1 n3 := by omega
              have hF : Bs wr A6 n1 cap6 (tornN zs mid cs) := by
                have hO3 : Own wr wv.heap.size (.slice A6 n1 cap6) (tornN zs mid cs) := by rw [← G5.out, L1.out, L3.out, ← e6]; exact hO
                obtain ⟨A', cap', e1, e2, _⟩ := hO3.shape
                rw [TL.out] at e1 e2
                cases e1
                exact e2
              have HF := Lib.hid hF
              have HB6 := Lib.hid hB
              clear hF hO hB HO6 B6
              by_cases hj1 : j < n1
              · have hj2 : n3 ≤ j := by omega
                clear hlt e6 hjn
                have TORN := Lib.hid (cloned_below (Below.refl wr.heap.size wr) (torn_any A1 A A3 n1 c1 n1 cap n3 c3 zs mid cs wr (bs_below H1'.out HB6.out) (bs_below HM2.out HB6.out) (bs_below H3'.out HB6.out) (by omega)))
                go_wp2_with fail
                refine TORN.out.mono ?_
                rintro e w5 ⟨A5, n5, c5, rfl, T5, B5⟩
                have n5e : n5 = n1 := by rw [← T5.out.len, TL.out]
                subst n5e
                have le5 := T5.out.le
                have mx5 := T5.out.max
                have Q1 := Lib.hid (bs_below (bs_below H1'.out HB6.out) B5.out)
                have QM := Lib.hid (bs_below (bs_below HM2.out HB6.out) B5.out)
                have QF := Lib.hid (bs_below HF.out B5.out)
                have STR := Lib.hid fun w' (hb : Below w5.heap.size w5 w') => run_str (bs_below QF.out hb)
                have BT := Lib.hid fun w' (hb : Below w5.heap.size w5 w') => told_below hb (between_any A1 A A5 _ c1 _ cap _ c5 zs mid _ w' (bs_below Q1.out hb) (bs_below QM.out hb) (bs_below T5.out hb))
                have BF := Lib.hid fun w' (hb : Below w5.heap.size w5 w') => told_below hb (between_any A1 A A6 _ c1 _ cap _ cap6 zs mid _ w' (bs_below Q1.out hb) (bs_below QM.out hb) (bs_below QF.out hb))
                have BO := Lib.hid fun w' (hb : Below w5.heap.size w5 w') => told_below hb (between_any A1 A A1 _ c1 _ cap _ c1 zs mid _ w' (bs_below Q1.out hb) (bs_below QM.out hb) (bs_below Q1.out hb))
                have BM := Lib.hid fun w' (hb : Below w5.heap.size w5 w') => told_below hb (between_any A1 A A _ c1 _ cap _ cap zs mid _ w' (bs_below Q1.out hb) (bs_below QM.out hb) (bs_below QM.out hb))
                have TT := Lib.hid fun w' (hb : Below w5.heap.size w5 w') => cloned_below hb (torn_any A1 A A6 _ c1 _ cap _ cap6 zs mid _ w' (bs_below Q1.out hb) (bs_below QM.out hb) (bs_below QF.out hb) (by omega))
                rw [G1.out] at BT BF
                rw [G2.out] at BO
                rw [G3.out] at BM
                rw [G4.out] at TT
                have HB5 := Lib.hid (below_far (below_far HB.out HB6.out) B5.out)
                obtain ⟨sm, HSM⟩ : ∃ sm, Hid (strOf (tornN zs mid cs) = sm) := ⟨_, rfl⟩
                rw [HSM.out] at STR
                clear TORN T5 HM2 H1' H3' L1 L2 L3 HB B5 HB6 HF G1 G2 G3 G4 G5 Q1 QM QF ML TL
                go_wp2
                obtain ⟨mS, mh⟩ : ∃ S : World → Prop, ∀ w', S w' ↔ (((convert 22 9 (.slice A6 n5 cap6)).run Try.prog w' = .ok (.string sm) w')) := ⟨_, fun _ => Iff.rfl⟩
                have mk0 : ∀ x : Memb mS, (convert 22 9 (.slice A6 n5 cap6)).run Try.prog x.at_ = .ok (.string sm) x.at_ := fun x => ((mh _).1 x.is)
                have mn : Nonempty (Memb mS) := ⟨⟨(w5).drew, (mh _).2 (STR.out _ (below_drew (Below.refl _ _)))⟩⟩
                have mH := Lib.hid mh
                clear mh
                refine wp_region_mix [9, 15, 21, 22, 31, 37] (InS mS) (by kernel_rfl) (by kernel_rfl) (InS.mk ((mH.out _).2 (STR.out _ (below_drew (Below.refl _ _))))) ?_
                refine wpMix_seg 9 (by kernel_rfl) (by decide) ?_
                simp only [List.take_succ_cons, List.take_zero, List.drop_succ_cons, List.drop_zero]
                repeat (first | go_big_quiet_step (fail) | (go_big_quiet_want; first | refine quiet_conv mk0 rfl rfl rfl (by simp only [Act.put, List.setIfInBounds_toArray, List.set_cons_succ, List.set_cons_zero]; rfl) ?_; go_big_quiet_on))
                refine wpQuiet_nil ?_
                refine wpMix_eff (by kernel_rfl) ?_
                go_wp2_with fail
                refine (BT.out _ (below_drew (Below.refl _ _))).mono ?_
                rintro e w6 ⟨rfl, B6⟩
                go_wp2
                refine MixK.on (InS.mk ((mH.out _).2 (STR.out _ B6.out))) ?_
                refine wpMix_seg 5 (by kernel_rfl) (by decide) ?_
                simp only [List.take_succ_cons, List.take_zero, List.drop_succ_cons, List.drop_zero]
                repeat (first | go_big_quiet_step (fail) | (go_big_quiet_want; first | refine quiet_conv mk0 rfl rfl rfl (by simp only [Act.put, List.setIfInBounds_toArray, List.set_cons_succ, List.set_cons_zero]; rfl) ?_; go_big_quiet_on))
                refine wpQuiet_nil ?_
                refine wpMix_eff (by kernel_rfl) ?_
                go_wp2_with fail
                refine (BF.out _ B6.out).mono ?_
                rintro e w7 ⟨rfl, B7⟩
                go_wp2
                refine MixK.on (InS.mk ((mH.out _).2 (STR.out _ B7.out))) ?_
                refine wpMix_seg 5 (by kernel_rfl) (by decide) ?_
                simp only [List.take_succ_cons, List.take_zero, List.drop_succ_cons, List.drop_zero]
                repeat (first | go_big_quiet_step (fail) | (go_big_quiet_want; first | refine quiet_conv mk0 rfl rfl rfl (by simp only [Act.put, List.setIfInBounds_toArray, List.set_cons_succ, List.set_cons_zero]; rfl) ?_; go_big_quiet_on))
                refine wpQuiet_nil ?_
                refine wpMix_eff (by kernel_rfl) ?_
                go_wp2_with fail
                refine (TT.out _ B7.out).mono ?_
                rintro e w8 ⟨A8, n8, c8, rfl, T8, B8⟩
                have s8 := run_str T8.out
                rw [HSM.out] at s8
                go_wp2
                refine MixK.on (InS.mk ((mH.out _).2 (STR.out _ B8.out))) ?_
                refine wpMix_eff (by kernel_rfl) ?_
                go_wp2
                clear s8
                refine MixK.on (InS.mk ((mH.out _).2 (STR.out _ B8.out))) ?_
                refine wpMix_seg 8 (by kernel_rfl) (by decide) ?_
                simp only [List.take_succ_cons, List.take_zero, List.drop_succ_cons, List.drop_zero]
                repeat (first | go_big_quiet_step (fail) | (go_big_quiet_want; first | refine quiet_conv mk0 rfl rfl rfl (by simp only [Act.put, List.setIfInBounds_toArray, List.set_cons_succ, List.set_cons_zero]; rfl) ?_; go_big_quiet_on))
                refine wpQuiet_nil ?_
                refine wpMix_eff (by kernel_rfl) ?_
                go_wp2_with fail
                refine (BO.out _ B8.out).mono ?_
                rintro e w9 ⟨rfl, B9⟩
                go_wp2
                refine MixK.on (InS.mk ((mH.out _).2 (STR.out _ B9.out))) ?_
                refine wpMix_seg 5 (by kernel_rfl) (by decide) ?_
                simp only [List.take_succ_cons, List.take_zero, List.drop_succ_cons, List.drop_zero]
                repeat (first | go_big_quiet_step (fail) | (go_big_quiet_want; first | refine quiet_conv mk0 rfl rfl rfl (by simp only [Act.put, List.setIfInBounds_toArray, List.set_cons_succ, List.set_cons_zero]; rfl) ?_; go_big_quiet_on))
                refine wpQuiet_nil ?_
                refine wpMix_eff (by kernel_rfl) ?_
                go_wp2_with fail
                refine (BM.out _ B9.out).mono ?_
                rintro e w10 ⟨rfl, B10⟩
                go_wp2
                refine MixK.on (InS.mk ((mH.out _).2 (STR.out _ B10.out))) ?_
                refine wpMix_seg 2 (by kernel_rfl) (by decide) ?_
                simp only [List.take_succ_cons, List.take_zero, List.drop_succ_cons, List.drop_zero]
                repeat (first | go_big_quiet_step (fail) | (go_big_quiet_want; first | refine quiet_conv mk0 rfl rfl rfl (by simp only [Act.put, List.setIfInBounds_toArray, List.set_cons_succ, List.set_cons_zero]; rfl) ?_; go_big_quiet_on))
                refine wpQuiet_nil ?_
                refine wpMix_nil ?_
                clear mk0 mn mH
                go_wp2
                go_ret
                exact ⟨rfl, below_far HB5.out B10.out⟩
              · have hj2 : n1 ≤ j := by omega
                clear hlt e6 hjn hj1
                have TORN := Lib.hid (cloned_below (Below.refl wr.heap.size wr) (torn_any A1 A A3 n1 c1 n1 cap n3 c3 zs mid cs wr (bs_below H1'.out HB6.out) (bs_below HM2.out HB6.out) (bs_below H3'.out HB6.out) (by omega)))
                go_wp2_with fail
                refine TORN.out.mono ?_
                rintro e w5 ⟨A5, n5, c5, rfl, T5, B5⟩
                have n5e : n5 = n1 := by rw [← T5.out.len, TL.out]
                subst n5e
                have le5 := T5.out.le
                have mx5 := T5.out.max
                have Q1 := Lib.hid (bs_below (bs_below H1'.out HB6.out) B5.out)
                have QM := Lib.hid (bs_below (bs_below HM2.out HB6.out) B5.out)
                have QF := Lib.hid (bs_below HF.out B5.out)
                have STR := Lib.hid fun w' (hb : Below w5.heap.size w5 w') => run_str (bs_below QF.out hb)
                have BT := Lib.hid fun w' (hb : Below w5.heap.size w5 w') => told_below hb (between_any A1 A A5 _ c1 _ cap _ c5 zs mid _ w' (bs_below Q1.out hb) (bs_below QM.out hb) (bs_below T5.out hb))
                have BF := Lib.hid fun w' (hb : Below w5.heap.size w5 w') => told_below hb (between_any A1 A A6 _ c1 _ cap _ cap6 zs mid _ w' (bs_below Q1.out hb) (bs_below QM.out hb) (bs_below QF.out hb))
                have BO := Lib.hid fun w' (hb : Below w5.heap.size w5 w') => told_below hb (between_any A1 A A1 _ c1 _ cap _ c1 zs mid _ w' (bs_below Q1.out hb) (bs_below QM.out hb) (bs_below Q1.out hb))
                have BM := Lib.hid fun w' (hb : Below w5.heap.size w5 w') => told_below hb (between_any A1 A A _ c1 _ cap _ cap zs mid _ w' (bs_below Q1.out hb) (bs_below QM.out hb) (bs_below QM.out hb))
                have TT := Lib.hid fun w' (hb : Below w5.heap.size w5 w') => cloned_below hb (torn_any A1 A A6 _ c1 _ cap _ cap6 zs mid _ w' (bs_below Q1.out hb) (bs_below QM.out hb) (bs_below QF.out hb) (by omega))
                rw [G1.out] at BT BF
                rw [G2.out] at BO
                rw [G3.out] at BM
                rw [G4.out] at TT
                have HB5 := Lib.hid (below_far (below_far HB.out HB6.out) B5.out)
                obtain ⟨sm, HSM⟩ : ∃ sm, Hid (strOf (tornN zs mid cs) = sm) := ⟨_, rfl⟩
                rw [HSM.out] at STR
                clear TORN T5 HM2 H1' H3' L1 L2 L3 HB B5 HB6 HF G1 G2 G3 G4 G5 Q1 QM QF ML TL
                go_wp2
                obtain ⟨mS, mh⟩ : ∃ S : World → Prop, ∀ w', S w' ↔ (((convert 22 9 (.slice A6 n5 cap6)).run Try.prog w' = .ok (.string sm) w')) := ⟨_, fun _ => Iff.rfl⟩
                have mk0 : ∀ x : Memb mS, (convert 22 9 (.slice A6 n5 cap6)).run Try.prog x.at_ = .ok (.string sm) x.at_ := fun x => ((mh _).1 x.is)
                have mn : Nonempty (Memb mS) := ⟨⟨(w5).drew, (mh _).2 (STR.out _ (below_drew (Below.refl _ _)))⟩⟩
                have mH := Lib.hid mh
                clear mh
                refine wp_region_mix [9, 15, 21, 22, 31, 37] (InS mS) (by kernel_rfl) (by kernel_rfl) (InS.mk ((mH.out _).2 (STR.out _ (below_drew (Below.refl _ _))))) ?_
                refine wpMix_seg 9 (by kernel_rfl) (by decide) ?_
                simp only [List.take_succ_cons, List.take_zero, List.drop_succ_cons, List.drop_zero]
                repeat (first | go_big_quiet_step (fail) | (go_big_quiet_want; first | refine quiet_conv mk0 rfl rfl rfl (by simp only [Act.put, List.setIfInBounds_toArray, List.set_cons_succ, List.set_cons_zero]; rfl) ?_; go_big_quiet_on))
                refine wpQuiet_nil ?_
                refine wpMix_eff (by kernel_rfl) ?_
                go_wp2_with fail
                refine (BT.out _ (below_drew (Below.refl _ _))).mono ?_
                rintro e w6 ⟨rfl, B6⟩
                go_wp2
                refine MixK.on (InS.mk ((mH.out _).2 (STR.out _ B6.out))) ?_
                refine wpMix_seg 5 (by kernel_rfl) (by decide) ?_
                simp only [List.take_succ_cons, List.take_zero, List.drop_succ_cons, List.drop_zero]
                repeat (first | go_big_quiet_step (fail) | (go_big_quiet_want; first | refine quiet_conv mk0 rfl rfl rfl (by simp only [Act.put, List.setIfInBounds_toArray, List.set_cons_succ, List.set_cons_zero]; rfl) ?_; go_big_quiet_on))
                refine wpQuiet_nil ?_
                refine wpMix_eff (by kernel_rfl) ?_
                go_wp2_with fail
                refine (BF.out _ B6.out).mono ?_
                rintro e w7 ⟨rfl, B7⟩
                go_wp2
                refine MixK.on (InS.mk ((mH.out _).2 (STR.out _ B7.out))) ?_
                refine wpMix_seg 5 (by kernel_rfl) (by decide) ?_
                simp only [List.take_succ_cons, List.take_zero, List.drop_succ_cons, List.drop_zero]
                repeat (first | go_big_quiet_step (fail) | (go_big_quiet_want; first | refine quiet_conv mk0 rfl rfl rfl (by simp only [Act.put, List.setIfInBounds_toArray, List.set_cons_succ, List.set_cons_zero]; rfl) ?_; go_big_quiet_on))
                refine wpQuiet_nil ?_
                refine wpMix_eff (by kernel_rfl) ?_
                go_wp2_with fail
                refine (TT.out _ B7.out).mono ?_
                rintro e w8 ⟨A8, n8, c8, rfl, T8, B8⟩
                have s8 := run_str T8.out
                rw [HSM.out] at s8
                go_wp2
                refine MixK.on (InS.mk ((mH.out _).2 (STR.out _ B8.out))) ?_
                refine wpMix_eff (by kernel_rfl) ?_
                go_wp2
                clear s8
                refine MixK.on (InS.mk ((mH.out _).2 (STR.out _ B8.out))) ?_
                refine wpMix_seg 8 (by kernel_rfl) (by decide) ?_
                simp only [List.take_succ_cons, List.take_zero, List.drop_succ_cons, List.drop_zero]
                repeat (first | go_big_quiet_step (fail) | (go_big_quiet_want; first | refine quiet_conv mk0 rfl rfl rfl (by simp only [Act.put, List.setIfInBounds_toArray, List.set_cons_succ, List.set_cons_zero]; rfl) ?_; go_big_quiet_on))
                refine wpQuiet_nil ?_
                refine wpMix_eff (by kernel_rfl) ?_
                go_wp2_with fail
                refine (BO.out _ B8.out).mono ?_
                rintro e w9 ⟨rfl, B9⟩
                go_wp2
                refine MixK.on (InS.mk ((mH.out _).2 (STR.out _ B9.out))) ?_
                refine wpMix_seg 5 (by kernel_rfl) (by decide) ?_
                simp only [List.take_succ_cons, List.take_zero, List.drop_succ_cons, List.drop_zero]
                repeat (first | go_big_quiet_step (fail) | (go_big_quiet_want; first | refine quiet_conv mk0 rfl rfl rfl (by simp only [Act.put, List.setIfInBounds_toArray, List.set_cons_succ, List.set_cons_zero]; rfl) ?_; go_big_quiet_on))
                refine wpQuiet_nil ?_
                refine wpMix_eff (by kernel_rfl) ?_
                go_wp2_with fail
                refine (BM.out _ B9.out).mono ?_
                rintro e w10 ⟨rfl, B10⟩
                go_wp2
                refine MixK.on (InS.mk ((mH.out _).2 (STR.out _ B10.out))) ?_
                refine wpMix_seg 2 (by kernel_rfl) (by decide) ?_
                simp only [List.take_succ_cons, List.take_zero, List.drop_succ_cons, List.drop_zero]
                repeat (first | go_big_quiet_step (fail) | (go_big_quiet_want; first | refine quiet_conv mk0 rfl rfl rfl (by simp only [Act.put, List.setIfInBounds_toArray, List.set_cons_succ, List.set_cons_zero]; rfl) ?_; go_big_quiet_on))
                refine wpQuiet_nil ?_
                refine wpMix_nil ?_
                clear mk0 mn mH
                go_wp2
                go_ret
                exact ⟨rfl, below_far HB5.out B10.out⟩
end Go.Proofs.Ytmpijfehmngmgaa
