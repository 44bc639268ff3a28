/- The law NorHalf: its walk. -/
import Derived.Test.YtmpijfehmngmgaaNorTwice
namespace Go.Proofs.Ytmpijfehmngmgaa
open Go.RowKit

theorem halfN_byte {os ps : List Int} (ho : ∀ z ∈ os, 0 ≤ z ∧ z ≤ 255) (hp : ∀ z ∈ ps, 0 ≤ z ∧ z ≤ 255) : ∀ z ∈ halfN os ps, 0 ≤ z ∧ z ≤ 255 := by
  intro z hz
  obtain ⟨i, _, rfl⟩ := List.mem_map.1 hz
  split
  · exact bits_or_bd _ _ (byte_getD ho i) (byte_getD hp i)
  · exact byte_getD ho i
theorem halfN_getD (os ps : List Int) (i : Nat) : (halfN os ps).getD i 0 = if i < os.length then halfAt os ps i else 0 := by
  by_cases hi : i < os.length <;> simp [halfN, halfTo, List.getD, hi]
theorem halfN_length (os ps : List Int) : (halfN os ps).length = os.length := halfTo_length _ _ _
theorem edTo_half {os ps : List Int} (ho : ∀ z ∈ os, 0 ≤ z ∧ z ≤ 255) : edTo (halfAt os ps) os (min os.length ps.length) = halfN os ps := by
  unfold edTo halfN halfTo
  refine List.map_congr_left fun i hi => ?_
  have hi2 := List.mem_range.1 hi
  by_cases h : i < min os.length ps.length
  · rw [if_pos h, if_pos hi2]
  · rw [if_neg h, if_pos hi2]
    have e1 : ps.getD i 0 = 0 := by simp [List.getD, List.getElem?_eq_none (show ps.length ≤ i by omega)]
    have a := byte_getD ho i
    rw [halfAt, e1, u8_or _ _ a.1 (by omega) (by omega) (by omega)]
    rw [show ((0 : Int)).toNat = 0 from rfl, Nat.or_zero]; omega
theorem canN_half {os ps : List Int} (ho : ∀ z ∈ os, 0 ≤ z ∧ z ≤ 255) (hp : ∀ z ∈ ps, 0 ≤ z ∧ z ≤ 255) : canN (halfN os ps) os = true := by
  refine (canN_iff (halfN_byte ho hp) ho).2 ⟨halfN_length _ _, fun i => ?_⟩
  rw [halfN_getD]
  split
  · have a := byte_getD ho i
    have b := byte_getD hp i
    rw [halfAt, u8_or _ _ a.1 (by omega) b.1 (by omega), Int.toNat_natCast, land_lor]
  · have e1 : os.getD i 0 = 0 := by simp [List.getD, List.getElem?_eq_none (show os.length ≤ i by omega)]
    rw [e1]; rfl
theorem lor_lor (a b : Nat) : a ||| (a ||| b) = a ||| b := by
  apply Nat.eq_of_testBit_eq; intro i; simp only [Nat.testBit_or]; cases a.testBit i <;> simp
theorem half_half {os ps : List Int} (ho : ∀ z ∈ os, 0 ≤ z ∧ z ≤ 255) (hp : ∀ z ∈ ps, 0 ≤ z ∧ z ≤ 255) : halfN os (halfN os ps) = halfN os ps := by
  conv => lhs; unfold halfN halfTo
  conv => rhs; unfold halfN halfTo
  refine List.map_congr_left fun i hi => ?_
  have hi2 := List.mem_range.1 hi
  rw [if_pos hi2, if_pos hi2]
  have e : (List.map (fun i => if i < os.length then halfAt os ps i else os.getD i 0) (List.range os.length)).getD i 0 = halfAt os ps i := by have := halfN_getD os ps i; rw [if_pos hi2] at this; exact this
  have a := byte_getD ho i
  have b := byte_getD hp i
  have t := bits_or_bd _ _ a b
  conv => lhs; rw [halfAt]
  rw [e]
  have t2 : 0 ≤ halfAt os ps i ∧ halfAt os ps i ≤ 255 := t
  rw [u8_or _ _ a.1 (by omega) t2.1 (by omega)]
  rw [halfAt, u8_or _ _ a.1 (by omega) b.1 (by omega), Int.toNat_natCast, lor_lor]
theorem lor_255 (b : Nat) (h : b ≤ 255) : 255 ||| b = 255 := by
  have h1 : 255 ||| b < 2 ^ 8 := Nat.or_lt_two_pow (by omega) (by omega)
  have h2 : 255 ≤ 255 ||| b := Nat.left_le_or
  omega
theorem blank_half (n : Int) {ps : List Int} (hp : ∀ z ∈ ps, 0 ≤ z ∧ z ≤ 255) : blankB (halfN (blankN n) ps) = true := by
  simp only [blankB, decide_eq_true_eq]
  intro i hi
  rw [halfN_length] at hi
  rw [halfN_getD, if_pos hi]
  have b := byte_getD hp i
  have e2 : (blankN n).getD i 0 = 255 := by
    have hi' : i < (max 0 (min n 65536)).toNat := by simpa [blankN] using hi
    simp [blankN, List.getD, hi']
  rw [halfAt, e2, u8_or _ _ (by omega) (by omega) b.1 (by omega)]
  rw [show ((255 : Int)).toNat = 255 from rfl, lor_255 _ (by omega)]; rfl


set_option maxRecDepth 100000 in
set_option maxHeartbeats 4000000 in
theorem halflaw_any (A1 A2 : Option Addr) (n1 c1 n2 c2 : Nat) (zs bs : List Int) (w : World) (h1 : Bs w A1 n1 c1 zs) (h2 : Bs w A2 n2 c2 bs) :
    Calls Try.prog 6 #[.slice A1 n1 c1, .slice A2 n2 c2] w fun e w' => e = .returned (.bool true) ∧ Below w.heap.size w w' := by
  have SH := Lib.hid fun w' (hb : Below w.heap.size w w') => same_below hb (short_any A1 A2 none n1 c1 n2 c2 0 0 w')
  cases hs : shortB n1 n2 0 with
  | false =>
    rw [hs] at SH
    clear hs
    go_enter Try.func6, Try.ntmps6
    go_wp2_with fail
    refine (alive1_b _).mono ?_
    rintro e w1 ⟨rfl, B1⟩
    go_wp2_with fail
    refine (SH.out _ B1.out).mono ?_
    rintro e w2 ⟨rfl, B2⟩
    go_wp2
    go_ret
    exact ⟨rfl, B2.out⟩
  | true =>
    rw [hs] at SH
    have hsn : n1 ≤ 400 ∧ n2 ≤ 400 := by simpa [shortB] using hs
    obtain ⟨hn1, hn2⟩ := hsn
    have L1 := Lib.hid h1.len
    have L2 := Lib.hid h2.len
    have mx1 := h1.le
    have mx2 := h2.le
    have H1 := Lib.hid h1
    have H2 := Lib.hid h2
    have G1 : Hid (canN (halfN zs bs) zs = true) := canN_half h1.byte h2.byte
    have G2 : Hid (halfN zs (halfN zs bs) = halfN zs bs) := half_half h1.byte h2.byte
    have G3 : Hid (blankB (halfN (blankN n1) bs) = true) := blank_half _ h2.byte
    have G4 : Hid (canN (blankN n1) zs = true) := by
      have := canN_blank h1.byte (by rw [h1.len]; omega)
      rw [h1.len] at this; exact this
    have G5 : Hid (edTo (halfAt zs bs) zs (min zs.length bs.length) = halfN zs bs) := edTo_half h1.byte
    have ML : Hid ((halfN zs bs).length = n1) := by show (halfN zs bs).length = n1; rw [halfN_length]; exact h1.len
    clear h1 h2 hs
    go_enter Try.func6, Try.ntmps6
    go_wp2_with fail
    refine (alive1_b _).mono ?_
    rintro e w1 ⟨rfl, B1⟩
    go_wp2_with fail
    refine (SH.out _ B1.out).mono ?_
    rintro e w2 ⟨rfl, B2⟩
    -- 7 slot of the loop's number, halfAt the byte's law, bits_or_bd its bounds, or the operation, bs the picked row, H2 its H, n2 its length's name
    have hsz := B2.out.size
    go_wp2_with (at_builtin; refine wpList_append_bs (Own.nil _ w.heap.size) (bs_below H1.out B2.out) (by simp; omega) hsz rfl rfl rfl rfl rfl ?_; intro v' w4 ho4 hk4)
    rw [List.nil_append] at ho4
    obtain ⟨A, cap, hv, hbs, -⟩ := ho4.shape
    rw [L1.out] at hv hbs
    subst hv
    have hle := hbs.le
    have hmx := hbs.max
    have HO := Lib.hid ho4
    have B4 := Lib.hid (below_keeps B2.out hk4 (fun i e => by simp [Value.ownBlock] at e))
    clear ho4 hk4 hbs SH B1 B2
    go_loopw [7] (fun i wr => ∃ k : Nat, k ≤ min n1 n2 ∧ i = .int .i64 k ∧ Own wr w.heap.size (.slice A n1 cap) (edTo (halfAt zs bs) zs k) ∧ Below w.heap.size w wr) (fun i _ => min n1 n2 - (intOf i).toNat)
    case atStart => exact ⟨0, Nat.zero_le _, rfl, by rw [edTo_zero]; exact HO.out, B4.out⟩
    case round =>
      obtain ⟨k, hkn, rfl, hO, hB⟩ := hrel
      by_cases hlt : k < min n1 n2
      · have hlt1 : k < n1 := by omega
        have hlt2 : k < n2 := by omega
        obtain ⟨g, rfl, hg1, -, -, -, -, hgc, hgf⟩ := hO.at_ hlt1
        generalize (edTo (halfAt zs bs) zs k).getD k 0 = z9 at hgc
        obtain ⟨bl1, of1, x1, rfl, hx1, hx1a, hx1b, hc1⟩ := (bs_below H1.out hB).get hlt1
        obtain ⟨bl2, of2, x2, rfl, hx2, hx2a, hx2b, hc2⟩ := (bs_below H2.out hB).get hlt2
        have z4 := bits_or_bd x1 x2 ⟨hx1a, hx1b⟩ ⟨hx2a, hx2b⟩
        have ef : halfAt zs bs k = bits .or .u8 x1 x2 := by rw [halfAt, hx1, hx2]
        have hO2 := hO.store rfl k _ z4 (by rw [edTo_length, L1.out]; exact hlt1)
        rw [← ef, edTo_succ _ _ _ (by rw [L1.out]; exact hlt1), ef] at hO2
        have HO2 := Lib.hid hO2
        have HB := Lib.hid hB
        clear hO hO2 hB ef hx1 hx2 HO B4
        go_wp2
        obtain ⟨mS, mh⟩ : ∃ S : World → Prop, ∀ w', S w' ↔ (w'.cell? ⟨bl1, of1 + k, none⟩ = some (.int .u8 x1) ∧ w'.cell? ⟨bl2, of2 + k, none⟩ = some (.int .u8 x2)) := ⟨_, fun _ => Iff.rfl⟩
        have mk0 : ∀ x : Memb mS, x.at_.cell? ⟨bl1, of1 + k, none⟩ = some (.int .u8 x1) := fun x => ((mh _).1 x.is).1
        have mk1 : ∀ x : Memb mS, x.at_.cell? ⟨bl2, of2 + k, none⟩ = some (.int .u8 x2) := fun x => ((mh _).1 x.is).2
        have mn : Nonempty (Memb mS) := ⟨⟨(wr).drew, (mh _).2 ⟨hc1, hc2⟩⟩⟩
        have mH := Lib.hid mh
        clear mh
        refine wp_region_mix [12] (InS mS) (by kernel_rfl) (by kernel_rfl) (InS.mk ((mH.out _).2 ⟨hc1, hc2⟩)) ?_
        refine wpMix_seg 12 (by kernel_rfl) (by decide) ?_
        simp only [List.take_succ_cons, List.take_zero, List.drop_succ_cons, List.drop_zero]
        repeat (go_big_quiet_step (fail))
        refine wpQuiet_nil ?_
        refine wpMix_eff (by kernel_rfl) ?_
        go_wp2
        refine MixK.last (by kernel_rfl) ?_
        refine wpMix_nil ?_
        clear mk0 mk1 mn mH
        go_wp2
        go_roundw
        case rel => exact ⟨k + 1, by omega, by go_num, HO2.out.drew, below_keeps HB.out (((Keeps.refl (fun b => w.heap.size ≤ b) _).setCell _ _ (fun _ => hg1)).drew) (fun _ h => h)⟩
        case measure => simp [intOf]; omega
      · have e : k = min n1 n2 := by omega
        have hM : Bs wr A n1 cap (edTo (halfAt zs bs) zs (min zs.length (bs).length)) := by
          obtain ⟨A', cap', e1, e2, _⟩ := hO.shape
          rw [edTo_length, L1.out] at e1 e2
          cases e1
          rw [L1.out, L2.out, ← e]; exact e2
        have HM := Lib.hid hM
        have HB := Lib.hid hB
        clear hM hO hB HO B4
        rw [G5.out] at HM
        have HM2 : Hid (Bs wr A n1 cap (halfN zs bs)) := HM
        have H1' := Lib.hid (bs_below H1.out HB.out)
        have H2' := Lib.hid (bs_below H2.out HB.out)
        clear HM H1 H2 G5
        by_cases hk1 : k < n1
        · have hk2 : n2 ≤ k := by omega
          clear hlt e hkn
          have HALF := Lib.hid (cloned_below (Below.refl wr.heap.size wr) (half_any A1 A2 n1 c1 n2 c2 zs bs wr H1'.out H2'.out (by omega)))
          go_wp2_with fail
          refine HALF.out.mono ?_
          rintro e w5 ⟨A5, n5, c5, rfl, T5, B5⟩
          have n5e : n5 = n1 := by rw [← T5.out.len, ML.out]
          subst n5e
          have le5 := T5.out.le
          have mx5 := T5.out.max
          have Q1 := Lib.hid (bs_below H1'.out B5.out)
          have Q2 := Lib.hid (bs_below H2'.out B5.out)
          have QM := Lib.hid (bs_below HM2.out B5.out)
          have STR := Lib.hid fun w' (hb : Below w5.heap.size w5 w') => run_str (bs_below QM.out hb)
          have R1 := Lib.hid fun w' (hb : Below w5.heap.size w5 w') => told_below hb (risen_any A1 A5 _ c1 _ c5 zs _ w' (bs_below Q1.out hb) (bs_below T5.out hb))
          have R2 := Lib.hid fun w' (hb : Below w5.heap.size w5 w') => told_below hb (risen_any A1 A _ c1 _ cap zs _ w' (bs_below Q1.out hb) (bs_below QM.out hb))
          have HH := Lib.hid fun w' (hb : Below w5.heap.size w5 w') => cloned_below hb (half_any A1 A _ c1 _ cap zs _ w' (bs_below Q1.out hb) (bs_below QM.out hb) (by omega))
          have BL := Lib.hid fun w' (hb : Below w5.heap.size w5 w') => cloned_below hb (blank_any n5 w')
          have HB2 := Lib.hid fun w' (hb : Below w5.heap.size w5 w') A8 n8 c8 (h8 : Bs w' A8 n8 c8 (blankN n5)) (hn8 : n8 ≤ 1099511627776) => cloned_below hb (half_any A8 A2 n8 c8 n2 c2 (blankN n5) bs w' h8 (bs_below Q2.out hb) hn8)
          have IB := Lib.hid fun w' (hb : Below w5.heap.size w5 w') A9 n9 c9 (h9 : Bs w' A9 n9 c9 (halfN (blankN n5) bs)) => same_below hb (isBlank_any A9 n9 c9 _ w' h9)
          have R3 := Lib.hid fun w' (hb : Below w5.heap.size w5 w') A8 n8 c8 (h8 : Bs w' A8 n8 c8 (blankN n5)) => told_below hb (risen_any A1 A8 _ c1 n8 c8 zs _ w' (bs_below Q1.out hb) h8)
          have C1 := Lib.hid fun w' (hb : Below w5.heap.size w5 w') => told_below hb (can_any A5 A1 _ c5 _ c1 _ zs w' (bs_below T5.out hb) (bs_below Q1.out hb))
          rw [G1.out] at R1 R2 C1
          rw [G2.out] at HH
          rw [G3.out] at IB
          rw [G4.out] at R3
          have LB : Hid ((blankN (n5 : Int)).length ≤ 65536) := by show (blankN (n5 : Int)).length ≤ 65536; simp [blankN]; omega
          have HB5 := Lib.hid (below_far HB.out B5.out)
          obtain ⟨sm, HSM⟩ : ∃ sm, Hid (strOf (halfN zs bs) = sm) := ⟨_, rfl⟩
          rw [HSM.out] at STR
          clear HALF T5 HM2 H1' H2' L1 L2 HB B5 G1 G2 G3 G4 Q1 Q2 QM ML
          go_wp2
          obtain ⟨mS, mh⟩ : ∃ S : World → Prop, ∀ w', S w' ↔ (((convert 22 9 (.slice A n5 cap)).run Try.prog w' = .ok (.string sm) w')) := ⟨_, fun _ => Iff.rfl⟩
          have mk0 : ∀ x : Memb mS, (convert 22 9 (.slice A n5 cap)).run Try.prog x.at_ = .ok (.string sm) x.at_ := fun x => ((mh _).1 x.is)
          have mn : Nonempty (Memb mS) := ⟨⟨(w5).drew, (mh _).2 (STR.out _ (below_drew (Below.refl _ _)))⟩⟩
          have mH := Lib.hid mh
          clear mh
          refine wp_region_mix [8, 13, 18, 19, 27, 29, 30, 36, 37, 42] (InS mS) (by kernel_rfl) (by kernel_rfl) (InS.mk ((mH.out _).2 (STR.out _ (below_drew (Below.refl _ _))))) ?_
          refine wpMix_seg 8 (by kernel_rfl) (by decide) ?_
          simp only [List.take_succ_cons, List.take_zero, List.drop_succ_cons, List.drop_zero]
          repeat (first | go_big_quiet_step (fail) | (go_big_quiet_want; first | refine quiet_conv mk0 rfl rfl rfl (by simp only [Act.put, List.setIfInBounds_toArray, List.set_cons_succ, List.set_cons_zero]; rfl) ?_; go_big_quiet_on))
          refine wpQuiet_nil ?_
          refine wpMix_eff (by kernel_rfl) ?_
          go_wp2_with fail
          refine (R1.out _ (below_drew (Below.refl _ _))).mono ?_
          rintro e w6 ⟨rfl, B6⟩
          go_wp2
          refine MixK.on (InS.mk ((mH.out _).2 (STR.out _ B6.out))) ?_
          refine wpMix_seg 4 (by kernel_rfl) (by decide) ?_
          simp only [List.take_succ_cons, List.take_zero, List.drop_succ_cons, List.drop_zero]
          repeat (first | go_big_quiet_step (fail) | (go_big_quiet_want; first | refine quiet_conv mk0 rfl rfl rfl (by simp only [Act.put, List.setIfInBounds_toArray, List.set_cons_succ, List.set_cons_zero]; rfl) ?_; go_big_quiet_on))
          refine wpQuiet_nil ?_
          refine wpMix_eff (by kernel_rfl) ?_
          go_wp2_with fail
          refine (R2.out _ B6.out).mono ?_
          rintro e w7 ⟨rfl, B7⟩
          go_wp2
          refine MixK.on (InS.mk ((mH.out _).2 (STR.out _ B7.out))) ?_
          refine wpMix_seg 4 (by kernel_rfl) (by decide) ?_
          simp only [List.take_succ_cons, List.take_zero, List.drop_succ_cons, List.drop_zero]
          repeat (first | go_big_quiet_step (fail) | (go_big_quiet_want; first | refine quiet_conv mk0 rfl rfl rfl (by simp only [Act.put, List.setIfInBounds_toArray, List.set_cons_succ, List.set_cons_zero]; rfl) ?_; go_big_quiet_on))
          refine wpQuiet_nil ?_
          refine wpMix_eff (by kernel_rfl) ?_
          go_wp2_with fail
          refine (HH.out _ B7.out).mono ?_
          rintro e w8 ⟨A8, n8, c8, rfl, T8, B8⟩
          have s8 := run_str T8.out
          rw [HSM.out] at s8
          go_wp2
          refine MixK.on (InS.mk ((mH.out _).2 (STR.out _ B8.out))) ?_
          refine wpMix_eff (by kernel_rfl) ?_
          go_wp2
          clear s8
          refine MixK.on (InS.mk ((mH.out _).2 (STR.out _ B8.out))) ?_
          refine wpMix_seg 7 (by kernel_rfl) (by decide) ?_
          simp only [List.take_succ_cons, List.take_zero, List.drop_succ_cons, List.drop_zero]
          repeat (first | go_big_quiet_step (fail) | (go_big_quiet_want; first | refine quiet_conv mk0 rfl rfl rfl (by simp only [Act.put, List.setIfInBounds_toArray, List.set_cons_succ, List.set_cons_zero]; rfl) ?_; go_big_quiet_on))
          refine wpQuiet_nil ?_
          refine wpMix_eff (by kernel_rfl) ?_
          go_wp2_with fail
          refine (BL.out _ B8.out).mono ?_
          rintro e w9 ⟨A9, n9, c9, rfl, T9, B9⟩
          go_wp2
          refine MixK.on (InS.mk ((mH.out _).2 (STR.out _ B9.out))) ?_
          refine wpMix_seg 1 (by kernel_rfl) (by decide) ?_
          simp only [List.take_succ_cons, List.take_zero, List.drop_succ_cons, List.drop_zero]
          repeat (first | go_big_quiet_step (fail) | (go_big_quiet_want; first | refine quiet_conv mk0 rfl rfl rfl (by simp only [Act.put, List.setIfInBounds_toArray, List.set_cons_succ, List.set_cons_zero]; rfl) ?_; go_big_quiet_on))
          refine wpQuiet_nil ?_
          refine wpMix_eff (by kernel_rfl) ?_
          go_wp2_with fail
          refine (HB2.out _ B9.out _ _ _ T9.out (by have := T9.out.len; have := LB.out; omega)).mono ?_
          rintro e w10 ⟨A10, n10, c10, rfl, T10, B10⟩
          go_wp2
          refine MixK.on (InS.mk ((mH.out _).2 (STR.out _ B10.out))) ?_
          refine wpMix_eff (by kernel_rfl) ?_
          go_wp2_with fail
          refine (IB.out _ B10.out _ _ _ T10.out).mono ?_
          rintro e w11 ⟨rfl, B11⟩
          go_wp2
          refine MixK.on (InS.mk ((mH.out _).2 (STR.out _ B11.out))) ?_
          refine wpMix_seg 5 (by kernel_rfl) (by decide) ?_
          simp only [List.take_succ_cons, List.take_zero, List.drop_succ_cons, List.drop_zero]
          repeat (first | go_big_quiet_step (fail) | (go_big_quiet_want; first | refine quiet_conv mk0 rfl rfl rfl (by simp only [Act.put, List.setIfInBounds_toArray, List.set_cons_succ, List.set_cons_zero]; rfl) ?_; go_big_quiet_on))
          refine wpQuiet_nil ?_
          refine wpMix_eff (by kernel_rfl) ?_
          go_wp2_with fail
          refine (BL.out _ B11.out).mono ?_
          rintro e w12 ⟨A12, n12, c12, rfl, T12, B12⟩
          go_wp2
          refine MixK.on (InS.mk ((mH.out _).2 (STR.out _ B12.out))) ?_
          refine wpMix_eff (by kernel_rfl) ?_
          go_wp2_with fail
          refine (R3.out _ B12.out _ _ _ T12.out).mono ?_
          rintro e w13 ⟨rfl, B13⟩
          go_wp2
          refine MixK.on (InS.mk ((mH.out _).2 (STR.out _ B13.out))) ?_
          refine wpMix_seg 4 (by kernel_rfl) (by decide) ?_
          simp only [List.take_succ_cons, List.take_zero, List.drop_succ_cons, List.drop_zero]
          repeat (first | go_big_quiet_step (fail) | (go_big_quiet_want; first | refine quiet_conv mk0 rfl rfl rfl (by simp only [Act.put, List.setIfInBounds_toArray, List.set_cons_succ, List.set_cons_zero]; rfl) ?_; go_big_quiet_on))
          refine wpQuiet_nil ?_
          refine wpMix_eff (by kernel_rfl) ?_
          go_wp2_with fail
          refine (C1.out _ B13.out).mono ?_
          rintro e w14 ⟨rfl, B14⟩
          go_wp2
          refine MixK.on (InS.mk ((mH.out _).2 (STR.out _ B14.out))) ?_
          refine wpMix_seg 2 (by kernel_rfl) (by decide) ?_
          simp only [List.take_succ_cons, List.take_zero, List.drop_succ_cons, List.drop_zero]
          repeat (first | go_big_quiet_step (fail) | (go_big_quiet_want; first | refine quiet_conv mk0 rfl rfl rfl (by simp only [Act.put, List.setIfInBounds_toArray, List.set_cons_succ, List.set_cons_zero]; rfl) ?_; go_big_quiet_on))
          refine wpQuiet_nil ?_
          refine wpMix_nil ?_
          clear mk0 mn mH
          go_wp2
          go_ret
          exact ⟨rfl, below_far HB5.out B14.out⟩
        · have hk2 : n1 ≤ k := by omega
          clear hlt e hkn hk1
          have HALF := Lib.hid (cloned_below (Below.refl wr.heap.size wr) (half_any A1 A2 n1 c1 n2 c2 zs bs wr H1'.out H2'.out (by omega)))
          go_wp2_with fail
          refine HALF.out.mono ?_
          rintro e w5 ⟨A5, n5, c5, rfl, T5, B5⟩
          have n5e : n5 = n1 := by rw [← T5.out.len, ML.out]
          subst n5e
          have le5 := T5.out.le
          have mx5 := T5.out.max
          have Q1 := Lib.hid (bs_below H1'.out B5.out)
          have Q2 := Lib.hid (bs_below H2'.out B5.out)
          have QM := Lib.hid (bs_below HM2.out B5.out)
          have STR := Lib.hid fun w' (hb : Below w5.heap.size w5 w') => run_str (bs_below QM.out hb)
          have R1 := Lib.hid fun w' (hb : Below w5.heap.size w5 w') => told_below hb (risen_any A1 A5 _ c1 _ c5 zs _ w' (bs_below Q1.out hb) (bs_below T5.out hb))
          have R2 := Lib.hid fun w' (hb : Below w5.heap.size w5 w') => told_below hb (risen_any A1 A _ c1 _ cap zs _ w' (bs_below Q1.out hb) (bs_below QM.out hb))
          have HH := Lib.hid fun w' (hb : Below w5.heap.size w5 w') => cloned_below hb (half_any A1 A _ c1 _ cap zs _ w' (bs_below Q1.out hb) (bs_below QM.out hb) (by omega))
          have BL := Lib.hid fun w' (hb : Below w5.heap.size w5 w') => cloned_below hb (blank_any n5 w')
          have HB2 := Lib.hid fun w' (hb : Below w5.heap.size w5 w') A8 n8 c8 (h8 : Bs w' A8 n8 c8 (blankN n5)) (hn8 : n8 ≤ 1099511627776) => cloned_below hb (half_any A8 A2 n8 c8 n2 c2 (blankN n5) bs w' h8 (bs_below Q2.out hb) hn8)
          have IB := Lib.hid fun w' (hb : Below w5.heap.size w5 w') A9 n9 c9 (h9 : Bs w' A9 n9 c9 (halfN (blankN n5) bs)) => same_below hb (isBlank_any A9 n9 c9 _ w' h9)
          have R3 := Lib.hid fun w' (hb : Below w5.heap.size w5 w') A8 n8 c8 (h8 : Bs w' A8 n8 c8 (blankN n5)) => told_below hb (risen_any A1 A8 _ c1 n8 c8 zs _ w' (bs_below Q1.out hb) h8)
          have C1 := Lib.hid fun w' (hb : Below w5.heap.size w5 w') => told_below hb (can_any A5 A1 _ c5 _ c1 _ zs w' (bs_below T5.out hb) (bs_below Q1.out hb))
          rw [G1.out] at R1 R2 C1
          rw [G2.out] at HH
          rw [G3.out] at IB
          rw [G4.out] at R3
          have LB : Hid ((blankN (n5 : Int)).length ≤ 65536) := by show (blankN (n5 : Int)).length ≤ 65536; simp [blankN]; omega
          have HB5 := Lib.hid (below_far HB.out B5.out)
          obtain ⟨sm, HSM⟩ : ∃ sm, Hid (strOf (halfN zs bs) = sm) := ⟨_, rfl⟩
          rw [HSM.out] at STR
          clear HALF T5 HM2 H1' H2' L1 L2 HB B5 G1 G2 G3 G4 Q1 Q2 QM ML
          go_wp2
          obtain ⟨mS, mh⟩ : ∃ S : World → Prop, ∀ w', S w' ↔ (((convert 22 9 (.slice A n5 cap)).run Try.prog w' = .ok (.string sm) w')) := ⟨_, fun _ => Iff.rfl⟩
          have mk0 : ∀ x : Memb mS, (convert 22 9 (.slice A n5 cap)).run Try.prog x.at_ = .ok (.string sm) x.at_ := fun x => ((mh _).1 x.is)
          have mn : Nonempty (Memb mS) := ⟨⟨(w5).drew, (mh _).2 (STR.out _ (below_drew (Below.refl _ _)))⟩⟩
          have mH := Lib.hid mh
          clear mh
          refine wp_region_mix [8, 13, 18, 19, 27, 29, 30, 36, 37, 42] (InS mS) (by kernel_rfl) (by kernel_rfl) (InS.mk ((mH.out _).2 (STR.out _ (below_drew (Below.refl _ _))))) ?_
          refine wpMix_seg 8 (by kernel_rfl) (by decide) ?_
          simp only [List.take_succ_cons, List.take_zero, List.drop_succ_cons, List.drop_zero]
          repeat (first | go_big_quiet_step (fail) | (go_big_quiet_want; first | refine quiet_conv mk0 rfl rfl rfl (by simp only [Act.put, List.setIfInBounds_toArray, List.set_cons_succ, List.set_cons_zero]; rfl) ?_; go_big_quiet_on))
          refine wpQuiet_nil ?_
          refine wpMix_eff (by kernel_rfl) ?_
          go_wp2_with fail
          refine (R1.out _ (below_drew (Below.refl _ _))).mono ?_
          rintro e w6 ⟨rfl, B6⟩
          go_wp2
          refine MixK.on (InS.mk ((mH.out _).2 (STR.out _ B6.out))) ?_
          refine wpMix_seg 4 (by kernel_rfl) (by decide) ?_
          simp only [List.take_succ_cons, List.take_zero, List.drop_succ_cons, List.drop_zero]
          repeat (first | go_big_quiet_step (fail) | (go_big_quiet_want; first | refine quiet_conv mk0 rfl rfl rfl (by simp only [Act.put, List.setIfInBounds_toArray, List.set_cons_succ, List.set_cons_zero]; rfl) ?_; go_big_quiet_on))
          refine wpQuiet_nil ?_
          refine wpMix_eff (by kernel_rfl) ?_
          go_wp2_with fail
          refine (R2.out _ B6.out).mono ?_
          rintro e w7 ⟨rfl, B7⟩
          go_wp2
          refine MixK.on (InS.mk ((mH.out _).2 (STR.out _ B7.out))) ?_
          refine wpMix_seg 4 (by kernel_rfl) (by decide) ?_
          simp only [List.take_succ_cons, List.take_zero, List.drop_succ_cons, List.drop_zero]
          repeat (first | go_big_quiet_step (fail) | (go_big_quiet_want; first | refine quiet_conv mk0 rfl rfl rfl (by simp only [Act.put, List.setIfInBounds_toArray, List.set_cons_succ, List.set_cons_zero]; rfl) ?_; go_big_quiet_on))
          refine wpQuiet_nil ?_
          refine wpMix_eff (by kernel_rfl) ?_
          go_wp2_with fail
          refine (HH.out _ B7.out).mono ?_
          rintro e w8 ⟨A8, n8, c8, rfl, T8, B8⟩
          have s8 := run_str T8.out
          rw [HSM.out] at s8
          go_wp2
          refine MixK.on (InS.mk ((mH.out _).2 (STR.out _ B8.out))) ?_
          refine wpMix_eff (by kernel_rfl) ?_
          go_wp2
          clear s8
          refine MixK.on (InS.mk ((mH.out _).2 (STR.out _ B8.out))) ?_
          refine wpMix_seg 7 (by kernel_rfl) (by decide) ?_
          simp only [List.take_succ_cons, List.take_zero, List.drop_succ_cons, List.drop_zero]
          repeat (first | go_big_quiet_step (fail) | (go_big_quiet_want; first | refine quiet_conv mk0 rfl rfl rfl (by simp only [Act.put, List.setIfInBounds_toArray, List.set_cons_succ, List.set_cons_zero]; rfl) ?_; go_big_quiet_on))
          refine wpQuiet_nil ?_
          refine wpMix_eff (by kernel_rfl) ?_
          go_wp2_with fail
          refine (BL.out _ B8.out).mono ?_
          rintro e w9 ⟨A9, n9, c9, rfl, T9, B9⟩
          go_wp2
          refine MixK.on (InS.mk ((mH.out _).2 (STR.out _ B9.out))) ?_
          refine wpMix_seg 1 (by kernel_rfl) (by decide) ?_
          simp only [List.take_succ_cons, List.take_zero, List.drop_succ_cons, List.drop_zero]
          repeat (first | go_big_quiet_step (fail) | (go_big_quiet_want; first | refine quiet_conv mk0 rfl rfl rfl (by simp only [Act.put, List.setIfInBounds_toArray, List.set_cons_succ, List.set_cons_zero]; rfl) ?_; go_big_quiet_on))
          refine wpQuiet_nil ?_
          refine wpMix_eff (by kernel_rfl) ?_
          go_wp2_with fail
          refine (HB2.out _ B9.out _ _ _ T9.out (by have := T9.out.len; have := LB.out; omega)).mono ?_
          rintro e w10 ⟨A10, n10, c10, rfl, T10, B10⟩
          go_wp2
          refine MixK.on (InS.mk ((mH.out _).2 (STR.out _ B10.out))) ?_
          refine wpMix_eff (by kernel_rfl) ?_
          go_wp2_with fail
          refine (IB.out _ B10.out _ _ _ T10.out).mono ?_
          rintro e w11 ⟨rfl, B11⟩
          go_wp2
          refine MixK.on (InS.mk ((mH.out _).2 (STR.out _ B11.out))) ?_
          refine wpMix_seg 5 (by kernel_rfl) (by decide) ?_
          simp only [List.take_succ_cons, List.take_zero, List.drop_succ_cons, List.drop_zero]
          repeat (first | go_big_quiet_step (fail) | (go_big_quiet_want; first | refine quiet_conv mk0 rfl rfl rfl (by simp only [Act.put, List.setIfInBounds_toArray, List.set_cons_succ, List.set_cons_zero]; rfl) ?_; go_big_quiet_on))
          refine wpQuiet_nil ?_
          refine wpMix_eff (by kernel_rfl) ?_
          go_wp2_with fail
          refine (BL.out _ B11.out).mono ?_
          rintro e w12 ⟨A12, n12, c12, rfl, T12, B12⟩
          go_wp2
          refine MixK.on (InS.mk ((mH.out _).2 (STR.out _ B12.out))) ?_
          refine wpMix_eff (by kernel_rfl) ?_
          go_wp2_with fail
          refine (R3.out _ B12.out _ _ _ T12.out).mono ?_
          rintro e w13 ⟨rfl, B13⟩
          go_wp2
          refine MixK.on (InS.mk ((mH.out _).2 (STR.out _ B13.out))) ?_
          refine wpMix_seg 4 (by kernel_rfl) (by decide) ?_
          simp only [List.take_succ_cons, List.take_zero, List.drop_succ_cons, List.drop_zero]
          repeat (first | go_big_quiet_step (fail) | (go_big_quiet_want; first | refine quiet_conv mk0 rfl rfl rfl (by simp only [Act.put, List.setIfInBounds_toArray, List.set_cons_succ, List.set_cons_zero]; rfl) ?_; go_big_quiet_on))
          refine wpQuiet_nil ?_
          refine wpMix_eff (by kernel_rfl) ?_
          go_wp2_with fail
          refine (C1.out _ B13.out).mono ?_
          rintro e w14 ⟨rfl, B14⟩
          go_wp2
          refine MixK.on (InS.mk ((mH.out _).2 (STR.out _ B14.out))) ?_
          refine wpMix_seg 2 (by kernel_rfl) (by decide) ?_
          simp only [List.take_succ_cons, List.take_zero, List.drop_succ_cons, List.drop_zero]
          repeat (first | go_big_quiet_step (fail) | (go_big_quiet_want; first | refine quiet_conv mk0 rfl rfl rfl (by simp only [Act.put, List.setIfInBounds_toArray, List.set_cons_succ, List.set_cons_zero]; rfl) ?_; go_big_quiet_on))
          refine wpQuiet_nil ?_
          refine wpMix_nil ?_
          clear mk0 mn mH
          go_wp2
          go_ret
          exact ⟨rfl, below_far HB5.out B14.out⟩
end Go.Proofs.Ytmpijfehmngmgaa
