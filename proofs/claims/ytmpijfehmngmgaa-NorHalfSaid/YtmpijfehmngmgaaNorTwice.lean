/- The law NorTwice: its walk. -/
import Derived.Test.YtmpijfehmngmgaaNorOrder
namespace Go.Proofs.Ytmpijfehmngmgaa
open Go.RowKit

/-! ### A row whose first k bytes are edited -/
def edTo (f : Nat → Int) (os : List Int) (k : Nat) : List Int := (List.range os.length).map fun i => if i < k then f i else os.getD i 0
theorem edTo_zero (f : Nat → Int) (os : List Int) : edTo f os 0 = os := by
  unfold edTo
  apply List.ext_getElem?
  intro i
  by_cases hi : i < os.length <;> simp [List.getD, hi]
theorem edTo_succ (f : Nat → Int) (os : List Int) (k : Nat) (hk : k < os.length) : (edTo f os k).set k (f k) = edTo f os (k + 1) := by
  unfold edTo
  rw [range_set _ _ _ _ hk]
  refine List.map_congr_left fun i _ => ?_
  by_cases h1 : i = k
  · subst h1; simp
  · by_cases h2 : i < k
    · rw [if_neg h1, if_pos h2, if_pos (by omega)]
    · rw [if_neg h1, if_neg h2, if_neg (by omega)]
theorem edTo_length (f : Nat → Int) (os : List Int) (k : Nat) : (edTo f os k).length = os.length := by simp [edTo]
theorem edTo_getD (f : Nat → Int) (os : List Int) (k i : Nat) : (edTo f os k).getD i 0 = if i < os.length then (if i < k then f i else os.getD i 0) else 0 := by
  by_cases hi : i < os.length <;> simp [edTo, List.getD, hi]
theorem edTo_byte {f : Nat → Int} {os : List Int} (k : Nat) (ho : ∀ z ∈ os, 0 ≤ z ∧ z ≤ 255) (hf : ∀ i, 0 ≤ f i ∧ f i ≤ 255) : ∀ z ∈ edTo f os k, 0 ≤ z ∧ z ≤ 255 := by
  intro z hz
  obtain ⟨i, _, rfl⟩ := List.mem_map.1 hz
  split
  · exact hf i
  · exact byte_getD ho i

def andAt (os ns : List Int) (i : Nat) : Int := bits .and .u8 (os.getD i 0) (ns.getD i 0)
/-- What of os is left when the bits of ns are kept alone, where ns reaches. -/
def andN (os ns : List Int) : List Int := edTo (andAt os ns) os (min os.length ns.length)

theorem andN_byte {os ns : List Int} (ho : ∀ z ∈ os, 0 ≤ z ∧ z ≤ 255) (hn : ∀ z ∈ ns, 0 ≤ z ∧ z ≤ 255) : ∀ z ∈ andN os ns, 0 ≤ z ∧ z ≤ 255 :=
  edTo_byte _ ho fun i => bits_and_bd _ _ (byte_getD ho i) (byte_getD hn i)
theorem and_land (a b : Nat) : a &&& b &&& a = a &&& b := by
  apply Nat.eq_of_testBit_eq; intro i; simp only [Nat.testBit_and]; cases a.testBit i <;> simp
theorem land_lor (a b : Nat) : a &&& (a ||| b) = a := by
  apply Nat.eq_of_testBit_eq; intro i; simp only [Nat.testBit_and, Nat.testBit_or]; cases a.testBit i <;> simp
theorem canN_andN {os ns : List Int} (ho : ∀ z ∈ os, 0 ≤ z ∧ z ≤ 255) (hn : ∀ z ∈ ns, 0 ≤ z ∧ z ≤ 255) : canN os (andN os ns) = true := by
  refine (canN_iff ho (andN_byte ho hn)).2 ⟨by rw [andN, edTo_length], fun i => ?_⟩
  rw [andN, edTo_getD]
  split
  · split
    · have a := byte_getD ho i
      have b := byte_getD hn i
      rw [andAt, u8_and _ _ a.1 (by omega) b.1 (by omega), Int.toNat_natCast, and_land]
    · exact Nat.and_self _
  · simp
theorem tornTo_getD (os ns ps : List Int) (k i : Nat) : (tornTo os ns ps k).getD i 0 = if i < ns.length then (if i < k then tornAt os ns ps i else ns.getD i 0) else 0 := by
  by_cases hi : i < ns.length <;> simp [tornTo, List.getD, hi]
theorem tornAt_byte {os ns ps : List Int} (ho : ∀ z ∈ os, 0 ≤ z ∧ z ≤ 255) (hn : ∀ z ∈ ns, 0 ≤ z ∧ z ≤ 255) (hp : ∀ z ∈ ps, 0 ≤ z ∧ z ≤ 255) (i : Nat) : 0 ≤ tornAt os ns ps i ∧ tornAt os ns ps i ≤ 255 :=
  bits_or_bd _ _ (byte_getD hn i) (bits_and_bd _ _ (byte_getD ho i) (byte_getD hp i))
theorem tornN_byte {os ns ps : List Int} (ho : ∀ z ∈ os, 0 ≤ z ∧ z ≤ 255) (hn : ∀ z ∈ ns, 0 ≤ z ∧ z ≤ 255) (hp : ∀ z ∈ ps, 0 ≤ z ∧ z ≤ 255) : ∀ z ∈ tornN os ns ps, 0 ≤ z ∧ z ≤ 255 := by
  unfold tornN
  split
  · intro z hz
    obtain ⟨i, _, rfl⟩ := List.mem_map.1 hz
    split
    · exact tornAt_byte ho hn hp i
    · exact byte_getD hn i
  · simp
theorem canN_torn {os ns ps : List Int} (ho : ∀ z ∈ os, 0 ≤ z ∧ z ≤ 255) (hn : ∀ z ∈ ns, 0 ≤ z ∧ z ≤ 255) (hp : ∀ z ∈ ps, 0 ≤ z ∧ z ≤ 255) (hc : canN os ns = true) : canN (tornN os ns ps) ns = true := by
  refine (canN_iff (tornN_byte ho hn hp) hn).2 ⟨by rw [tornN, if_pos hc, tornTo_length], fun i => ?_⟩
  rw [tornN, if_pos hc, tornTo_getD]
  split
  · have a := byte_getD ho i
    have b := byte_getD hn i
    have c := byte_getD hp i
    have d := bits_and_bd _ _ a c
    rw [tornAt, u8_or _ _ b.1 (by omega) d.1 (by omega), Int.toNat_natCast, land_lor]
  · have e1 : ns.getD i 0 = 0 := by simp [List.getD, List.getElem?_eq_none (show ns.length ≤ i by omega)]
    rw [e1]; rfl
theorem blankN_byte (n : Int) : ∀ z ∈ blankN n, 0 ≤ z ∧ z ≤ 255 := by
  intro z hz; rw [List.eq_of_mem_replicate hz]; omega
theorem land_255 (a : Nat) (h : a ≤ 255) : a &&& 255 = a := by
  rw [show (255 : Nat) = 2 ^ 8 - 1 from rfl, Nat.and_two_pow_sub_one_eq_mod, Nat.mod_eq_of_lt (by omega)]
theorem canN_blank {os : List Int} (ho : ∀ z ∈ os, 0 ≤ z ∧ z ≤ 255) (hl : os.length ≤ 65536) : canN (blankN os.length) os = true := by
  have e : (max 0 (min (os.length : Int) 65536)).toNat = os.length := by omega
  refine (canN_iff (blankN_byte _) ho).2 ⟨by rw [blankN, List.length_replicate, e], fun i => ?_⟩
  by_cases hi : i < os.length
  · have e2 : (blankN os.length).getD i 0 = 255 := by rw [blankN, e]; simp [List.getD, hi]
    have a := byte_getD ho i
    rw [e2]; exact land_255 _ (by omega)
  · have e1 : os.getD i 0 = 0 := by simp [List.getD, List.getElem?_eq_none (show os.length ≤ i by omega)]
    rw [e1]; simp

/-! ### Contracts told from a world on -/
/-- A row of bytes is told, and nothing has changed that was there at V. -/
def ClonedB (V : World) (zs : List Int) (e : Ending) (w' : World) : Prop := ∃ A n cap, e = .returned (.slice A n cap) ∧ Hid (Bs w' A n cap zs) ∧ Hid (Below V.heap.size V w')
theorem cloned_below {V w : World} {zs : List Int} {f : FuncId} {args : Array Value} (hb : Below V.heap.size V w) (h : Calls Try.prog f args w (Cloned w zs)) : Calls Try.prog f args w (ClonedB V zs) :=
  h.mono fun e w' ⟨v, h1, h2, h3⟩ => by
    obtain ⟨A, cap, e1, e2, _⟩ := h2.shape
    subst e1
    exact ⟨A, _, cap, h1, e2, below_keeps hb h3 (fun _ h => h.elim)⟩
theorem below_far {W V w : World} (h : Below W.heap.size W V) (k : Below V.heap.size V w) : Below W.heap.size W w :=
  h.trans ⟨k.os, k.tape, k.output, k.size, fun i hi => k.block i (Nat.lt_of_lt_of_le hi h.size)⟩
theorem below_drew {V w : World} (h : Below V.heap.size V w) : Below V.heap.size V w.drew := ⟨h.os, h.tape, h.output, h.size, h.block⟩


set_option maxRecDepth 100000 in
set_option maxHeartbeats 1600000 in
theorem twice_any (A1 A2 A3 : Option Addr) (n1 c1 n2 c2 n3 c3 : Nat) (zs bs cs : List Int) (w : World) (h1 : Bs w A1 n1 c1 zs) (h2 : Bs w A2 n2 c2 bs) (h3 : Bs w A3 n3 c3 cs) :
    Calls Try.prog 4 #[.slice A1 n1 c1, .slice A2 n2 c2, .slice A3 n3 c3] w fun e w' => e = .returned (.bool true) ∧ Below w.heap.size w w' := by
  have SH := Lib.hid fun w' (hb : Below w.heap.size w w') => same_below hb (short_any A1 A2 A3 n1 c1 n2 c2 n3 c3 w')
  cases hs : shortB n1 n2 n3 with
  | false =>
    rw [hs] at SH
    clear hs
    go_enter Try.func4, Try.ntmps4
    go_wp2_with fail
    refine (alive1_b _).mono ?_
    rintro e w1 ⟨rfl, B1⟩
    go_wp2_with fail
    refine (SH.out _ B1.out).mono ?_
    rintro e w2 ⟨rfl, B2⟩
    go_wp2
    go_ret
    exact ⟨rfl, B2.out⟩
  | true =>
    rw [hs] at SH
    have hsn : n1 ≤ 400 ∧ n2 ≤ 400 ∧ n3 ≤ 400 := by simpa [shortB] using hs
    obtain ⟨hn1, hn2, hn3⟩ := hsn
    have L1 := Lib.hid h1.len
    have L2 := Lib.hid h2.len
    have mx1 := h1.le
    have mx2 := h2.le
    have H1 := Lib.hid h1
    have H2 := Lib.hid h2
    have H3 := Lib.hid h3
    have CM := Lib.hid (canN_andN h1.byte h2.byte)
    have CT := Lib.hid (fun hc => canN_torn h1.byte (andN_byte h1.byte h2.byte) h3.byte hc)
    have CB := Lib.hid (canN_blank h1.byte (by rw [h1.len]; omega))
    clear h1 h2 h3 hs
    go_enter Try.func4, Try.ntmps4
    go_wp2_with fail
    refine (alive1_b _).mono ?_
    rintro e w1 ⟨rfl, B1⟩
    go_wp2_with fail
    refine (SH.out _ B1.out).mono ?_
    rintro e w2 ⟨rfl, B2⟩
    have hsz := B2.out.size
    go_wp2_with (at_builtin; go_loud (refine wpList_append_bs (Own.nil _ w.heap.size) (bs_below H1.out B2.out) (by simp; omega) hsz rfl rfl rfl rfl rfl ?_); intro v' w4 ho4 hk4)
    rw [List.nil_append] at ho4
    obtain ⟨A, cap, hv, hbs, -⟩ := ho4.shape
    rw [L1.out] at hv hbs
    subst hv
    have hle := hbs.le
    have hmx := hbs.max
    have HO := Lib.hid ho4
    have B4 := Lib.hid (below_keeps B2.out hk4 (fun i e => by simp [Value.ownBlock] at e))
    clear ho4 hk4 hbs SH B1 B2
    go_loopw [9] (fun i wr => ∃ k : Nat, k ≤ min n1 n2 ∧ i = .int .i64 k ∧ Own wr w.heap.size (.slice A n1 cap) (edTo (andAt zs bs) zs k) ∧ Below w.heap.size w wr) (fun i _ => min n1 n2 - (intOf i).toNat)
    case atStart => exact ⟨0, Nat.zero_le _, rfl, by rw [edTo_zero]; exact HO.out, B4.out⟩
    case round =>
      obtain ⟨k, hkn, rfl, hO, hB⟩ := hrel
      by_cases hlt : k < min n1 n2
      · have hlt1 : k < n1 := by omega
        have hlt2 : k < n2 := by omega
        obtain ⟨g, rfl, hg1, -, -, -, -, hgc, hgf⟩ := hO.at_ hlt1
        generalize (edTo (andAt zs bs) zs k).getD k 0 = z9 at hgc
        obtain ⟨bl1, of1, x1, rfl, hx1, hx1a, hx1b, hc1⟩ := (bs_below H1.out hB).get hlt1
        obtain ⟨bl2, of2, x2, rfl, hx2, hx2a, hx2b, hc2⟩ := (bs_below H2.out hB).get hlt2
        have z4 := bits_and_bd x1 x2 ⟨hx1a, hx1b⟩ ⟨hx2a, hx2b⟩
        have ef : andAt zs bs k = bits .and .u8 x1 x2 := by rw [andAt, hx1, hx2]
        have hO2 := hO.store rfl k _ z4 (by rw [edTo_length, L1.out]; exact hlt1)
        rw [← ef, edTo_succ _ _ _ (by rw [L1.out]; exact hlt1), ef] at hO2
        have HO2 := Lib.hid hO2
        have HB := Lib.hid hB
        clear hO hO2 hB ef hx1 hx2 HO B4
        go_wp2
        obtain ⟨mS, mh⟩ : ∃ S : World → Prop, ∀ w', S w' ↔ (w'.cell? ⟨bl1, of1 + k, none⟩ = some (.int .u8 x1) ∧ w'.cell? ⟨bl2, of2 + k, none⟩ = some (.int .u8 x2)) := ⟨_, fun _ => Iff.rfl⟩
        have mk0 : ∀ x : Memb mS, x.at_.cell? ⟨bl1, of1 + k, none⟩ = some (.int .u8 x1) := fun x => ((mh _).1 x.is).1
        have mk1 : ∀ x : Memb mS, x.at_.cell? ⟨bl2, of2 + k, none⟩ = some (.int .u8 x2) := fun x => ((mh _).1 x.is).2
        have mn : Nonempty (Memb mS) := ⟨⟨(wr).drew, (mh _).2 ⟨hc1, hc2⟩⟩⟩
        have mH := Lib.hid mh
        clear mh
        refine wp_region_mix [12] (InS mS) (by kernel_rfl) (by kernel_rfl) (InS.mk ((mH.out _).2 ⟨hc1, hc2⟩)) ?_
        refine wpMix_seg 12 (by kernel_rfl) (by decide) ?_
        simp only [List.take_succ_cons, List.take_zero, List.drop_succ_cons, List.drop_zero]
        repeat (go_big_quiet_step (fail))
        refine wpQuiet_nil ?_
        refine wpMix_eff (by kernel_rfl) ?_
        go_wp2
        refine MixK.last (by kernel_rfl) ?_
        refine wpMix_nil ?_
        clear mk0 mk1 mn mH
        go_wp2
        go_roundw
        case rel => exact ⟨k + 1, by omega, by go_num, HO2.out.drew, below_keeps HB.out (((Keeps.refl (fun b => w.heap.size ≤ b) _).setCell _ _ (fun _ => hg1)).drew) (fun _ h => h)⟩
        case measure => simp [intOf]; omega
      · have e : k = min n1 n2 := by omega
        have hM : Bs wr A n1 cap (andN zs bs) := by
          obtain ⟨A', cap', e1, e2, _⟩ := hO.shape
          rw [edTo_length, L1.out] at e1 e2
          cases e1
          rw [andN, L1.out, L2.out, ← e]; exact e2
        have HM := Lib.hid hM
        have HB := Lib.hid hB
        have H1' := Lib.hid (bs_below H1.out hB)
        have H3' := Lib.hid (bs_below H3.out hB)
        have CT' := Lib.hid (CT.out CM.out)
        clear hM hO hB HO B4 H1 H2 H3 CT
        generalize andN zs bs = mid at *
        have TORN := Lib.hid (cloned_below (Below.refl wr.heap.size wr) (torn_any A1 A A3 n1 c1 n1 cap n3 c3 zs mid cs wr H1'.out HM.out H3'.out (by omega)))
        by_cases hk1 : k < n1
        · have hk2 : n2 ≤ k := by omega
          clear hlt e hkn
          go_wp2_with fail
          refine TORN.out.mono ?_
          rintro e w5 ⟨A5, n5, c5, rfl, T5, B5⟩
          have le5 := T5.out.le
          have mx5 := T5.out.max
          have STR := Lib.hid fun w' (hb : Below w5.heap.size w5 w') => run_str (bs_below (bs_below HM.out B5.out) hb)
          have CAN := Lib.hid fun w' (hb : Below w5.heap.size w5 w') => told_below hb (can_any A5 A n5 c5 n1 cap _ mid w' (bs_below T5.out hb) (bs_below (bs_below HM.out B5.out) hb))
          have PROG := Lib.hid fun w' (hb : Below w5.heap.size w5 w') => cloned_below hb (program_any A5 A n5 c5 n1 cap _ mid w' (bs_below T5.out hb) (bs_below (bs_below HM.out B5.out) hb) (by omega))
          have BLANK := Lib.hid fun w' (hb : Below w5.heap.size w5 w') => cloned_below hb (blank_any n1 w')
          have CANB := Lib.hid fun w' (hb : Below w5.heap.size w5 w') A8 n8 c8 (h8 : Bs w' A8 n8 c8 (blankN n1)) => told_below hb (can_any A8 A1 n8 c8 n1 c1 (blankN n1) zs w' h8 (bs_below (bs_below H1'.out B5.out) hb))
          have ct := CT'.out
          rw [ct] at CAN
          rw [show progN (tornN zs mid cs) mid = mid by rw [progN, if_pos ct]] at PROG
          have cb := CB.out
          rw [L1.out] at cb
          rw [cb] at CANB
          have HB5 := Lib.hid (below_far HB.out B5.out)
          obtain ⟨sm, HSM⟩ : ∃ sm, Hid (strOf mid = sm) := ⟨_, rfl⟩
          rw [HSM.out] at STR
          clear ct cb CB CT' TORN T5 HM H1' H3' L1 L2 CM HB B5
          go_wp2
          obtain ⟨mS, mh⟩ : ∃ S : World → Prop, ∀ w', S w' ↔ (((convert 22 9 (.slice A n1 cap)).run Try.prog w' = .ok (.string sm) w')) := ⟨_, fun _ => Iff.rfl⟩
          have mk0 : ∀ x : Memb mS, (convert 22 9 (.slice A n1 cap)).run Try.prog x.at_ = .ok (.string sm) x.at_ := fun x => ((mh _).1 x.is)
          have mn : Nonempty (Memb mS) := ⟨⟨(w5).drew, (mh _).2 (STR.out _ (below_drew (Below.refl _ _)))⟩⟩
          have mH := Lib.hid mh
          clear mh
          refine wp_region_mix [2, 6, 7, 15, 17] (InS mS) (by kernel_rfl) (by kernel_rfl) (InS.mk ((mH.out _).2 (STR.out _ (below_drew (Below.refl _ _))))) ?_
          refine wpMix_seg 2 (by kernel_rfl) (by decide) ?_
          simp only [List.take_succ_cons, List.take_zero, List.drop_succ_cons, List.drop_zero]
          repeat (first | go_big_quiet_step (fail) | (go_big_quiet_want; first | refine quiet_conv mk0 rfl rfl rfl (by simp only [Act.put, List.setIfInBounds_toArray, List.set_cons_succ, List.set_cons_zero]; rfl) ?_; go_big_quiet_on))
          refine wpQuiet_nil ?_
          refine wpMix_eff (by kernel_rfl) ?_
          go_wp2_with fail
          refine (CAN.out _ (below_drew (Below.refl _ _))).mono ?_
          rintro e w6 ⟨rfl, B6⟩
          go_wp2
          refine MixK.on (InS.mk ((mH.out _).2 (STR.out _ B6.out))) ?_
          refine wpMix_seg 3 (by kernel_rfl) (by decide) ?_
          simp only [List.take_succ_cons, List.take_zero, List.drop_succ_cons, List.drop_zero]
          repeat (first | go_big_quiet_step (fail) | (go_big_quiet_want; first | refine quiet_conv mk0 rfl rfl rfl (by simp only [Act.put, List.setIfInBounds_toArray, List.set_cons_succ, List.set_cons_zero]; rfl) ?_; go_big_quiet_on))
          refine wpQuiet_nil ?_
          refine wpMix_eff (by kernel_rfl) ?_
          go_wp2_with fail
          refine (PROG.out _ B6.out).mono ?_
          rintro e w7 ⟨A7, n7, c7, rfl, T7, B7⟩
          have s7 := run_str T7.out
          rw [HSM.out] at s7
          go_wp2
          refine MixK.on (InS.mk ((mH.out _).2 (STR.out _ B7.out))) ?_
          refine wpMix_eff (by kernel_rfl) ?_
          go_wp2
          clear s7
          refine MixK.on (InS.mk ((mH.out _).2 (STR.out _ B7.out))) ?_
          refine wpMix_seg 7 (by kernel_rfl) (by decide) ?_
          simp only [List.take_succ_cons, List.take_zero, List.drop_succ_cons, List.drop_zero]
          repeat (first | go_big_quiet_step (fail) | (go_big_quiet_want; first | refine quiet_conv mk0 rfl rfl rfl (by simp only [Act.put, List.setIfInBounds_toArray, List.set_cons_succ, List.set_cons_zero]; rfl) ?_; go_big_quiet_on))
          refine wpQuiet_nil ?_
          refine wpMix_eff (by kernel_rfl) ?_
          go_wp2_with fail
          refine (BLANK.out _ B7.out).mono ?_
          rintro e w8 ⟨A8, n8, c8, rfl, T8, B8⟩
          go_wp2
          refine MixK.on (InS.mk ((mH.out _).2 (STR.out _ B8.out))) ?_
          refine wpMix_seg 1 (by kernel_rfl) (by decide) ?_
          simp only [List.take_succ_cons, List.take_zero, List.drop_succ_cons, List.drop_zero]
          repeat (first | go_big_quiet_step (fail) | (go_big_quiet_want; first | refine quiet_conv mk0 rfl rfl rfl (by simp only [Act.put, List.setIfInBounds_toArray, List.set_cons_succ, List.set_cons_zero]; rfl) ?_; go_big_quiet_on))
          refine wpQuiet_nil ?_
          refine wpMix_eff (by kernel_rfl) ?_
          go_wp2_with fail
          refine (CANB.out _ B8.out _ _ _ T8.out).mono ?_
          rintro e w9 ⟨rfl, B9⟩
          go_wp2
          refine MixK.on (InS.mk ((mH.out _).2 (STR.out _ B9.out))) ?_
          refine wpMix_seg 2 (by kernel_rfl) (by decide) ?_
          simp only [List.take_succ_cons, List.take_zero, List.drop_succ_cons, List.drop_zero]
          repeat (first | go_big_quiet_step (fail) | (go_big_quiet_want; first | refine quiet_conv mk0 rfl rfl rfl (by simp only [Act.put, List.setIfInBounds_toArray, List.set_cons_succ, List.set_cons_zero]; rfl) ?_; go_big_quiet_on))
          refine wpQuiet_nil ?_
          refine wpMix_nil ?_
          clear mk0 mn mH
          go_wp2
          go_ret
          exact ⟨rfl, below_far HB5.out B9.out⟩
        · have hk2 : n1 ≤ k := by omega
          clear hlt e hkn hk1
          go_wp2_with fail
          refine TORN.out.mono ?_
          rintro e w5 ⟨A5, n5, c5, rfl, T5, B5⟩
          have le5 := T5.out.le
          have mx5 := T5.out.max
          have STR := Lib.hid fun w' (hb : Below w5.heap.size w5 w') => run_str (bs_below (bs_below HM.out B5.out) hb)
          have CAN := Lib.hid fun w' (hb : Below w5.heap.size w5 w') => told_below hb (can_any A5 A n5 c5 n1 cap _ mid w' (bs_below T5.out hb) (bs_below (bs_below HM.out B5.out) hb))
          have PROG := Lib.hid fun w' (hb : Below w5.heap.size w5 w') => cloned_below hb (program_any A5 A n5 c5 n1 cap _ mid w' (bs_below T5.out hb) (bs_below (bs_below HM.out B5.out) hb) (by omega))
          have BLANK := Lib.hid fun w' (hb : Below w5.heap.size w5 w') => cloned_below hb (blank_any n1 w')
          have CANB := Lib.hid fun w' (hb : Below w5.heap.size w5 w') A8 n8 c8 (h8 : Bs w' A8 n8 c8 (blankN n1)) => told_below hb (can_any A8 A1 n8 c8 n1 c1 (blankN n1) zs w' h8 (bs_below (bs_below H1'.out B5.out) hb))
          have ct := CT'.out
          rw [ct] at CAN
          rw [show progN (tornN zs mid cs) mid = mid by rw [progN, if_pos ct]] at PROG
          have cb := CB.out
          rw [L1.out] at cb
          rw [cb] at CANB
          have HB5 := Lib.hid (below_far HB.out B5.out)
          obtain ⟨sm, HSM⟩ : ∃ sm, Hid (strOf mid = sm) := ⟨_, rfl⟩
          rw [HSM.out] at STR
          clear ct cb CB CT' TORN T5 HM H1' H3' L1 L2 CM HB B5
          go_wp2
          obtain ⟨mS, mh⟩ : ∃ S : World → Prop, ∀ w', S w' ↔ (((convert 22 9 (.slice A n1 cap)).run Try.prog w' = .ok (.string sm) w')) := ⟨_, fun _ => Iff.rfl⟩
          have mk0 : ∀ x : Memb mS, (convert 22 9 (.slice A n1 cap)).run Try.prog x.at_ = .ok (.string sm) x.at_ := fun x => ((mh _).1 x.is)
          have mn : Nonempty (Memb mS) := ⟨⟨(w5).drew, (mh _).2 (STR.out _ (below_drew (Below.refl _ _)))⟩⟩
          have mH := Lib.hid mh
          clear mh
          refine wp_region_mix [2, 6, 7, 15, 17] (InS mS) (by kernel_rfl) (by kernel_rfl) (InS.mk ((mH.out _).2 (STR.out _ (below_drew (Below.refl _ _))))) ?_
          refine wpMix_seg 2 (by kernel_rfl) (by decide) ?_
          simp only [List.take_succ_cons, List.take_zero, List.drop_succ_cons, List.drop_zero]
          repeat (first | go_big_quiet_step (fail) | (go_big_quiet_want; first | refine quiet_conv mk0 rfl rfl rfl (by simp only [Act.put, List.setIfInBounds_toArray, List.set_cons_succ, List.set_cons_zero]; rfl) ?_; go_big_quiet_on))
          refine wpQuiet_nil ?_
          refine wpMix_eff (by kernel_rfl) ?_
          go_wp2_with fail
          refine (CAN.out _ (below_drew (Below.refl _ _))).mono ?_
          rintro e w6 ⟨rfl, B6⟩
          go_wp2
          refine MixK.on (InS.mk ((mH.out _).2 (STR.out _ B6.out))) ?_
          refine wpMix_seg 3 (by kernel_rfl) (by decide) ?_
          simp only [List.take_succ_cons, List.take_zero, List.drop_succ_cons, List.drop_zero]
          repeat (first | go_big_quiet_step (fail) | (go_big_quiet_want; first | refine quiet_conv mk0 rfl rfl rfl (by simp only [Act.put, List.setIfInBounds_toArray, List.set_cons_succ, List.set_cons_zero]; rfl) ?_; go_big_quiet_on))
          refine wpQuiet_nil ?_
          refine wpMix_eff (by kernel_rfl) ?_
          go_wp2_with fail
          refine (PROG.out _ B6.out).mono ?_
          rintro e w7 ⟨A7, n7, c7, rfl, T7, B7⟩
          have s7 := run_str T7.out
          rw [HSM.out] at s7
          go_wp2
          refine MixK.on (InS.mk ((mH.out _).2 (STR.out _ B7.out))) ?_
          refine wpMix_eff (by kernel_rfl) ?_
          go_wp2
          clear s7
          refine MixK.on (InS.mk ((mH.out _).2 (STR.out _ B7.out))) ?_
          refine wpMix_seg 7 (by kernel_rfl) (by decide) ?_
          simp only [List.take_succ_cons, List.take_zero, List.drop_succ_cons, List.drop_zero]
          repeat (first | go_big_quiet_step (fail) | (go_big_quiet_want; first | refine quiet_conv mk0 rfl rfl rfl (by simp only [Act.put, List.setIfInBounds_toArray, List.set_cons_succ, List.set_cons_zero]; rfl) ?_; go_big_quiet_on))
          refine wpQuiet_nil ?_
          refine wpMix_eff (by kernel_rfl) ?_
          go_wp2_with fail
          refine (BLANK.out _ B7.out).mono ?_
          rintro e w8 ⟨A8, n8, c8, rfl, T8, B8⟩
          go_wp2
          refine MixK.on (InS.mk ((mH.out _).2 (STR.out _ B8.out))) ?_
          refine wpMix_seg 1 (by kernel_rfl) (by decide) ?_
          simp only [List.take_succ_cons, List.take_zero, List.drop_succ_cons, List.drop_zero]
          repeat (first | go_big_quiet_step (fail) | (go_big_quiet_want; first | refine quiet_conv mk0 rfl rfl rfl (by simp only [Act.put, List.setIfInBounds_toArray, List.set_cons_succ, List.set_cons_zero]; rfl) ?_; go_big_quiet_on))
          refine wpQuiet_nil ?_
          refine wpMix_eff (by kernel_rfl) ?_
          go_wp2_with fail
          refine (CANB.out _ B8.out _ _ _ T8.out).mono ?_
          rintro e w9 ⟨rfl, B9⟩
          go_wp2
          refine MixK.on (InS.mk ((mH.out _).2 (STR.out _ B9.out))) ?_
          refine wpMix_seg 2 (by kernel_rfl) (by decide) ?_
          simp only [List.take_succ_cons, List.take_zero, List.drop_succ_cons, List.drop_zero]
          repeat (first | go_big_quiet_step (fail) | (go_big_quiet_want; first | refine quiet_conv mk0 rfl rfl rfl (by simp only [Act.put, List.setIfInBounds_toArray, List.set_cons_succ, List.set_cons_zero]; rfl) ?_; go_big_quiet_on))
          refine wpQuiet_nil ?_
          refine wpMix_nil ?_
          clear mk0 mn mH
          go_wp2
          go_ret
          exact ⟨rfl, below_far HB5.out B9.out⟩
end Go.Proofs.Ytmpijfehmngmgaa
