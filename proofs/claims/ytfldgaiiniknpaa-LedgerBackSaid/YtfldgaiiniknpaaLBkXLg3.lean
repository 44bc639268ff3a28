
/- The walk of sha512's number and Load. -/
import Derived.Test.YtfldgaiiniknpaaLBkXLg2
import Derived.Test.YtfldgaiiniknpaaLBkc
import Derived.Test.YtfldgaiiniknpaaLBka
namespace Go.Proofs.Ytfldgaiiniknpaa
open Go.RowKit

theorem bigN_snoc (zs : List Int) (z : Int) : bigN (zs ++ [z]) = bigN zs * 256 + z.toNat := by
  unfold bigN
  rw [List.foldl_append]
  rfl
theorem bigN_take (zs : List Int) (k : Nat) (hk : k < zs.length) : bigN (zs.take (k + 1)) = bigN (zs.take k) * 256 + (zs.getD k 0).toNat := by
  rw [← take_snoc zs k hk, bigN_snoc, getD_get 0 hk]
theorem bigN_lt {zs : List Int} (hb : ∀ z ∈ zs, 0 ≤ z ∧ z ≤ 255) : ∀ k, k ≤ zs.length → bigN (zs.take k) < 256 ^ k
  | 0, _ => by simp [bigN]
  | k + 1, h => by
    have h1 := bigN_lt hb k (by omega)
    have h2 := hb (zs.getD k 0) (getD_mem 0 (by omega))
    rw [bigN_take zs k (by omega), Nat.pow_succ]
    omega
theorem or_big {zs : List Int} (hb : ∀ z ∈ zs, 0 ≤ z ∧ z ≤ 255) {k : Nat} (hk : k < zs.length) (h8 : k < 8) :
    bits .or .u64 (IntKind.u64.wrap (((bigN (zs.take k) : Nat) : Int) * 256)) (zs.getD k 0) = ((bigN (zs.take (k + 1)) : Nat) : Int) := by
  have h1 := bigN_lt hb k (by omega)
  have p8 : (256 : Nat) ^ k ≤ 256 ^ 7 := Nat.pow_le_pow_right (by decide) (by omega)
  have p7 : (256 : Nat) ^ 7 = 72057594037927936 := by decide
  have hz := hb (zs.getD k 0) (getD_mem 0 hk)
  obtain ⟨c, hc⟩ : ∃ c : Nat, zs.getD k 0 = c := ⟨(zs.getD k 0).toNat, by omega⟩
  have e := bigN_take zs k hk
  rw [hc] at e hz ⊢
  rw [e]
  generalize bigN (zs.take k) = x at *
  have e3 : IntKind.u64.wrap ((x : Int) * 256) = ((x * 256 : Nat) : Int) := by
    simp [IntKind.wrap, IntKind.bits, IntKind.signed]
    omega
  rw [e3, u64_or_nat _ _ (by omega) (by omega)]
  congr 1
  have h3 := Nat.shiftLeft_add_eq_or_of_lt (show c < 2 ^ 8 by omega) x
  rw [Nat.shiftLeft_eq] at h3
  rw [show x * 256 = x * 2 ^ 8 from rfl, ← h3]
  simp only [Int.toNat_natCast]
set_option maxRecDepth 100000 in
set_option maxHeartbeats 800000 in
theorem shnumber_any (A : Option Addr) (n cap : Nat) (zs : List Int) (w : World) (h : Bs w A n cap zs) (hn : 8 ≤ n) : Calls Try.prog 53 #[.slice A n cap] w fun e w' => e = .returned (.int .u64 ((bigN (zs.take 8) : Nat) : Int)) ∧ w = w' := by
  have hle := h.le
  have hmax := h.max
  have HL := Lib.hid h.len
  have HB := Lib.hid h
  obtain ⟨gb, off, rfl, hgb, -⟩ := h.at_ (by omega)
  clear h
  go_enter Try.func53, Try.ntmps53
  go_wp2
  go_loop [3, 9] (fun xv iv => ∃ k : Nat, k ≤ 8 ∧ iv = .int .i64 (k : Int) ∧ xv = .int .u64 ((bigN (zs.take k) : Nat) : Int)) (fun _ iv => 8 - (intOf iv).toNat)
  case atStart => exact ⟨0, Nat.zero_le _, rfl, rfl⟩
  case round =>
    obtain ⟨k, hk, rfl, rfl⟩ := hrel
    by_cases hlt : k < 8
    · obtain ⟨bl, of1, z, e1, hz1, hza, hzb, hc1⟩ := HB.out.get (i := k) (by omega)
      cases e1
      have OR := or_big HB.out.byte (k := k) (by rw [HL.out]; omega) hlt
      rw [hz1] at OR
      go_wp2
      go_round
      case rel => exact ⟨k + 1, by omega, by go_num, rfl⟩
      case measure => simp [intOf]; omega
    · obtain rfl : k = 8 := by omega
      go_wp2
      go_ret
      exact ⟨rfl, rfl⟩
set_option maxRecDepth 100000 in
set_option maxHeartbeats 1600000 in
theorem shload_any (A : Option Addr) (n cap : Nat) (zs : List Int) (w : World) (h : Bs w A n cap zs) :
    Calls Try.prog 40 #[.slice A n cap] w fun e w' => ∃ p, e = .returned (.tuple #[.pointer p, .bool (midOk zs)]) ∧ Keeps None w w' := by
  have hle := h.le
  have hmax := h.max
  have HL := Lib.hid h.len
  have HB := Lib.hid h
  by_cases hn : n = 200
  case neg =>
    have d1 : ((n : Int) != 200) = true := by simp; omega
    have E0 : Hid (midOk zs = false) := by
      show midOk zs = false
      unfold midOk
      rw [HL.out, decide_eq_false hn]
      rfl
    rw [E0.out]
    clear h
    go_enter Try.func40, Try.ntmps40
    go_wp2
    go_ret2
    exact ⟨_, rfl, Keeps.refl _ _⟩
  subst hn
  obtain ⟨gb, off, rfl, hgb, hcel⟩ := h.at_ (by omega)
  clear h
  have NB := Lib.hid (shnumber_any _ _ _ _ w (HB.out.drop (k := 64) (by decide)) (by decide))
  have MB := bigN_lt (zs := zs.drop 64) (fun z hz => HB.out.byte z (List.mem_of_mem_drop hz)) 8 (by rw [List.length_drop, HL.out]; decide)
  have MN : Hid (midN zs = bigN ((zs.drop 64).take 8)) := rfl
  rw [← MN.out] at NB MB
  rw [pow8] at MB
  obtain ⟨N, hN⟩ : ∃ N, midN zs = N := ⟨_, rfl⟩
  have HN := Lib.hid hN
  rw [hN] at NB MB
  clear hN MN hcel
  obtain ⟨res, HRES⟩ : ∃ x, Hid (midOk zs = x) := ⟨_, rfl⟩
  rw [HRES.out]
  go_enter Try.func40, Try.ntmps40
  go_wp2_with fail
  refine NB.out.mono ?_
  rintro e w1 ⟨rfl, rfl⟩
  by_cases hm : 1152921504606846976 < N
  · have d2 : decide ((1152921504606846976 : Int) < (N : Int)) = true := decide_eq_true (by omega)
    have E0 : Hid (res = false) := by
      show res = false
      rw [← HRES.out]
      unfold midOk
      rw [HN.out, decide_eq_false (show ¬ N ≤ 1152921504606846976 by omega), Bool.false_and, Bool.and_false]
    go_wp2
    go_ret2
    exact ⟨_, by rw [E0.out]; rfl, Keeps.refl _ _⟩
  have d2 : decide ((1152921504606846976 : Int) < (N : Int)) = false := decide_eq_false (by omega)
  have EOK : Hid (res = (zs.drop (72 + N % 128)).all (· == 0)) := by
    show res = _
    rw [← HRES.out]
    unfold midOk
    rw [HN.out, HL.out, decide_eq_true (show N ≤ 1152921504606846976 by omega)]
    rfl
  clear HRES HN
  go_wp2_with fail
  refine NB.out.mono ?_
  rintro e w1 ⟨rfl, rfl⟩
  clear NB
  go_wp2
  obtain ⟨r, hr⟩ : ∃ r, 72 + N % 128 = r := ⟨_, rfl⟩
  have r1 : 72 ≤ r := by omega
  have r2 : r < 200 := by omega
  obtain ⟨w2, hw2⟩ : ∃ x, w.alloc (.cells ((Try.zeroCells100.setIfInBounds 0 (.bool true)).setIfInBounds 9 (.int .i64 (N : Int))) 100) = x := ⟨_, rfl⟩
  have BH : Hid (∃ cs : List Value, cs.length = 138 ∧ Blk w2 w.heap.size cs 100) := by
    refine ⟨((Try.zeroCells100.setIfInBounds 0 (.bool true)).setIfInBounds 9 (.int .i64 (N : Int))).toList, ?_, ?_⟩
    · rw [Array.length_toList, Array.size_setIfInBounds, Array.size_setIfInBounds]
      kernel_rfl
    · rw [← hw2]
      exact Blk.new w _ 100
  have K2 : Hid (Keeps None w w2) := by rw [← hw2]; exact (Keeps.refl None w).alloc _
  rw [hw2]
  rw [hr] at EOK ⊢
  clear hw2 hr d2 hm MB
  have HB2 := Lib.hid (HB.out.keeps K2.out (fun _ _ _ _ _ h => h))
  go_loop [32] (fun iv => ∃ k : Nat, k ≤ 200 - r ∧ iv = .int .i64 (k : Int) ∧ ∀ j, j < k → zs.getD (r + j) 0 = 0) (fun iv => 200 - r - (intOf iv).toNat)
  case atStart => exact ⟨0, Nat.zero_le _, rfl, fun j hj => absurd hj (Nat.not_lt_zero j)⟩
  case round =>
    obtain ⟨k, hk, rfl, hz⟩ := hrel
    have HZ := Lib.hid hz
    clear hz
    by_cases hlt : k < 200 - r
    · obtain ⟨bl, of1, z, e1, hz1, hza, hzb, hc1⟩ := HB2.out.get (i := r + k) (by omega)
      cases e1
      rw [← Nat.add_assoc] at hc1
      by_cases h0 : z = 0
      · subst h0
        go_wp2
        go_round
        case rel => exact ⟨k + 1, by omega, by go_num, fun j hj => (Nat.lt_succ_iff_lt_or_eq.1 hj).elim (HZ.out j) (fun e => by rw [e]; exact hz1)⟩
        case measure => simp [intOf]; omega
      · have d3 : (z != 0) = true := by simpa using h0
        have E0 : Hid (res = false) := by
          show res = false
          rw [EOK.out, List.all_eq_false]
          refine ⟨z, ?_, by simpa using h0⟩
          rw [← hz1, getD_get 0 (show r + k < zs.length by rw [HL.out]; omega)]
          exact List.mem_of_getElem? (i := k) (by rw [List.getElem?_drop]; exact List.getElem?_eq_getElem _)
        go_wp2
        go_ret2
        exact ⟨⟨_, by rw [E0.out]; rfl⟩, K2.out⟩
    · obtain rfl : k = 200 - r := by omega
      have E1 : Hid (res = true) := by
        show res = true
        rw [EOK.out, List.all_eq_true]
        intro z hz
        obtain ⟨j, hj⟩ := List.getElem?_of_mem hz
        rw [List.getElem?_drop] at hj
        have hl := (List.getElem?_eq_some_iff.1 hj).1
        rw [HL.out] at hl
        have := HZ.out j (by omega)
        rw [getD_get 0 (by rw [HL.out]; omega), (List.getElem?_eq_some_iff.1 hj).2] at this
        simpa using this
      clear HZ EOK hk hlt
      obtain ⟨cs, hcl, hbl⟩ := BH.out
      have BL := Lib.hid hbl
      have CLN := Lib.hid hcl
      clear BH hcl hbl
      go_wp2
      go_loopw [39] (fun iv wr => ∃ (k : Nat) (cs : List Value), k ≤ 8 ∧ iv = .int .i64 (k : Int) ∧ cs.length = 138 ∧ Blk wr w.heap.size cs 100 ∧ Keeps None w wr) (fun iv _ => 8 - (intOf iv).toNat)
      case atStart => exact ⟨0, cs, Nat.zero_le _, rfl, CLN.out, BL.out, K2.out⟩
      case round =>
        obtain ⟨k, cs, hk, rfl, hcl, hbl, hkp⟩ := hrel
        obtain ⟨wv, rfl⟩ : ∃ x, x = wr := ⟨_, rfl⟩
        have B3 := Lib.hid hbl
        have C3 := Lib.hid hcl
        have K3 := Lib.hid hkp
        have BSV := Lib.hid (HB.out.keeps hkp (fun _ _ _ _ _ h => h))
        clear hcl hbl hkp BL CLN
        by_cases hlt : k < 8
        · have NUM := Lib.hid (fun w h => shnumber_any (some ⟨gb, off + 8 * k, none⟩) (200 - 8 * k) (cap - 8 * k) (zs.drop (8 * k)) w h (by omega))
          go_wp2
          obtain ⟨mS, mh⟩ : ∃ S : World → Prop, ∀ w', S w' ↔ (True) := ⟨_, fun _ => Iff.rfl⟩
          have mn : Nonempty (Memb mS) := ⟨⟨(wv).drew, (mh _).2 trivial⟩⟩
          have mH := Lib.hid mh
          clear mh
          refine wp_region_mix [6, 10] (InS mS) (by kernel_rfl) (by kernel_rfl) (InS.mk ((mH.out _).2 trivial)) ?_
          refine wpMix_seg 6 (by kernel_rfl) (by decide) ?_
          simp only [List.take_succ_cons, List.take_zero, List.drop_succ_cons, List.drop_zero]
          repeat (first | go_big_quiet_step (fail) | (go_big_quiet_want; first | refine quiet_build BU.out rfl rfl (by simp [Act.eval]) (by simp only [Act.put, List.setIfInBounds_toArray, List.set_cons_succ, List.set_cons_zero]; rfl) ?_; go_big_quiet_on))
          refine wpQuiet_nil ?_
          refine wpMix_eff (by kernel_rfl) ?_
          go_wp2_with fail
          refine (NUM.out _ ((BSV.out.drew).drop (by omega))).mono ?_
          rintro e w3 ⟨rfl, rfl⟩
          have BD : Hid (Blk wv.drew w.heap.size cs 100) := (Keeps.refl None wv).drew.blk B3.out (fun h => h)
          obtain ⟨v0, hv0⟩ : ∃ v, cs[1 + k]? = some v := ⟨_, List.getElem?_eq_getElem (by rw [C3.out]; omega)⟩
          have c2 := BD.out.cellD (1 + k) v0 hv0
          have c3 := BD.out.frozen (1 + k)
          have B5 := Lib.hid ((Keeps.refl None _).drew.blk (B3.out.set (1 + k) (.int .u64 ((bigN ((zs.drop (8 * k)).take 8) : Nat) : Int))) (fun h => h))
          have K5 := Lib.hid (K3.out.setCell ⟨w.heap.size, 1 + k, none⟩ (.int .u64 ((bigN ((zs.drop (8 * k)).take 8) : Nat) : Int)) (by simp)).drew
          clear NUM BSV hv0
          go_wp2
          refine MixK.on (InS.mk ((mH.out _).2 (⟨⟩))) ?_
          refine wpMix_seg 3 (by kernel_rfl) (by decide) ?_
          simp only [List.take_succ_cons, List.take_zero, List.drop_succ_cons, List.drop_zero]
          repeat (first | go_big_quiet_step (fail) | (go_big_quiet_want; first | refine quiet_build BU.out rfl rfl (by simp [Act.eval]) (by simp only [Act.put, List.setIfInBounds_toArray, List.set_cons_succ, List.set_cons_zero]; rfl) ?_; go_big_quiet_on))
          refine wpQuiet_nil ?_
          refine wpMix_eff (by kernel_rfl) ?_
          go_wp2
          refine MixK.last (by kernel_rfl) ?_
          refine wpMix_nil ?_
          clear  mn mH
          go_wp2
          go_roundw
          case rel => exact ⟨k + 1, _, by omega, by go_num, by rw [List.length_set]; exact C3.out, B5.out, K5.out⟩
          case measure => simp [intOf]; omega
        · obtain rfl : k = 8 := by omega
          clear BSV hlt hk
          go_wp2
          obtain ⟨mcS, mch⟩ : ∃ S : World → Prop, ∀ w', S w' ↔ (True) := ⟨_, fun _ => Iff.rfl⟩
          have mcn : Nonempty (Memb mcS) := ⟨⟨(wv).drew, (mch _).2 trivial⟩⟩
          have mcH := Lib.hid mch
          clear mch
          refine wp_region_mix [6] (InS mcS) (by kernel_rfl) (by kernel_rfl) (InS.mk ((mcH.out _).2 trivial)) ?_
          refine wpMix_seg 6 (by kernel_rfl) (by decide) ?_
          simp only [List.take_succ_cons, List.take_zero, List.drop_succ_cons, List.drop_zero]
          repeat (first | go_big_quiet_step (fail) | (go_big_quiet_want; first | refine quiet_build BU.out rfl rfl (by simp [Act.eval]) (by simp only [Act.put, List.setIfInBounds_toArray, List.set_cons_succ, List.set_cons_zero]; rfl) ?_; go_big_quiet_on))
          refine wpQuiet_nil ?_
          refine wpMix_eff (by kernel_rfl) ?_
          have B4 : Hid (Blk wv.drew w.heap.size cs 100) := (Keeps.refl None wv).drew.blk B3.out (fun h => h)
          have S4 : Hid (Bs wv.drew (some ⟨gb, off + 72, none⟩) 128 (cap - 72) (zs.drop 72)) := (HB.out.keeps K3.out.drew (fun _ _ _ _ _ h => h)).drop (by decide)
          go_wp2_with (refine wpList_copy_blk (g := w.heap.size) (off := 10) (dLen := 128) (dCap := 128) rfl rfl rfl rfl (fun _ => rfl) B4.out S4.out (by rw [C3.out]; decide) ?_)
          intro w4 b4 k4
          have K4 : Hid (Keeps None w w4) := K3.out.drew.trans k4 (fun _ h => h) (fun b hb e => absurd e (by omega))
          clear b4 k4 B4 S4
          go_wp2
          refine MixK.last (by kernel_rfl) ?_
          refine wpMix_nil ?_
          clear  mcn mcH
          go_wp2
          go_ret2
          exact ⟨_, by rw [E1.out]; rfl, K4.out⟩
end Go.Proofs.Ytfldgaiiniknpaa
