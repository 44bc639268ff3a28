/- Texts put together: Lg2, Lg3, Lg4. -/
import Derived.Test.YtfldgaiiniknpaaLCue
import Derived.Test.YtfldgaiiniknpaaLCub
import Derived.Test.YtfldgaiiniknpaaLCuc
import Derived.Test.YtfldgaiiniknpaaLCua

/- The walks of ledger's number, value, small, length. -/
namespace Go.Proofs.Ytfldgaiiniknpaa
open Go.RowKit

theorem shr8 (x k : Nat) : (x : Int) / 2 ^ (8 * k) % 256 = ((x / 256 ^ k % 256 : Nat) : Int) := by
  rw [Int.natCast_emod, Int.natCast_ediv, Int.natCast_pow, Int.pow_mul]
  rfl
set_option maxRecDepth 100000 in
set_option maxHeartbeats 800000 in
theorem lgnumber_any (x : Nat) (hx : x < 18446744073709551616) (w : World) : Calls Try.prog 38 #[.int .u64 x] w (Cloned w (lowL 8 x)) := by
  go_enter Try.func38, Try.ntmps38
  go_wp2
  go_loopw [3, 5] (fun ov iv wr => ∃ k : Nat, k ≤ 8 ∧ iv = .int .i64 (k : Int) ∧ Own wr w.heap.size ov (lowL k x) ∧ Keeps None w wr) (fun _ iv _ => 8 - (intOf iv).toNat)
  case atStart => exact ⟨0, Nat.zero_le _, rfl, Own.nil _ _, Keeps.refl _ _⟩
  case round =>
    obtain ⟨k, hk, rfl, ho, hkp⟩ := hrel
    obtain ⟨A0, c0, rfl, -, -⟩ := ho.shape
    rw [lowL_len] at ho ⊢
    have HO := Lib.hid ho
    have HK := Lib.hid hkp
    clear ho hkp
    by_cases hlt : k < 8
    · go_wp2_with (at_builtin; refine Hid.out ?_)
      refine Lib.hid ?_
      rw [shr8]
      refine wpList_append_bs (HO.out.alloc _) (Bs.oneAt _ _ rfl ((x / 256 ^ k % 256 : Nat) : Int) (by omega)) (by rw [lowL_len]; omega) (Nat.le_trans HK.out.size (by simp)) (by rfl) (by rfl) (by rfl) (by rfl) (by rfl) ?_
      intro v4 w4 o4 k4
      have H4 := Lib.hid (show Own w4 w.heap.size v4 (lowL (k + 1) x) from by rw [lowL_snoc]; exact o4)
      have K4 := Lib.hid ((HK.out.alloc (.cells #[.int .u8 ((x / 256 ^ k % 256 : Nat) : Int)] 5)).trans k4 (T := None) (fun _ h => h) (fun i hi e => absurd e ((show Own wr w.heap.size (.slice A0 k c0) (lowL k x) from HO.out).notBelow hi)))
      clear o4 k4
      go_wp2
      go_roundw
      case rel => exact ⟨k + 1, by omega, by go_num, H4.out, K4.out⟩
      case measure => simp [intOf]; omega
    · obtain rfl : k = 8 := by omega
      go_wp2
      go_ret
      exact ⟨_, rfl, HO.out, HK.out⟩
theorem numN_snoc : ∀ (zs : List Int) (z : Int), numN (zs ++ [z]) = numN zs + z.toNat * 256 ^ zs.length
  | [], z => by simp [numN]
  | y :: zs, z => by
    simp only [List.cons_append, numN, numN_snoc zs z, List.length_cons, Nat.pow_succ]
    rw [Nat.mul_add, Nat.mul_comm 256 (z.toNat * _), Nat.mul_assoc]
    omega
theorem numN_take (zs : List Int) (k : Nat) (hk : k < zs.length) : numN (zs.take (k + 1)) = numN (zs.take k) + (zs.getD k 0).toNat * 256 ^ k := by
  rw [← take_snoc zs k hk, numN_snoc, List.length_take, Nat.min_eq_left (by omega), getD_get 0 hk]
theorem or8 {zs : List Int} (hb : ∀ z ∈ zs, 0 ≤ z ∧ z ≤ 255) {k : Nat} (hk : k < zs.length) (h8 : k < 8) :
    bits .or .u64 ((numN (zs.take k) : Nat) : Int) (IntKind.u64.wrap (zs.getD k 0 * 2 ^ (8 * k))) = ((numN (zs.take (k + 1)) : Nat) : Int) := by
  have h1 := numN_lt (zs.take k) (fun z hz => hb z (List.mem_of_mem_take hz))
  rw [List.length_take, Nat.min_eq_left (by omega)] at h1
  have hz := hb (zs.getD k 0) (getD_mem 0 hk)
  obtain ⟨c, hc⟩ : ∃ c : Nat, zs.getD k 0 = c := ⟨(zs.getD k 0).toNat, by omega⟩
  have e := numN_take zs k hk
  rw [hc] at e hz ⊢
  have p8 : (256 : Nat) ^ k ≤ 256 ^ 7 := Nat.pow_le_pow_right (by decide) (by omega)
  have p7 : (256 : Nat) ^ 7 = 72057594037927936 := by decide
  have hc2 : c * 256 ^ k < 18446744073709551616 := by
    have : c * 256 ^ k ≤ 255 * 256 ^ k := Nat.mul_le_mul_right _ (by omega)
    omega
  have e2 : (c : Int) * 2 ^ (8 * k) = ((c * 256 ^ k : Nat) : Int) := by
    rw [Int.natCast_mul, Int.natCast_pow, Int.pow_mul]
    rfl
  have e3 : IntKind.u64.wrap ((c * 256 ^ k : Nat) : Int) = ((c * 256 ^ k : Nat) : Int) := by
    generalize c * 256 ^ k = y at hc2
    simp [IntKind.wrap, IntKind.bits, IntKind.signed]
    omega
  rw [e2, e3, u64_or_nat _ _ (by omega) hc2, e]
  congr 1
  have h2 : numN (zs.take k) < 2 ^ (8 * k) := by rw [Nat.pow_mul]; exact h1
  have h3 := Nat.shiftLeft_add_eq_or_of_lt h2 c
  rw [Nat.shiftLeft_eq, Nat.pow_mul] at h3
  rw [Nat.or_comm, ← h3]
  show c * 256 ^ k + _ = _
  simp only [Int.toNat_natCast]
  omega
set_option maxRecDepth 100000 in
set_option maxHeartbeats 800000 in
theorem lgvalue_any (A : Option Addr) (n cap : Nat) (zs : List Int) (w : World) (h : Bs w A n cap zs) (hn : 8 ≤ n) : Calls Try.prog 31 #[.slice A n cap] w fun e w' => e = .returned (.int .u64 ((numN (zs.take 8) : Nat) : Int)) ∧ w = w' := by
  have hle := h.le
  have hmax := h.max
  have HL := Lib.hid h.len
  have HB := Lib.hid h
  obtain ⟨gb, off, rfl, hgb, -⟩ := h.at_ (by omega)
  clear h
  go_enter Try.func31, Try.ntmps31
  go_wp2
  go_loop [3, 9] (fun xv iv => ∃ k : Nat, k ≤ 8 ∧ iv = .int .i64 (k : Int) ∧ xv = .int .u64 ((numN (zs.take k) : Nat) : Int)) (fun _ iv => 8 - (intOf iv).toNat)
  case atStart => exact ⟨0, Nat.zero_le _, rfl, rfl⟩
  case round =>
    obtain ⟨k, hk, rfl, rfl⟩ := hrel
    by_cases hlt : k < 8
    · obtain ⟨bl, of1, z, e1, hz1, hza, hzb, hc1⟩ := HB.out.get (i := k) (by omega)
      cases e1
      have OR := or8 HB.out.byte (k := k) (by rw [HL.out]; omega) hlt
      rw [hz1] at OR
      go_wp2
      go_round
      case rel => exact ⟨k + 1, by omega, by go_num, rfl⟩
      case measure => simp [intOf]; omega
    · obtain rfl : k = 8 := by omega
      go_wp2
      go_ret
      exact ⟨rfl, rfl⟩
set_option maxRecDepth 100000 in
theorem lgsmall_any (A : Option Addr) (n cap : Nat) (zs : List Int) (w : World) (h : Bs w A n cap zs) (hn : 8 ≤ n) : Calls Try.prog 32 #[.slice A n cap] w fun e w' => e = .returned (.int .i64 (smallN (numN (zs.take 8)))) ∧ w = w' := by
  have V := Lib.hid (lgvalue_any A n cap zs w h hn)
  have hb := numN_lt (zs.take 8) (fun z hz => h.byte z (List.mem_of_mem_take hz))
  have h8 : (256 : Nat) ^ (zs.take 8).length ≤ 18446744073709551616 := by
    rw [← pow8]
    exact Nat.pow_le_pow_right (by decide) (List.length_take_le _ _)
  clear h
  generalize numN (zs.take 8) = x at *
  by_cases hx : x ≤ 2147483647
  · have d : decide ((x : Int) ≤ 2147483647) = true := decide_eq_true (by omega)
    rw [show smallN x = x from if_pos hx]
    go_enter Try.func32, Try.ntmps32
    go_wp2_with fail
    refine V.out.mono ?_
    rintro e w1 ⟨rfl, rfl⟩
    go_wp2
    go_ret
    exact ⟨rfl, rfl⟩
  · have d : decide ((x : Int) ≤ 2147483647) = false := decide_eq_false (by omega)
    rw [show smallN x = -1 from if_neg hx]
    go_enter Try.func32, Try.ntmps32
    go_wp2_with fail
    refine V.out.mono ?_
    rintro e w1 ⟨rfl, rfl⟩
    go_wp2
    go_ret
    exact ⟨rfl, rfl⟩
set_option maxRecDepth 100000 in
theorem lglength_any (n : Int) (w : World) : Calls Try.prog 36 #[.int .i64 n] w fun e w' => e = .returned (.bool (decide (0 ≤ n ∧ n ≤ 2147483647))) ∧ w = w' := by
  go_enter Try.func36, Try.ntmps36
  by_cases h1 : 0 ≤ n
  · have d1 : decide (0 ≤ n) = true := decide_eq_true h1
    by_cases h2 : n ≤ 2147483647
    · have d2 : decide (n ≤ 2147483647) = true := decide_eq_true h2
      rw [decide_eq_true (show 0 ≤ n ∧ n ≤ 2147483647 from ⟨h1, h2⟩)]
      go_wp2
      go_ret
      exact ⟨rfl, rfl⟩
    · have d2 : decide (n ≤ 2147483647) = false := decide_eq_false h2
      rw [decide_eq_false (show ¬ (0 ≤ n ∧ n ≤ 2147483647) from fun h => h2 h.2)]
      go_wp2
      go_ret
      exact ⟨rfl, rfl⟩
  · have d1 : decide (0 ≤ n) = false := decide_eq_false h1
    rw [decide_eq_false (show ¬ (0 ≤ n ∧ n ≤ 2147483647) from fun h => h1 h.1)]
    go_wp2
    go_ret
    exact ⟨rfl, rfl⟩
end Go.Proofs.Ytfldgaiiniknpaa
/- The walk of sha512's number and Load. -/
namespace Go.Proofs.Ytfldgaiiniknpaa
open Go.RowKit

theorem bigN_snoc (zs : List Int) (z : Int) : bigN (zs ++ [z]) = bigN zs * 256 + z.toNat := by
  unfold bigN
  rw [List.foldl_append]
  rfl
theorem bigN_take (zs : List Int) (k : Nat) (hk : k < zs.length) : bigN (zs.take (k + 1)) = bigN (zs.take k) * 256 + (zs.getD k 0).toNat := by
  rw [← take_snoc zs k hk, bigN_snoc, getD_get 0 hk]
theorem bigN_lt {zs : List Int} (hb : ∀ z ∈ zs, 0 ≤ z ∧ z ≤ 255) : ∀ k, k ≤ zs.length → bigN (zs.take k) < 256 ^ k
  | 0, _ => by simp [bigN]
  | k + 1, h => by
    have h1 := bigN_lt hb k (by omega)
    have h2 := hb (zs.getD k 0) (getD_mem 0 (by omega))
    rw [bigN_take zs k (by omega), Nat.pow_succ]
    omega
theorem or_big {zs : List Int} (hb : ∀ z ∈ zs, 0 ≤ z ∧ z ≤ 255) {k : Nat} (hk : k < zs.length) (h8 : k < 8) :
    bits .or .u64 (IntKind.u64.wrap (((bigN (zs.take k) : Nat) : Int) * 256)) (zs.getD k 0) = ((bigN (zs.take (k + 1)) : Nat) : Int) := by
  have h1 := bigN_lt hb k (by omega)
  have p8 : (256 : Nat) ^ k ≤ 256 ^ 7 := Nat.pow_le_pow_right (by decide) (by omega)
  have p7 : (256 : Nat) ^ 7 = 72057594037927936 := by decide
  have hz := hb (zs.getD k 0) (getD_mem 0 hk)
  obtain ⟨c, hc⟩ : ∃ c : Nat, zs.getD k 0 = c := ⟨(zs.getD k 0).toNat, by omega⟩
  have e := bigN_take zs k hk
  rw [hc] at e hz ⊢
  rw [e]
  generalize bigN (zs.take k) = x at *
  have e3 : IntKind.u64.wrap ((x : Int) * 256) = ((x * 256 : Nat) : Int) := by
    simp [IntKind.wrap, IntKind.bits, IntKind.signed]
    omega
  rw [e3, u64_or_nat _ _ (by omega) (by omega)]
  congr 1
  have h3 := Nat.shiftLeft_add_eq_or_of_lt (show c < 2 ^ 8 by omega) x
  rw [Nat.shiftLeft_eq] at h3
  rw [show x * 256 = x * 2 ^ 8 from rfl, ← h3]
  simp only [Int.toNat_natCast]
set_option maxRecDepth 100000 in
set_option maxHeartbeats 800000 in
theorem shnumber_any (A : Option Addr) (n cap : Nat) (zs : List Int) (w : World) (h : Bs w A n cap zs) (hn : 8 ≤ n) : Calls Try.prog 53 #[.slice A n cap] w fun e w' => e = .returned (.int .u64 ((bigN (zs.take 8) : Nat) : Int)) ∧ w = w' := by
  have hle := h.le
  have hmax := h.max
  have HL := Lib.hid h.len
  have HB := Lib.hid h
  obtain ⟨gb, off, rfl, hgb, -⟩ := h.at_ (by omega)
  clear h
  go_enter Try.func53, Try.ntmps53
  go_wp2
  go_loop [3, 9] (fun xv iv => ∃ k : Nat, k ≤ 8 ∧ iv = .int .i64 (k : Int) ∧ xv = .int .u64 ((bigN (zs.take k) : Nat) : Int)) (fun _ iv => 8 - (intOf iv).toNat)
  case atStart => exact ⟨0, Nat.zero_le _, rfl, rfl⟩
  case round =>
    obtain ⟨k, hk, rfl, rfl⟩ := hrel
    by_cases hlt : k < 8
    · obtain ⟨bl, of1, z, e1, hz1, hza, hzb, hc1⟩ := HB.out.get (i := k) (by omega)
      cases e1
      have OR := or_big HB.out.byte (k := k) (by rw [HL.out]; omega) hlt
      rw [hz1] at OR
      go_wp2
      go_round
      case rel => exact ⟨k + 1, by omega, by go_num, rfl⟩
      case measure => simp [intOf]; omega
    · obtain rfl : k = 8 := by omega
      go_wp2
      go_ret
      exact ⟨rfl, rfl⟩
set_option maxRecDepth 100000 in
set_option maxHeartbeats 1600000 in
theorem shload_any (A : Option Addr) (n cap : Nat) (zs : List Int) (w : World) (h : Bs w A n cap zs) :
    Calls Try.prog 40 #[.slice A n cap] w fun e w' => ∃ p, e = .returned (.tuple #[.pointer p, .bool (midOk zs)]) ∧ Keeps None w w' := by
  have hle := h.le
  have hmax := h.max
  have HL := Lib.hid h.len
  have HB := Lib.hid h
  by_cases hn : n = 200
  case neg =>
    have d1 : ((n : Int) != 200) = true := by simp; omega
    have E0 : Hid (midOk zs = false) := by
      show midOk zs = false
      unfold midOk
      rw [HL.out, decide_eq_false hn]
      rfl
    rw [E0.out]
    clear h
    go_enter Try.func40, Try.ntmps40
    go_wp2
    go_ret2
    exact ⟨_, rfl, Keeps.refl _ _⟩
  subst hn
  obtain ⟨gb, off, rfl, hgb, hcel⟩ := h.at_ (by omega)
  clear h
  have NB := Lib.hid (shnumber_any _ _ _ _ w (HB.out.drop (k := 64) (by decide)) (by decide))
  have MB := bigN_lt (zs := zs.drop 64) (fun z hz => HB.out.byte z (List.mem_of_mem_drop hz)) 8 (by rw [List.length_drop, HL.out]; decide)
  have MN : Hid (midN zs = bigN ((zs.drop 64).take 8)) := rfl
  rw [← MN.out] at NB MB
  rw [pow8] at MB
  obtain ⟨N, hN⟩ : ∃ N, midN zs = N := ⟨_, rfl⟩
  have HN := Lib.hid hN
  rw [hN] at NB MB
  clear hN MN hcel
  obtain ⟨res, HRES⟩ : ∃ x, Hid (midOk zs = x) := ⟨_, rfl⟩
  rw [HRES.out]
  go_enter Try.func40, Try.ntmps40
  go_wp2_with fail
  refine NB.out.mono ?_
  rintro e w1 ⟨rfl, rfl⟩
  by_cases hm : 1152921504606846976 < N
  · have d2 : decide ((1152921504606846976 : Int) < (N : Int)) = true := decide_eq_true (by omega)
    have E0 : Hid (res = false) := by
      show res = false
      rw [← HRES.out]
      unfold midOk
      rw [HN.out, decide_eq_false (show ¬ N ≤ 1152921504606846976 by omega), Bool.false_and, Bool.and_false]
    go_wp2
    go_ret2
    exact ⟨_, by rw [E0.out]; rfl, Keeps.refl _ _⟩
  have d2 : decide ((1152921504606846976 : Int) < (N : Int)) = false := decide_eq_false (by omega)
  have EOK : Hid (res = (zs.drop (72 + N % 128)).all (· == 0)) := by
    show res = _
    rw [← HRES.out]
    unfold midOk
    rw [HN.out, HL.out, decide_eq_true (show N ≤ 1152921504606846976 by omega)]
    rfl
  clear HRES HN
  go_wp2_with fail
  refine NB.out.mono ?_
  rintro e w1 ⟨rfl, rfl⟩
  clear NB
  go_wp2
  obtain ⟨r, hr⟩ : ∃ r, 72 + N % 128 = r := ⟨_, rfl⟩
  have r1 : 72 ≤ r := by omega
  have r2 : r < 200 := by omega
  obtain ⟨w2, hw2⟩ : ∃ x, w.alloc (.cells ((Try.zeroCells100.setIfInBounds 0 (.bool true)).setIfInBounds 9 (.int .i64 (N : Int))) 100) = x := ⟨_, rfl⟩
  have BH : Hid (∃ cs : List Value, cs.length = 138 ∧ Blk w2 w.heap.size cs 100) := by
    refine ⟨((Try.zeroCells100.setIfInBounds 0 (.bool true)).setIfInBounds 9 (.int .i64 (N : Int))).toList, ?_, ?_⟩
    · rw [Array.length_toList, Array.size_setIfInBounds, Array.size_setIfInBounds]
      kernel_rfl
    · rw [← hw2]
      exact Blk.new w _ 100
  have K2 : Hid (Keeps None w w2) := by rw [← hw2]; exact (Keeps.refl None w).alloc _
  rw [hw2]
  rw [hr] at EOK ⊢
  clear hw2 hr d2 hm MB
  have HB2 := Lib.hid (HB.out.keeps K2.out (fun _ _ _ _ _ h => h))
  go_loop [32] (fun iv => ∃ k : Nat, k ≤ 200 - r ∧ iv = .int .i64 (k : Int) ∧ ∀ j, j < k → zs.getD (r + j) 0 = 0) (fun iv => 200 - r - (intOf iv).toNat)
  case atStart => exact ⟨0, Nat.zero_le _, rfl, fun j hj => absurd hj (Nat.not_lt_zero j)⟩
  case round =>
    obtain ⟨k, hk, rfl, hz⟩ := hrel
    have HZ := Lib.hid hz
    clear hz
    by_cases hlt : k < 200 - r
    · obtain ⟨bl, of1, z, e1, hz1, hza, hzb, hc1⟩ := HB2.out.get (i := r + k) (by omega)
      cases e1
      rw [← Nat.add_assoc] at hc1
      by_cases h0 : z = 0
      · subst h0
        go_wp2
        go_round
        case rel => exact ⟨k + 1, by omega, by go_num, fun j hj => (Nat.lt_succ_iff_lt_or_eq.1 hj).elim (HZ.out j) (fun e => by rw [e]; exact hz1)⟩
        case measure => simp [intOf]; omega
      · have d3 : (z != 0) = true := by simpa using h0
        have E0 : Hid (res = false) := by
          show res = false
          rw [EOK.out, List.all_eq_false]
          refine ⟨z, ?_, by simpa using h0⟩
          rw [← hz1, getD_get 0 (show r + k < zs.length by rw [HL.out]; omega)]
          exact List.mem_of_getElem? (i := k) (by rw [List.getElem?_drop]; exact List.getElem?_eq_getElem _)
        go_wp2
        go_ret2
        exact ⟨⟨_, by rw [E0.out]; rfl⟩, K2.out⟩
    · obtain rfl : k = 200 - r := by omega
      have E1 : Hid (res = true) := by
        show res = true
        rw [EOK.out, List.all_eq_true]
        intro z hz
        obtain ⟨j, hj⟩ := List.getElem?_of_mem hz
        rw [List.getElem?_drop] at hj
        have hl := (List.getElem?_eq_some_iff.1 hj).1
        rw [HL.out] at hl
        have := HZ.out j (by omega)
        rw [getD_get 0 (by rw [HL.out]; omega), (List.getElem?_eq_some_iff.1 hj).2] at this
        simpa using this
      clear HZ EOK hk hlt
      obtain ⟨cs, hcl, hbl⟩ := BH.out
      have BL := Lib.hid hbl
      have CLN := Lib.hid hcl
      clear BH hcl hbl
      go_wp2
      go_loopw [39] (fun iv wr => ∃ (k : Nat) (cs : List Value), k ≤ 8 ∧ iv = .int .i64 (k : Int) ∧ cs.length = 138 ∧ Blk wr w.heap.size cs 100 ∧ Keeps None w wr) (fun iv _ => 8 - (intOf iv).toNat)
      case atStart => exact ⟨0, cs, Nat.zero_le _, rfl, CLN.out, BL.out, K2.out⟩
      case round =>
        obtain ⟨k, cs, hk, rfl, hcl, hbl, hkp⟩ := hrel
        obtain ⟨wv, rfl⟩ : ∃ x, x = wr := ⟨_, rfl⟩
        have B3 := Lib.hid hbl
        have C3 := Lib.hid hcl
        have K3 := Lib.hid hkp
        have BSV := Lib.hid (HB.out.keeps hkp (fun _ _ _ _ _ h => h))
        clear hcl hbl hkp BL CLN
        by_cases hlt : k < 8
        · have NUM := Lib.hid (fun w h => shnumber_any (some ⟨gb, off + 8 * k, none⟩) (200 - 8 * k) (cap - 8 * k) (zs.drop (8 * k)) w h (by omega))
          go_wp2
          obtain ⟨mS, mh⟩ : ∃ S : World → Prop, ∀ w', S w' ↔ (True) := ⟨_, fun _ => Iff.rfl⟩
          have mn : Nonempty (Memb mS) := ⟨⟨(wv).drew, (mh _).2 trivial⟩⟩
          have mH := Lib.hid mh
          clear mh
          refine wp_region_mix [6, 10] (InS mS) (by kernel_rfl) (by kernel_rfl) (InS.mk ((mH.out _).2 trivial)) ?_
          refine wpMix_seg 6 (by kernel_rfl) (by decide) ?_
          simp only [List.take_succ_cons, List.take_zero, List.drop_succ_cons, List.drop_zero]
          repeat (go_big_quiet_step (fail))
          refine wpQuiet_nil ?_
          refine wpMix_eff (by kernel_rfl) ?_
          go_wp2_with fail
          refine (NUM.out _ ((BSV.out.drew).drop (by omega))).mono ?_
          rintro e w3 ⟨rfl, rfl⟩
          have BD : Hid (Blk wv.drew w.heap.size cs 100) := (Keeps.refl None wv).drew.blk B3.out (fun h => h)
          obtain ⟨v0, hv0⟩ : ∃ v, cs[1 + k]? = some v := ⟨_, List.getElem?_eq_getElem (by rw [C3.out]; omega)⟩
          have c2 := BD.out.cellD (1 + k) v0 hv0
          have c3 := BD.out.frozen (1 + k)
          have B5 := Lib.hid ((Keeps.refl None _).drew.blk (B3.out.set (1 + k) (.int .u64 ((bigN ((zs.drop (8 * k)).take 8) : Nat) : Int))) (fun h => h))
          have K5 := Lib.hid (K3.out.setCell ⟨w.heap.size, 1 + k, none⟩ (.int .u64 ((bigN ((zs.drop (8 * k)).take 8) : Nat) : Int)) (by simp)).drew
          clear NUM BSV hv0
          go_wp2
          refine MixK.on (InS.mk ((mH.out _).2 (⟨⟩))) ?_
          refine wpMix_seg 3 (by kernel_rfl) (by decide) ?_
          simp only [List.take_succ_cons, List.take_zero, List.drop_succ_cons, List.drop_zero]
          repeat (go_big_quiet_step (fail))
          refine wpQuiet_nil ?_
          refine wpMix_eff (by kernel_rfl) ?_
          go_wp2
          refine MixK.last (by kernel_rfl) ?_
          refine wpMix_nil ?_
          clear  mn mH
          go_wp2
          go_roundw
          case rel => exact ⟨k + 1, _, by omega, by go_num, by rw [List.length_set]; exact C3.out, B5.out, K5.out⟩
          case measure => simp [intOf]; omega
        · obtain rfl : k = 8 := by omega
          clear BSV hlt hk
          go_wp2
          obtain ⟨mcS, mch⟩ : ∃ S : World → Prop, ∀ w', S w' ↔ (True) := ⟨_, fun _ => Iff.rfl⟩
          have mcn : Nonempty (Memb mcS) := ⟨⟨(wv).drew, (mch _).2 trivial⟩⟩
          have mcH := Lib.hid mch
          clear mch
          refine wp_region_mix [6] (InS mcS) (by kernel_rfl) (by kernel_rfl) (InS.mk ((mcH.out _).2 trivial)) ?_
          refine wpMix_seg 6 (by kernel_rfl) (by decide) ?_
          simp only [List.take_succ_cons, List.take_zero, List.drop_succ_cons, List.drop_zero]
          repeat (go_big_quiet_step (fail))
          refine wpQuiet_nil ?_
          refine wpMix_eff (by kernel_rfl) ?_
          have B4 : Hid (Blk wv.drew w.heap.size cs 100) := (Keeps.refl None wv).drew.blk B3.out (fun h => h)
          have S4 : Hid (Bs wv.drew (some ⟨gb, off + 72, none⟩) 128 (cap - 72) (zs.drop 72)) := (HB.out.keeps K3.out.drew (fun _ _ _ _ _ h => h)).drop (by decide)
          go_wp2_with (refine wpList_copy_blk (g := w.heap.size) (off := 10) (dLen := 128) (dCap := 128) rfl rfl rfl rfl (fun _ => rfl) B4.out S4.out (by rw [C3.out]; decide) ?_)
          intro w4 b4 k4
          have K4 : Hid (Keeps None w w4) := K3.out.drew.trans k4 (fun _ h => h) (fun b hb e => absurd e (by omega))
          clear b4 k4 B4 S4
          go_wp2
          refine MixK.last (by kernel_rfl) ?_
          refine wpMix_nil ?_
          clear  mcn mcH
          go_wp2
          go_ret2
          exact ⟨_, by rw [E1.out]; rfl, K4.out⟩
end Go.Proofs.Ytfldgaiiniknpaa
/- The walks of ledger's PutCommit and PutCheck. -/
namespace Go.Proofs.Ytfldgaiiniknpaa
open Go.RowKit

/-- A commit's cells, and its value. -/
def Com.cs (c : Com) : List Value := .int .i64 c.slot :: .int .u64 (c.ver : Int) :: .int .u64 (c.fl : Int) :: .int .i64 c.len :: c.me.map (.int .u8)
def Com.v (c : Com) : Value := .agg c.cs.toArray
theorem Com.cs_len {c : Com} (o : c.ok) : c.cs.length = 68 := by simp [Com.cs, o.ml]
/-- Five parts put together. -/
theorem concat5 (p1 p2 p3 p4 p5 : Part) (bp : Nat) (T : TypeId) (w : World) (hb : Blk w bp [p1.val, p2.val, p3.val, p4.val, p5.val] T) (h1 : Bs w p1.A p1.n p1.cap p1.zs) (h2 : Bs w p2.A p2.n p2.cap p2.zs) (h3 : Bs w p3.A p3.n p3.cap p3.zs) (h4 : Bs w p4.A p4.n p4.cap p4.zs) (h5 : Bs w p5.A p5.n p5.cap p5.zs)
    (n0 : 0 < p1.n) (n1 : p1.n + p2.n + p3.n + p4.n + p5.n ≤ 1000000) :
    Calls Try.prog 37 #[.slice (some ⟨bp, 0, none⟩) 5 5] w fun e w' => ∃ v, e = .returned v ∧ Own w' w.heap.size v (p1.zs ++ (p2.zs ++ (p3.zs ++ (p4.zs ++ p5.zs)))) ∧ Keeps None w w' := by
  have e : cat [p1, p2, p3, p4, p5] = p1.zs ++ (p2.zs ++ (p3.zs ++ (p4.zs ++ p5.zs))) := by simp [cat]
  rw [← e]
  refine concat_any [p1, p2, p3, p4, p5] 5 bp T w hb rfl (fun p hp => ?_) (by simp [tot]; omega) (by simp [tot]; omega) (by decide)
  simp only [List.mem_cons, List.not_mem_nil, or_false] at hp
  rcases hp with rfl | rfl | rfl | rfl | rfl <;> assumption
set_option maxRecDepth 100000 in
set_option maxHeartbeats 1600000 in
theorem lgputc_any (c : Com) (o : c.ok) (w : World) : Calls Try.prog 12 #[c.v] w (Cloned w (comL c)) := by
  unfold Com.v
  have a0 : c.cs.toArray[0]? = some (.int .i64 c.slot) := rfl
  have a1 : c.cs.toArray[1]? = some (.int .u64 (c.ver : Int)) := rfl
  have a2 : c.cs.toArray[2]? = some (.int .u64 (c.fl : Int)) := rfl
  have a3 : c.cs.toArray[3]? = some (.int .i64 c.len) := rfl
  have BL := Lib.hid (Blk.new w c.cs 25)
  have ML := Lib.hid o.ml
  have MB := Lib.hid o.mb
  have ME := Lib.hid (show ∀ i, i < 64 → c.cs[4 + i]? = some (.int .u8 (c.me.getD i 0)) from fun i hi => by
    rw [Nat.add_comm, show c.cs[i + 4]? = (c.me.map (.int .u8))[i]? from rfl]
    exact map_getD 0 (by rw [o.ml]; exact hi))
  have VV := Lib.hid o.v
  have FF := Lib.hid o.f
  obtain ⟨A, hA⟩ : ∃ A, c.cs.toArray = A := ⟨_, rfl⟩
  rw [hA] at a0 a1 a2 a3 BL ⊢
  clear hA o
  by_cases g1 : c.slot < 0
  · have d1 : decide (c.slot < 0) = true := decide_eq_true g1
    have HP : Hid (comL c = []) := if_neg (fun h => by obtain ⟨f1, f2, f3, f4⟩ := h; omega)
    go_enter Try.func12, Try.ntmps12
    go_wp2
    go_ret
    exact ⟨_, rfl, by rw [HP.out]; exact Own.nil _ _, (Keeps.refl _ _).alloc _⟩
  have d1 : decide (c.slot < 0) = false := decide_eq_false g1
  by_cases g2 : 1 < c.slot
  · have d2 : decide (1 < c.slot) = true := decide_eq_true g2
    have HP : Hid (comL c = []) := if_neg (fun h => by obtain ⟨f1, f2, f3, f4⟩ := h; omega)
    go_enter Try.func12, Try.ntmps12
    go_wp2
    go_ret
    exact ⟨_, rfl, by rw [HP.out]; exact Own.nil _ _, (Keeps.refl _ _).alloc _⟩
  have d2 : decide (1 < c.slot) = false := decide_eq_false g2
  by_cases g3 : 0 ≤ c.len
  case neg =>
    have d3 : decide (0 ≤ c.len) = false := decide_eq_false g3
    have HP : Hid (comL c = []) := if_neg (fun h => by obtain ⟨f1, f2, f3, f4⟩ := h; omega)
    go_enter Try.func12, Try.ntmps12
    go_wp2
    go_ret
    exact ⟨_, rfl, by rw [HP.out]; exact Own.nil _ _, (Keeps.refl _ _).alloc _⟩
  have d3 : decide (0 ≤ c.len) = true := decide_eq_true g3
  by_cases g4 : c.len ≤ 2147483647
  case neg =>
    have d4 : decide (c.len ≤ 2147483647) = false := decide_eq_false g4
    have HP : Hid (comL c = []) := if_neg (fun h => by obtain ⟨f1, f2, f3, f4⟩ := h; omega)
    go_enter Try.func12, Try.ntmps12
    go_wp2
    go_ret
    exact ⟨_, rfl, by rw [HP.out]; exact Own.nil _ _, (Keeps.refl _ _).alloc _⟩
  have d4 : decide (c.len ≤ 2147483647) = true := decide_eq_true g4
  have HP : Hid (comL c = lowL 8 c.slot.toNat ++ (lowL 8 c.ver ++ (lowL 8 c.fl ++ (lowL 8 c.len.toNat ++ c.me)))) := if_pos ⟨by omega, by omega, g3, g4⟩
  obtain ⟨sl, hsl⟩ : ∃ n : Nat, c.slot = n := ⟨c.slot.toNat, by omega⟩
  obtain ⟨ln, hln⟩ : ∃ n : Nat, c.len = n := ⟨c.len.toNat, by omega⟩
  have N1 := Lib.hid (fun w => lgnumber_any sl (by omega) w)
  have N2 := Lib.hid (fun w => lgnumber_any c.ver VV.out w)
  have N3 := Lib.hid (fun w => lgnumber_any c.fl FF.out w)
  have N4 := Lib.hid (fun w => lgnumber_any ln (by omega) w)
  rw [hsl] at a0 d1 d2
  rw [hln] at a3 d3 d4
  have HQ : Hid (comL c = lowL 8 sl ++ (lowL 8 c.ver ++ (lowL 8 c.fl ++ (lowL 8 ln ++ c.me)))) := by show _ = _; rw [HP.out, hsl, hln]; rfl
  have HSL := Lib.hid hsl
  have HLN := Lib.hid hln
  have s1 : sl ≤ 1 := by omega
  have l1 : ln ≤ 2147483647 := by omega
  clear HP hsl hln g1 g2 g3 g4
  go_enter Try.func12, Try.ntmps12
  go_wp2
  obtain ⟨wb, hwb⟩ : ∃ x, w.alloc (.cells A 25) = x := ⟨_, rfl⟩
  have KB : Hid (Keeps None w wb) := by rw [← hwb]; exact (Keeps.refl None w).alloc _
  have HS : Hid (w.heap.size + 1 = wb.heap.size) := by show _ = _; rw [← hwb]; simp
  rw [hwb] at BL ⊢
  clear hwb a0 a1 a2 a3
  have cb0 : ∀ w2, Keeps None wb w2 → w2.cell? ⟨w.heap.size, 0, none⟩ = some (.int .i64 (sl : Int)) := fun w2 k => (k.blk BL.out (fun h => h)).cellD 0 _ (by rw [← HSL.out]; rfl)
  have cb1 : ∀ w2, Keeps None wb w2 → w2.cell? ⟨w.heap.size, 1, none⟩ = some (.int .u64 (c.ver : Int)) := fun w2 k => (k.blk BL.out (fun h => h)).cellD 1 _ rfl
  have cb2 : ∀ w2, Keeps None wb w2 → w2.cell? ⟨w.heap.size, 2, none⟩ = some (.int .u64 (c.fl : Int)) := fun w2 k => (k.blk BL.out (fun h => h)).cellD 2 _ rfl
  have cb3 : ∀ w2, Keeps None wb w2 → w2.cell? ⟨w.heap.size, 3, none⟩ = some (.int .i64 (ln : Int)) := fun w2 k => (k.blk BL.out (fun h => h)).cellD 3 _ (by rw [← HLN.out]; rfl)
  have CB := Lib.hid (fun w2 k => (⟨cb0 w2 k, cb1 w2 k, cb2 w2 k, cb3 w2 k⟩ : _ ∧ _ ∧ _ ∧ _))
  have KR := Lib.hid (Keeps.refl None wb)
  have ARR : Hid (∀ w2, Keeps None wb w2 → Bs w2 (some ⟨w.heap.size, 4, none⟩) 64 64 c.me) := fun w2 k => ⟨ML.out, Nat.le_refl _, by decide, (fun e => by cases e), MB.out, fun _ => ⟨w.heap.size, 4, rfl, by have := k.size; have := HS.out; omega, fun i hi => (k.blk BL.out (fun h => h)).cellD (4 + i) _ (ME.out i hi)⟩⟩
  clear cb0 cb1 cb2 cb3
  obtain ⟨mS, mh⟩ : ∃ S : World → Prop, ∀ w', S w' ↔ (w'.cell? ⟨w.heap.size, 0, none⟩ = some (.int .i64 (sl : Int)) ∧ w'.cell? ⟨w.heap.size, 1, none⟩ = some (.int .u64 (c.ver : Int)) ∧ w'.cell? ⟨w.heap.size, 2, none⟩ = some (.int .u64 (c.fl : Int)) ∧ w'.cell? ⟨w.heap.size, 3, none⟩ = some (.int .i64 (ln : Int))) := ⟨_, fun _ => Iff.rfl⟩
  have mk0 : ∀ x : Memb mS, x.at_.cell? ⟨w.heap.size, 0, none⟩ = some (.int .i64 (sl : Int)) := fun x => ((mh _).1 x.is).1
  have mk1 : ∀ x : Memb mS, x.at_.cell? ⟨w.heap.size, 1, none⟩ = some (.int .u64 (c.ver : Int)) := fun x => ((mh _).1 x.is).2.1
  have mk2 : ∀ x : Memb mS, x.at_.cell? ⟨w.heap.size, 2, none⟩ = some (.int .u64 (c.fl : Int)) := fun x => ((mh _).1 x.is).2.2.1
  have mk3 : ∀ x : Memb mS, x.at_.cell? ⟨w.heap.size, 3, none⟩ = some (.int .i64 (ln : Int)) := fun x => ((mh _).1 x.is).2.2.2
  have mn : Nonempty (Memb mS) := ⟨⟨(wb).drew, (mh _).2 ⟨(CB.out _ KR.out).1, (CB.out _ KR.out).2.1, (CB.out _ KR.out).2.2.1, (CB.out _ KR.out).2.2.2⟩⟩⟩
  have mH := Lib.hid mh
  clear mh
  refine wp_region_mix [3, 6, 9, 13, 16, 17] (InS mS) (by kernel_rfl) (by kernel_rfl) (InS.mk ((mH.out _).2 ⟨(CB.out _ KR.out).1, (CB.out _ KR.out).2.1, (CB.out _ KR.out).2.2.1, (CB.out _ KR.out).2.2.2⟩)) ?_
  refine wpMix_seg 3 (by kernel_rfl) (by decide) ?_
  simp only [List.take_succ_cons, List.take_zero, List.drop_succ_cons, List.drop_zero]
  repeat (go_big_quiet_step (fail))
  refine wpQuiet_nil ?_
  refine wpMix_eff (by kernel_rfl) ?_
  -- N1 the number's law, 1 the world ahead, KR.out.drew the keeping so far
  go_wp2_with fail
  refine (N1.out _).mono ?_
  rintro e w1 ⟨v1, rfl, o1, k1⟩
  obtain ⟨A1, cap1, rfl, bs1, -⟩ := o1.shape
  rw [lowL_len] at bs1 ⊢
  have K1 := Lib.hid k1
  have X1 := Lib.hid (KR.out.drew.trans k1 (T := None) (fun _ h => h) (fun _ _ h => h))
  have C1 := Lib.hid bs1
  clear o1 k1 bs1
  go_wp2
  refine MixK.on (InS.mk ((mH.out _).2 (⟨(CB.out _ X1.out).1, (CB.out _ X1.out).2.1, (CB.out _ X1.out).2.2.1, (CB.out _ X1.out).2.2.2⟩))) ?_
  refine wpMix_seg 2 (by kernel_rfl) (by decide) ?_
  simp only [List.take_succ_cons, List.take_zero, List.drop_succ_cons, List.drop_zero]
  repeat (go_big_quiet_step (fail))
  refine wpQuiet_nil ?_
  refine wpMix_eff (by kernel_rfl) ?_
  -- N2 the number's law, 2 the world ahead, X1.out the keeping so far
  go_wp2_with fail
  refine (N2.out _).mono ?_
  rintro e w2 ⟨v2, rfl, o2, k2⟩
  obtain ⟨A2, cap2, rfl, bs2, -⟩ := o2.shape
  rw [lowL_len] at bs2 ⊢
  have K2 := Lib.hid k2
  have X2 := Lib.hid (X1.out.trans k2 (T := None) (fun _ h => h) (fun _ _ h => h))
  have C2 := Lib.hid bs2
  clear o2 k2 bs2
  go_wp2
  have D1 := Lib.hid (C1.out.keeps K2.out (fun _ _ _ _ _ h => h))
  refine MixK.on (InS.mk ((mH.out _).2 (⟨(CB.out _ X2.out).1, (CB.out _ X2.out).2.1, (CB.out _ X2.out).2.2.1, (CB.out _ X2.out).2.2.2⟩))) ?_
  refine wpMix_seg 2 (by kernel_rfl) (by decide) ?_
  simp only [List.take_succ_cons, List.take_zero, List.drop_succ_cons, List.drop_zero]
  repeat (go_big_quiet_step (fail))
  refine wpQuiet_nil ?_
  refine wpMix_eff (by kernel_rfl) ?_
  -- N3 the number's law, 3 the world ahead, X2.out the keeping so far
  go_wp2_with fail
  refine (N3.out _).mono ?_
  rintro e w3 ⟨v3, rfl, o3, k3⟩
  obtain ⟨A3, cap3, rfl, bs3, -⟩ := o3.shape
  rw [lowL_len] at bs3 ⊢
  have K3 := Lib.hid k3
  have X3 := Lib.hid (X2.out.trans k3 (T := None) (fun _ h => h) (fun _ _ h => h))
  have C3 := Lib.hid bs3
  clear o3 k3 bs3
  go_wp2
  have E1 := Lib.hid (D1.out.keeps K3.out (fun _ _ _ _ _ h => h))
  have E2 := Lib.hid (C2.out.keeps K3.out (fun _ _ _ _ _ h => h))
  refine MixK.on (InS.mk ((mH.out _).2 (⟨(CB.out _ X3.out).1, (CB.out _ X3.out).2.1, (CB.out _ X3.out).2.2.1, (CB.out _ X3.out).2.2.2⟩))) ?_
  refine wpMix_seg 3 (by kernel_rfl) (by decide) ?_
  simp only [List.take_succ_cons, List.take_zero, List.drop_succ_cons, List.drop_zero]
  repeat (go_big_quiet_step (fail))
  refine wpQuiet_nil ?_
  refine wpMix_eff (by kernel_rfl) ?_
  -- N4 the number's law, 4 the world ahead, X3.out the keeping so far
  go_wp2_with fail
  refine (N4.out _).mono ?_
  rintro e w4 ⟨v4, rfl, o4, k4⟩
  obtain ⟨A4, cap4, rfl, bs4, -⟩ := o4.shape
  rw [lowL_len] at bs4 ⊢
  have K4 := Lib.hid k4
  have X4 := Lib.hid (X3.out.trans k4 (T := None) (fun _ h => h) (fun _ _ h => h))
  have C4 := Lib.hid bs4
  clear o4 k4 bs4
  go_wp2
  have P1 := Lib.hid (E1.out.keeps K4.out (fun _ _ _ _ _ h => h))
  have P2 := Lib.hid (E2.out.keeps K4.out (fun _ _ _ _ _ h => h))
  have P3 := Lib.hid (C3.out.keeps K4.out (fun _ _ _ _ _ h => h))
  refine MixK.on (InS.mk ((mH.out _).2 (⟨(CB.out _ X4.out).1, (CB.out _ X4.out).2.1, (CB.out _ X4.out).2.2.1, (CB.out _ X4.out).2.2.2⟩))) ?_
  refine wpMix_seg 2 (by kernel_rfl) (by decide) ?_
  simp only [List.take_succ_cons, List.take_zero, List.drop_succ_cons, List.drop_zero]
  repeat (go_big_quiet_step (fail))
  refine wpQuiet_nil ?_
  refine wpMix_eff (by kernel_rfl) ?_
  go_wp2
  refine MixK.on (InS.mk ((mH.out _).2 (⟨(CB.out _ (X4.out.alloc _)).1, (CB.out _ (X4.out.alloc _)).2.1, (CB.out _ (X4.out.alloc _)).2.2.1, (CB.out _ (X4.out.alloc _)).2.2.2⟩))) ?_
  refine wpMix_eff (by kernel_rfl) ?_
  have PB := Lib.hid (Blk.new w4 [.slice A1 8 cap1, .slice A2 8 cap2, .slice A3 8 cap3, .slice A4 8 cap4, .slice (some ⟨w.heap.size, 4, none⟩) 64 64] 27)
  have X5 := Lib.hid (X4.out.alloc (.cells #[.slice A1 8 cap1, .slice A2 8 cap2, .slice A3 8 cap3, .slice A4 8 cap4, .slice (some ⟨w.heap.size, 4, none⟩) 64 64] 27))
  have K5 := Lib.hid ((Keeps.refl None w4).alloc (.cells #[.slice A1 8 cap1, .slice A2 8 cap2, .slice A3 8 cap3, .slice A4 8 cap4, .slice (some ⟨w.heap.size, 4, none⟩) 64 64] 27))
  go_wp2_with fail
  refine (concat5 ⟨A1, 8, cap1, lowL 8 sl⟩ ⟨A2, 8, cap2, lowL 8 c.ver⟩ ⟨A3, 8, cap3, lowL 8 c.fl⟩ ⟨A4, 8, cap4, lowL 8 ln⟩ ⟨some ⟨w.heap.size, 4, none⟩, 64, 64, c.me⟩ w4.heap.size 27 _ PB.out (P1.out.keeps K5.out (fun _ _ _ _ _ h => h)) (P2.out.keeps K5.out (fun _ _ _ _ _ h => h)) (P3.out.keeps K5.out (fun _ _ _ _ _ h => h)) (C4.out.keeps K5.out (fun _ _ _ _ _ h => h)) (ARR.out _ X5.out) (by simp) (by simp)).mono ?_
  rintro e w6 ⟨v6, rfl, o6, k6⟩
  have O6 : Hid (Own w6 w.heap.size v6 (comL c)) := by (rw [HQ.out]; exact o6.lower (by have h1 := X5.out.size; have h2 := HS.out; omega))
  have X6 := Lib.hid (X5.out.trans k6 (T := None) (fun _ h => h) (fun _ _ h => h))
  have K6 := Lib.hid (KB.out.trans X6.out (T := None) (fun _ h => h) (fun _ _ h => h))
  clear o6 k6
  go_wp2
  refine MixK.on (InS.mk ((mH.out _).2 (⟨(CB.out _ X6.out).1, (CB.out _ X6.out).2.1, (CB.out _ X6.out).2.2.1, (CB.out _ X6.out).2.2.2⟩))) ?_
  refine wpMix_seg 1 (by kernel_rfl) (by decide) ?_
  simp only [List.take_succ_cons, List.take_zero, List.drop_succ_cons, List.drop_zero]
  repeat (go_big_quiet_step (fail))
  refine wpQuiet_nil ?_
  refine wpMix_nil ?_
  clear mk0 mk1 mk2 mk3 mn mH
  go_wp2
  go_ret
  exact ⟨_, rfl, O6.out, K6.out⟩
end Go.Proofs.Ytfldgaiiniknpaa
