
/- The walks of ledger's number, value, small, length. -/
import Derived.Test.YtfldgaiiniknpaaLBkXLg
import Derived.Test.YtfldgaiiniknpaaLBkb
namespace Go.Proofs.Ytfldgaiiniknpaa
open Go.RowKit

theorem shr8 (x k : Nat) : (x : Int) / 2 ^ (8 * k) % 256 = ((x / 256 ^ k % 256 : Nat) : Int) := by
  rw [Int.natCast_emod, Int.natCast_ediv, Int.natCast_pow, Int.pow_mul]
  rfl
set_option maxRecDepth 100000 in
set_option maxHeartbeats 800000 in
theorem lgnumber_any (x : Nat) (hx : x < 18446744073709551616) (w : World) : Calls Try.prog 38 #[.int .u64 x] w (Cloned w (lowL 8 x)) := by
  go_enter Try.func38, Try.ntmps38
  go_wp2
  go_loopw [3, 5] (fun ov iv wr => ∃ k : Nat, k ≤ 8 ∧ iv = .int .i64 (k : Int) ∧ Own wr w.heap.size ov (lowL k x) ∧ Keeps None w wr) (fun _ iv _ => 8 - (intOf iv).toNat)
  case atStart => exact ⟨0, Nat.zero_le _, rfl, Own.nil _ _, Keeps.refl _ _⟩
  case round =>
    obtain ⟨k, hk, rfl, ho, hkp⟩ := hrel
    obtain ⟨A0, c0, rfl, -, -⟩ := ho.shape
    rw [lowL_len] at ho ⊢
    have HO := Lib.hid ho
    have HK := Lib.hid hkp
    clear ho hkp
    by_cases hlt : k < 8
    · go_wp2_with (at_builtin; refine Hid.out ?_)
      refine Lib.hid ?_
      rw [shr8]
      refine wpList_append_bs (HO.out.alloc _) (Bs.oneAt _ _ rfl ((x / 256 ^ k % 256 : Nat) : Int) (by omega)) (by rw [lowL_len]; omega) (Nat.le_trans HK.out.size (by simp)) (by rfl) (by rfl) (by rfl) (by rfl) (by rfl) ?_
      intro v4 w4 o4 k4
      have H4 := Lib.hid (show Own w4 w.heap.size v4 (lowL (k + 1) x) from by rw [lowL_snoc]; exact o4)
      have K4 := Lib.hid ((HK.out.alloc (.cells #[.int .u8 ((x / 256 ^ k % 256 : Nat) : Int)] 5)).trans k4 (T := None) (fun _ h => h) (fun i hi e => absurd e ((show Own wr w.heap.size (.slice A0 k c0) (lowL k x) from HO.out).notBelow hi)))
      clear o4 k4
      go_wp2
      go_roundw
      case rel => exact ⟨k + 1, by omega, by go_num, H4.out, K4.out⟩
      case measure => simp [intOf]; omega
    · obtain rfl : k = 8 := by omega
      go_wp2
      go_ret
      exact ⟨_, rfl, HO.out, HK.out⟩
theorem numN_snoc : ∀ (zs : List Int) (z : Int), numN (zs ++ [z]) = numN zs + z.toNat * 256 ^ zs.length
  | [], z => by simp [numN]
  | y :: zs, z => by
    simp only [List.cons_append, numN, numN_snoc zs z, List.length_cons, Nat.pow_succ]
    rw [Nat.mul_add, Nat.mul_comm 256 (z.toNat * _), Nat.mul_assoc]
    omega
theorem numN_take (zs : List Int) (k : Nat) (hk : k < zs.length) : numN (zs.take (k + 1)) = numN (zs.take k) + (zs.getD k 0).toNat * 256 ^ k := by
  rw [← take_snoc zs k hk, numN_snoc, List.length_take, Nat.min_eq_left (by omega), getD_get 0 hk]
theorem or8 {zs : List Int} (hb : ∀ z ∈ zs, 0 ≤ z ∧ z ≤ 255) {k : Nat} (hk : k < zs.length) (h8 : k < 8) :
    bits .or .u64 ((numN (zs.take k) : Nat) : Int) (IntKind.u64.wrap (zs.getD k 0 * 2 ^ (8 * k))) = ((numN (zs.take (k + 1)) : Nat) : Int) := by
  have h1 := numN_lt (zs.take k) (fun z hz => hb z (List.mem_of_mem_take hz))
  rw [List.length_take, Nat.min_eq_left (by omega)] at h1
  have hz := hb (zs.getD k 0) (getD_mem 0 hk)
  obtain ⟨c, hc⟩ : ∃ c : Nat, zs.getD k 0 = c := ⟨(zs.getD k 0).toNat, by omega⟩
  have e := numN_take zs k hk
  rw [hc] at e hz ⊢
  have p8 : (256 : Nat) ^ k ≤ 256 ^ 7 := Nat.pow_le_pow_right (by decide) (by omega)
  have p7 : (256 : Nat) ^ 7 = 72057594037927936 := by decide
  have hc2 : c * 256 ^ k < 18446744073709551616 := by
    have : c * 256 ^ k ≤ 255 * 256 ^ k := Nat.mul_le_mul_right _ (by omega)
    omega
  have e2 : (c : Int) * 2 ^ (8 * k) = ((c * 256 ^ k : Nat) : Int) := by
    rw [Int.natCast_mul, Int.natCast_pow, Int.pow_mul]
    rfl
  have e3 : IntKind.u64.wrap ((c * 256 ^ k : Nat) : Int) = ((c * 256 ^ k : Nat) : Int) := by
    generalize c * 256 ^ k = y at hc2
    simp [IntKind.wrap, IntKind.bits, IntKind.signed]
    omega
  rw [e2, e3, u64_or_nat _ _ (by omega) hc2, e]
  congr 1
  have h2 : numN (zs.take k) < 2 ^ (8 * k) := by rw [Nat.pow_mul]; exact h1
  have h3 := Nat.shiftLeft_add_eq_or_of_lt h2 c
  rw [Nat.shiftLeft_eq, Nat.pow_mul] at h3
  rw [Nat.or_comm, ← h3]
  show c * 256 ^ k + _ = _
  simp only [Int.toNat_natCast]
  omega
set_option maxRecDepth 100000 in
set_option maxHeartbeats 800000 in
theorem lgvalue_any (A : Option Addr) (n cap : Nat) (zs : List Int) (w : World) (h : Bs w A n cap zs) (hn : 8 ≤ n) : Calls Try.prog 31 #[.slice A n cap] w fun e w' => e = .returned (.int .u64 ((numN (zs.take 8) : Nat) : Int)) ∧ w = w' := by
  have hle := h.le
  have hmax := h.max
  have HL := Lib.hid h.len
  have HB := Lib.hid h
  obtain ⟨gb, off, rfl, hgb, -⟩ := h.at_ (by omega)
  clear h
  go_enter Try.func31, Try.ntmps31
  go_wp2
  go_loop [3, 9] (fun xv iv => ∃ k : Nat, k ≤ 8 ∧ iv = .int .i64 (k : Int) ∧ xv = .int .u64 ((numN (zs.take k) : Nat) : Int)) (fun _ iv => 8 - (intOf iv).toNat)
  case atStart => exact ⟨0, Nat.zero_le _, rfl, rfl⟩
  case round =>
    obtain ⟨k, hk, rfl, rfl⟩ := hrel
    by_cases hlt : k < 8
    · obtain ⟨bl, of1, z, e1, hz1, hza, hzb, hc1⟩ := HB.out.get (i := k) (by omega)
      cases e1
      have OR := or8 HB.out.byte (k := k) (by rw [HL.out]; omega) hlt
      rw [hz1] at OR
      go_wp2
      go_round
      case rel => exact ⟨k + 1, by omega, by go_num, rfl⟩
      case measure => simp [intOf]; omega
    · obtain rfl : k = 8 := by omega
      go_wp2
      go_ret
      exact ⟨rfl, rfl⟩
set_option maxRecDepth 100000 in
theorem lgsmall_any (A : Option Addr) (n cap : Nat) (zs : List Int) (w : World) (h : Bs w A n cap zs) (hn : 8 ≤ n) : Calls Try.prog 32 #[.slice A n cap] w fun e w' => e = .returned (.int .i64 (smallN (numN (zs.take 8)))) ∧ w = w' := by
  have V := Lib.hid (lgvalue_any A n cap zs w h hn)
  have hb := numN_lt (zs.take 8) (fun z hz => h.byte z (List.mem_of_mem_take hz))
  have h8 : (256 : Nat) ^ (zs.take 8).length ≤ 18446744073709551616 := by
    rw [← pow8]
    exact Nat.pow_le_pow_right (by decide) (List.length_take_le _ _)
  clear h
  generalize numN (zs.take 8) = x at *
  by_cases hx : x ≤ 2147483647
  · have d : decide ((x : Int) ≤ 2147483647) = true := decide_eq_true (by omega)
    rw [show smallN x = x from if_pos hx]
    go_enter Try.func32, Try.ntmps32
    go_wp2_with fail
    refine V.out.mono ?_
    rintro e w1 ⟨rfl, rfl⟩
    go_wp2
    go_ret
    exact ⟨rfl, rfl⟩
  · have d : decide ((x : Int) ≤ 2147483647) = false := decide_eq_false (by omega)
    rw [show smallN x = -1 from if_neg hx]
    go_enter Try.func32, Try.ntmps32
    go_wp2_with fail
    refine V.out.mono ?_
    rintro e w1 ⟨rfl, rfl⟩
    go_wp2
    go_ret
    exact ⟨rfl, rfl⟩
set_option maxRecDepth 100000 in
theorem lglength_any (n : Int) (w : World) : Calls Try.prog 36 #[.int .i64 n] w fun e w' => e = .returned (.bool (decide (0 ≤ n ∧ n ≤ 2147483647))) ∧ w = w' := by
  go_enter Try.func36, Try.ntmps36
  by_cases h1 : 0 ≤ n
  · have d1 : decide (0 ≤ n) = true := decide_eq_true h1
    by_cases h2 : n ≤ 2147483647
    · have d2 : decide (n ≤ 2147483647) = true := decide_eq_true h2
      rw [decide_eq_true (show 0 ≤ n ∧ n ≤ 2147483647 from ⟨h1, h2⟩)]
      go_wp2
      go_ret
      exact ⟨rfl, rfl⟩
    · have d2 : decide (n ≤ 2147483647) = false := decide_eq_false h2
      rw [decide_eq_false (show ¬ (0 ≤ n ∧ n ≤ 2147483647) from fun h => h2 h.2)]
      go_wp2
      go_ret
      exact ⟨rfl, rfl⟩
  · have d1 : decide (0 ≤ n) = false := decide_eq_false h1
    rw [decide_eq_false (show ¬ (0 ≤ n ∧ n ≤ 2147483647) from fun h => h1 h.1)]
    go_wp2
    go_ret
    exact ⟨rfl, rfl⟩
end Go.Proofs.Ytfldgaiiniknpaa
