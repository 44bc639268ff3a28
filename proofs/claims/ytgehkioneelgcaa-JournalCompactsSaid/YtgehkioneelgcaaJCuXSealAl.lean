
/- The example of chapter 5; the reference's Fall and Sum. -/
import Derived.Test.YtgehkioneelgcaaJCuXSealGet2
namespace Go.Proofs.Ytgehkioneelgcaa
open Go.RowKit

theorem al_len : (putL 3 7 [5]).length = 24 := by decide +kernel
theorem al_get : getL (putL 3 7 [5]) = some (3, 7, [5], 24) := by decide +kernel

set_option maxRecDepth 100000 in
theorem rfall_any (i : Nat) (hi : i < 256) (w : World) : Calls Try.prog 50 #[.int .u8 i] w fun e w' => e = .returned (.int .u32 (halves 8 i)) ∧ w = w' := by
  go_enter Try.func50, Try.ntmps50
  go_wp2
  go_loop [3, 4] (fun xv kv => ∃ k : Nat, k ≤ 8 ∧ kv = .int .i64 k ∧ xv = .int .u32 (halves k i)) (fun _ kv => 8 - (intOf kv).toNat)
  case atStart => exact ⟨0, by decide, rfl, rfl⟩
  case round =>
    obtain ⟨k, hk, rfl, rfl⟩ := hrel
    have hx := halves_lt k (x := i) (by omega)
    have HS := Lib.hid (halves_succ k i)
    generalize hgx : halves k i = x at *
    have HX := Lib.hid hgx
    clear hgx
    by_cases h8 : k < 8
    · by_cases ho : x % 2 = 1
      · have e2 := bits_poly x hx
        have e1 : ((x : Int) % 2) = 1 := by omega
        have HO := Lib.hid (half1_odd ho)
        clear ho
        go_wp2
        go_round
        case rel => exact ⟨k + 1, by omega, by go_num, by rw [HS.out, HO.out]⟩
        case measure => simp [intOf]; omega
      · have e1 : ((x : Int) % 2) = 0 := by omega
        have HO := Lib.hid (half1_even ho)
        clear ho
        go_wp2
        go_round
        case rel => exact ⟨k + 1, by omega, by go_num, by rw [HS.out, HO.out]; rfl⟩
        case measure => simp [intOf]; omega
    · obtain rfl : k = 8 := by omega
      clear HS hk h8
      go_wp2
      go_ret
      exact ⟨by rw [HX.out]; rfl, rfl⟩

set_option maxRecDepth 100000 in
set_option maxHeartbeats 1600000 in
theorem rsum_any (A : Option Addr) (n cap : Nat) (zs : List Int) (w : World) (h : Bs w A n cap zs) :
    Calls Try.prog 34 #[.slice A n cap] w fun e w' => e = .returned (.int .u32 (crcOf (natL zs))) ∧ w = w' := by
  have hle := h.le
  have hmax := h.max
  have HL := Lib.hid h.len
  have HB := Lib.hid h
  have HBY := Lib.hid h.byte
  clear h
  go_enter Try.func34, Try.ntmps34
  go_wp2
  go_loop [3, 4] (fun xv kv => ∃ k : Nat, k ≤ n ∧ kv = .int .i64 k ∧ xv = .int .u32 (crcRun 4294967295 (natL (zs.take k)))) (fun _ kv => n - (intOf kv).toNat)
  case atStart => exact ⟨0, Nat.zero_le _, rfl, rfl⟩
  case round =>
    obtain ⟨k, hk, rfl, rfl⟩ := hrel
    have hx : crcRun 4294967295 (natL (zs.take k)) < 4294967296 := crcRun_lt (by decide) (natL_lt (fun z hz => HBY.out z (List.mem_of_mem_take hz)))
    by_cases hlt : k < n
    · obtain ⟨bl, of1, z, rfl, hz1, hza, hzb, hc1⟩ := HB.out.get hlt
      obtain ⟨c, rfl⟩ : ∃ c : Nat, z = c := ⟨z.toNat, by omega⟩
      have HS : Hid (crcRun 4294967295 (natL (zs.take (k + 1))) = crcStep (crcRun 4294967295 (natL (zs.take k))) c) := by
        show _ = _
        rw [natL_take zs k (by rw [HL.out]; exact hlt), crcRun_append, hz1]; rfl
      generalize crcRun 4294967295 (natL (zs.take k)) = x at *
      have hc : c < 256 := by omega
      have e1 : bits .xor .u8 ((x : Int) % 256) c = ((x % 256 ^^^ c : Nat) : Int) := u8_xor_nat (x % 256) c (Nat.mod_lt _ (by decide)) hc
      have hi : x % 256 ^^^ c < 256 := Nat.xor_lt_two_pow (n := 8) (Nat.mod_lt _ (by decide)) hc
      have e2 : bits .xor .u32 ((x : Int) / 256) (halves 8 (x % 256 ^^^ c) : Nat) = ((crcStep x c : Nat) : Int) := u32_xor_nat (x / 256) _ (by omega) (halves_lt 8 (by omega))
      have FA := Lib.hid (fun w => rfall_any (x % 256 ^^^ c) hi w)
      generalize crcStep x c = y at *
      generalize halves 8 (x % 256 ^^^ c) = hh at *
      generalize x % 256 ^^^ c = ii at *
      clear hz1
      go_wp2_with fail
      refine (FA.out _).mono ?_
      rintro e w' ⟨rfl, rfl⟩
      go_wp2
      go_round
      case rel => exact ⟨k + 1, by omega, by go_num, by rw [HS.out]⟩
      case measure => simp [intOf]; omega
    · obtain rfl : k = n := by omega
      rw [List.take_of_length_le (by rw [HL.out]; exact Nat.le_refl _)] at hx ⊢
      have HF : Hid (crcOf (natL zs) = crcRun 4294967295 (natL zs) ^^^ 4294967295) := rfl
      generalize crcRun 4294967295 (natL zs) = x at *
      go_wp2
      go_ret
      exact ⟨by rw [HF.out, ← not32 x hx]; rfl, rfl⟩
end Go.Proofs.Ytgehkioneelgcaa
