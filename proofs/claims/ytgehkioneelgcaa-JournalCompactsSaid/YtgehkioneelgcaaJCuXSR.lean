
/- The reference's Low, Number, Size: their walks. -/
import Derived.Test.YtgehkioneelgcaaJCuXSealRec
namespace Go.Proofs.Ytgehkioneelgcaa
open Go.RowKit

/-- So many bytes of a number, the lowest first. -/
def lowL : Nat → Nat → List Int
  | 0, _ => []
  | k + 1, n => ((n % 256 : Nat) : Int) :: lowL k (n / 256)
theorem lowL_len : ∀ (k n : Nat), (lowL k n).length = k
  | 0, _ => rfl
  | k + 1, n => by simp [lowL, lowL_len k]
theorem lowL_byte : ∀ (k n : Nat), ∀ z ∈ lowL k n, 0 ≤ z ∧ z ≤ 255
  | 0, _, z, h => by simp [lowL] at h
  | k + 1, n, z, h => by
    simp only [lowL, List.mem_cons] at h
    rcases h with rfl | h
    · omega
    · exact lowL_byte k _ z h
theorem lowL_snoc : ∀ (k n : Nat), lowL (k + 1) n = lowL k n ++ [((n / 256 ^ k % 256 : Nat) : Int)]
  | 0, n => by simp [lowL]
  | k + 1, n => by
    have h := lowL_snoc k (n / 256)
    rw [lowL, h, lowL]
    rw [Nat.div_div_eq_div_mul, show 256 * 256 ^ k = 256 ^ (k + 1) by rw [Nat.pow_succ, Nat.mul_comm]]
    rfl
/-- The row while it is filled. -/
def lowTo (m k n : Nat) : List Int := lowL k n ++ List.replicate (m - k) 0
theorem lowTo_len (m k n : Nat) (h : k ≤ m) : (lowTo m k n).length = m := by
  unfold lowTo; rw [List.length_append, lowL_len, List.length_replicate]; omega
theorem lowTo_set (m k n : Nat) (h : k < m) : (lowTo m k n).set k ((n / 256 ^ k % 256 : Nat) : Int) = lowTo m (k + 1) n := by
  unfold lowTo
  obtain ⟨q, hq⟩ : ∃ q, m - k = q + 1 := ⟨m - k - 1, by omega⟩
  rw [show m - (k + 1) = q by omega, hq, lowL_snoc, List.set_append_right k _ (by rw [lowL_len]; exact Nat.le_refl _), lowL_len, Nat.sub_self, List.replicate_succ]
  simp
theorem lowL_two (n : Nat) (h : n < 65536) : lowL 2 n = [(n : Int) % 256, (n : Int) / 256] := by
  simp only [lowL]
  congr 2
  omega
theorem lowL_four (n : Nat) (h : n < 4294967296) : lowL 4 n = le4 n := by
  simp only [lowL, le4, List.cons.injEq, and_true]
  refine ⟨?_, ?_, ?_, ?_⟩ <;> omega
/-- Back. -/
def numN : List Int → Nat
  | [] => 0
  | z :: zs => z.toNat + 256 * numN zs
theorem numN_lt : ∀ (zs : List Int), (∀ z ∈ zs, 0 ≤ z ∧ z ≤ 255) → numN zs < 256 ^ zs.length
  | [], _ => by simp [numN]
  | z :: zs, h => by
    have h1 := h z List.mem_cons_self
    have h2 := numN_lt zs (fun y hy => h y (List.mem_cons_of_mem _ hy))
    rw [numN, List.length_cons, Nat.pow_succ]
    omega
theorem numN_low : ∀ (k n : Nat), n < 256 ^ k → numN (lowL k n) = n
  | 0, n, h => by simp at h; subst h; rfl
  | k + 1, n, h => by
    rw [lowL, numN, numN_low k (n / 256) (by rw [Nat.pow_succ] at h; omega)]
    omega

set_option maxRecDepth 100000 in
set_option maxHeartbeats 800000 in
theorem rslow_any (n m : Nat) (w : World) (hn : n < 18446744073709551616) (hm : m ≤ 64) : Calls Try.prog 33 #[.int .u64 (n : Int), .int .i64 (m : Int)] w (Cloned w (lowL m n)) := by
  have hmk := fun w => run_make_blk (P := Try.prog) 24 5 (.int .u8 0) 1 Try.underlying24 Try.info5 rfl .i64 .i64 (m : Int) (m : Int) m rfl rfl (by omega) (by omega) w
  go_enter Try.func33, Try.ntmps33
  go_wp2
  go_loopw [0, 6] (fun nv iv wr => ∃ k x : Nat, k ≤ m ∧ iv = .int .i64 (k : Int) ∧ nv = .int .u64 (x : Int) ∧ x < 18446744073709551616 ∧ Hid (x = n / 256 ^ k) ∧ Blk wr w.heap.size ((lowTo m k n).map (.int .u8)) 5 ∧ Keeps None w wr) (fun _ iv _ => m - (intOf iv).toNat)
  case atStart =>
    refine ⟨0, n, Nat.zero_le _, rfl, rfl, hn, by show _ = _; simp, ?_, (Keeps.refl _ _).alloc _⟩
    have := Blk.new w (List.replicate m (.int .u8 0)) 5
    have e : lowTo m 0 n = List.replicate m 0 := by simp [lowTo, lowL]
    rw [e]
    simpa using this
  case round =>
    obtain ⟨k, x, hk, rfl, rfl, hx, hxe, hb, hkp⟩ := hrel
    have HB := Lib.hid hb
    have HK := Lib.hid hkp
    by_cases hlt : k < m
    · have c2 := hb.cellD k _ (map_getD 0 (show k < (lowTo m k n).length by rw [lowTo_len m k n hk]; exact hlt))
      have c3 := hb.frozen k
      clear hb hkp hmk
      go_wp2
      go_roundw
      case rel =>
        refine ⟨k + 1, x / 256, by omega, by go_num, by go_num, by omega, ?_, ?_, HK.out.setCell _ _ (by simp)⟩
        · show x / 256 = n / 256 ^ (k + 1)
          rw [hxe.out, Nat.div_div_eq_div_mul, Nat.pow_succ]
        · have := HB.out.set k (.int .u8 ((x % 256 : Nat) : Int))
          rw [← lowTo_set m k n hlt, List.map_set, ← hxe.out]
          exact this
      case measure => simp [intOf]; omega
    · clear hb hkp hmk
      obtain rfl : k = m := by omega
      have fin : Own wr w.heap.size (.slice (some ⟨w.heap.size, 0, none⟩) k k) (lowL k n) := by
        have hb := HB.out
        have e : lowTo k k n = lowL k n := by simp [lowTo]
        rw [e] at hb
        refine ⟨⟨by simp [lowL_len], .inr ⟨w.heap.size, k, _, by simp [lowL_len], Nat.le_refl _, hb, by simp [lowL_len], by unfold maxLen; omega, by simp [lowL_len], by rw [lowL_len, List.take_of_length_le (by simp [lowL_len])]⟩⟩, lowL_byte k n⟩
      have FIN := Lib.hid fin
      clear fin
      go_wp2
      go_ret
      exact ⟨_, rfl, FIN.out, HK.out⟩

end Go.Proofs.Ytgehkioneelgcaa
