
/- The walks of the reference's MayMid and count. -/
import Derived.Test.YtfldgaiiniknpaaLFoXLgRefGet
namespace Go.Proofs.Ytfldgaiiniknpaa
open Go.RowKit

set_option maxRecDepth 100000 in
set_option maxHeartbeats 800000 in
theorem rcount_any (A : Option Addr) (n cap : Nat) (zs : List Int) (w : World) (h : Bs w A n cap zs) (hn : 72 ≤ n) : Calls Try.prog 54 #[.slice A n cap] w fun e w' => e = .returned (.int .u64 ((midN zs : Nat) : Int)) ∧ w = w' := by
  have hle := h.le
  have hmax := h.max
  have HL := Lib.hid h.len
  have HB := Lib.hid h
  have BD : Hid (∀ z ∈ zs.drop 64, 0 ≤ z ∧ z ≤ 255) := fun z hz => h.byte z (List.mem_of_mem_drop hz)
  have LD : Hid (72 ≤ 64 + (zs.drop 64).length) := by show _ ≤ _; rw [List.length_drop, HL.out]; omega
  have MD : Hid (midN zs = bigN ((zs.drop 64).take 8)) := rfl
  obtain ⟨gb, off, rfl, hgb, -⟩ := h.at_ (by omega)
  clear h
  go_enter Try.func54, Try.ntmps54
  go_wp2
  go_loop [3, 4] (fun xv iv => ∃ k : Nat, k ≤ 8 ∧ iv = .int .i64 ((64 + k : Nat) : Int) ∧ xv = .int .u64 ((bigN ((zs.drop 64).take k) : Nat) : Int)) (fun _ iv => 72 - (intOf iv).toNat)
  case atStart => exact ⟨0, Nat.zero_le _, rfl, rfl⟩
  case round =>
    obtain ⟨k, hk, rfl, rfl⟩ := hrel
    by_cases hlt : k < 8
    · obtain ⟨bl, of1, z, e1, hz1, hza, hzb, hc1⟩ := HB.out.get (i := 64 + k) (by omega)
      cases e1
      have OR := or_big BD.out (k := k) (by have := LD.out; omega) hlt
      rw [getD_drop, hz1] at OR
      go_wp2
      go_round
      case rel => exact ⟨k + 1, by omega, by go_num, rfl⟩
      case measure => simp [intOf]; omega
    · obtain rfl : k = 8 := by omega
      rw [← MD.out]
      go_wp2
      go_ret
      exact ⟨rfl, rfl⟩
set_option maxRecDepth 100000 in
set_option maxHeartbeats 800000 in
theorem rmaymid_any (A : Option Addr) (n cap : Nat) (zs : List Int) (w : World) (h : Bs w A n cap zs) : Calls Try.prog 41 #[.slice A n cap] w fun e w' => e = .returned (.bool (midOk zs)) ∧ w = w' := by
  have hle := h.le
  have hmax := h.max
  have HL := Lib.hid h.len
  have HB := Lib.hid h
  by_cases hn : n = 200
  case neg =>
    have d1 : ((n : Int) != 200) = true := by simp; omega
    have E0 : Hid (midOk zs = false) := by
      show midOk zs = false
      unfold midOk
      rw [HL.out, decide_eq_false hn]
      rfl
    rw [E0.out]
    clear h
    go_enter Try.func41, Try.ntmps41
    go_wp2
    go_ret
    exact ⟨rfl, rfl⟩
  subst hn
  obtain ⟨gb, off, rfl, hgb, hcel⟩ := h.at_ (by omega)
  clear h
  have NB := Lib.hid (rcount_any _ _ _ _ w HB.out (by decide))
  have MB := bigN_lt (zs := zs.drop 64) (fun z hz => HB.out.byte z (List.mem_of_mem_drop hz)) 8 (by rw [List.length_drop, HL.out]; decide)
  have MN : Hid (midN zs = bigN ((zs.drop 64).take 8)) := rfl
  rw [← MN.out] at MB
  rw [pow8] at MB
  obtain ⟨N, hN⟩ : ∃ N, midN zs = N := ⟨_, rfl⟩
  have HN := Lib.hid hN
  rw [hN] at NB MB
  clear hN MN hcel
  obtain ⟨res, HRES⟩ : ∃ x, Hid (midOk zs = x) := ⟨_, rfl⟩
  rw [HRES.out]
  go_enter Try.func41, Try.ntmps41
  go_wp2_with fail
  refine NB.out.mono ?_
  rintro e w1 ⟨rfl, rfl⟩
  by_cases hm : 1152921504606846976 < N
  · have d2 : decide ((1152921504606846976 : Int) < (N : Int)) = true := decide_eq_true (by omega)
    have E0 : Hid (res = false) := by
      show res = false
      rw [← HRES.out]
      unfold midOk
      rw [HN.out, decide_eq_false (show ¬ N ≤ 1152921504606846976 by omega), Bool.false_and, Bool.and_false]
    go_wp2
    go_ret
    exact ⟨by rw [E0.out]; rfl, rfl⟩
  have d2 : decide ((1152921504606846976 : Int) < (N : Int)) = false := decide_eq_false (by omega)
  have EOK : Hid (res = (zs.drop (72 + N % 128)).all (· == 0)) := by
    show res = _
    rw [← HRES.out]
    unfold midOk
    rw [HN.out, HL.out, decide_eq_true (show N ≤ 1152921504606846976 by omega)]
    rfl
  clear HRES HN
  go_wp2_with fail
  refine NB.out.mono ?_
  rintro e w1 ⟨rfl, rfl⟩
  clear NB
  go_wp2
  obtain ⟨r, hr⟩ : ∃ r, 72 + N % 128 = r := ⟨_, rfl⟩
  have r1 : 72 ≤ r := by omega
  have r2 : r < 200 := by omega
  have hr2 : (72 + (N : Int) % 128) = (r : Int) := by omega
  rw [hr] at EOK
  rw [hr2]
  clear hr hr2 d2 hm MB
  go_loop [3] (fun iv => ∃ k : Nat, k ≤ 200 - r ∧ iv = .int .i64 ((r + k : Nat) : Int) ∧ ∀ j, j < k → zs.getD (r + j) 0 = 0) (fun iv => 200 - (intOf iv).toNat)
  case atStart => exact ⟨0, Nat.zero_le _, rfl, fun j hj => absurd hj (Nat.not_lt_zero j)⟩
  case round =>
    obtain ⟨k, hk, rfl, hz⟩ := hrel
    have HZ := Lib.hid hz
    clear hz
    by_cases hlt : k < 200 - r
    · obtain ⟨bl, of1, z, e1, hz1, hza, hzb, hc1⟩ := HB.out.get (i := r + k) (by omega)
      cases e1
      by_cases h0 : z = 0
      · subst h0
        go_wp2
        go_round
        case rel => exact ⟨k + 1, by omega, by go_num, fun j hj => (Nat.lt_succ_iff_lt_or_eq.1 hj).elim (HZ.out j) (fun e => by rw [e]; exact hz1)⟩
        case measure => simp [intOf]; omega
      · have d3 : (z != 0) = true := by simpa using h0
        have E0 : Hid (res = false) := by
          show res = false
          rw [EOK.out, List.all_eq_false]
          refine ⟨z, ?_, by simpa using h0⟩
          rw [← hz1, getD_get 0 (show r + k < zs.length by rw [HL.out]; omega)]
          exact List.mem_of_getElem? (i := k) (by rw [List.getElem?_drop]; exact List.getElem?_eq_getElem _)
        go_wp2
        go_ret
        exact ⟨by rw [E0.out]; rfl, rfl⟩
    · obtain rfl : k = 200 - r := by omega
      have E1 : Hid (res = true) := by
        show res = true
        rw [EOK.out, List.all_eq_true]
        intro z hz
        obtain ⟨j, hj⟩ := List.getElem?_of_mem hz
        rw [List.getElem?_drop] at hj
        have hl := (List.getElem?_eq_some_iff.1 hj).1
        rw [HL.out] at hl
        have := HZ.out j (by omega)
        rw [getD_get 0 (by rw [HL.out]; omega), (List.getElem?_eq_some_iff.1 hj).2] at this
        simpa using this
      clear HZ EOK hk hlt
      go_wp2
      go_ret
      exact ⟨by rw [E1.out]; rfl, rfl⟩
end Go.Proofs.Ytfldgaiiniknpaa
