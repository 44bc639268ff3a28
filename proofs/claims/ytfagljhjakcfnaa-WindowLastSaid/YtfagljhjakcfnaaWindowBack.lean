/- The law WindowBack walked to the value true. -/
import Derived.Test.YtfagljhjakcfnaaWindow
namespace Go.Proofs.Ytfagljhjakcfnaa
open Go.RowKit

set_option maxRecDepth 100000 in
set_option maxHeartbeats 800000 in
theorem alive18_any (w : World) : Calls Try.prog 19 #[] w fun e w' => e = .returned (.bool true) ∧ Below w.heap.size w w' := by
  go_enter Try.func19, Try.ntmps19
  go_wp2_with (go_at_call 20; refine (wnew_any _).mono ?_; rintro e w1 ⟨rfl, hw1, k1⟩)
  refine (wput_any _ _ _ _ hw1 (by decide)).mono ?_
  rintro e w2 ⟨rfl, hw2, k2⟩
  go_wp2_with fail
  refine (wput_any _ _ _ _ hw2 (by decide)).mono ?_
  rintro e w3 ⟨rfl, hw3, k3⟩
  go_wp2_with fail
  refine (wback_yes _ _ 2 5 _ hw3 (by decide) (by decide) (by decide) (by decide) rfl).mono ?_
  rintro e w4 ⟨rfl, n, rfl⟩
  have L := Lib.hid (wlen_any _ _ _ (hw3.drewN n))
  go_wp2_with (go_at_call 23; refine L.out.mono ?_; rintro e w' ⟨rfl, rfl⟩)
  go_ret
  refine ⟨rfl, ?_⟩
  have b1 := below_keeps (Below.refl _ w) k1 (fun _ h => h.elim)
  have b2 := below_keeps b1 k2 (fun _ h => by subst h; exact Nat.le_refl _)
  exact below_drewN (below_keeps b2 k3 (fun _ h => by subst h; exact Nat.le_refl _)) _

/-- The bytes that the law puts. -/
def ramp (k : Nat) : List Int := (List.range k).map fun (i : Nat) => (i : Int) * 7 % 251
theorem ramp_length (k : Nat) : (ramp k).length = k := by simp [ramp]
theorem ramp_succ (k : Nat) : ramp k ++ [(k : Int) * 7 % 251] = ramp (k + 1) := by simp [ramp, List.range_succ]
theorem ramp_get (n e : Nat) (h1 : 1 ≤ e) (h2 : e ≤ n) : (ramp n).getD ((ramp n).length - e) 0 = ((n : Int) - e) * 7 % 251 := by
  rw [ramp_length]
  have h3 : n - e < n := by omega
  simp [ramp, List.getD, h3]
  omega


/-- The law's end: nothing is told of what is further back. -/
theorem win_tail (b k : Nat) (w : World) (hw : Win w b (ramp k)) (hk : k ≤ 9000) :
    (∀ n, Hid (Calls Try.prog 22 #[.pointer (some ⟨b, 0, none⟩), .int .i64 4097] (w.drewN n) fun e w' => e = .returned (.tuple #[.int .u8 0, .bool false]) ∧ ∃ m, w' = w.drewN m)) ∧
    (∀ n, Hid (Calls Try.prog 22 #[.pointer (some ⟨b, 0, none⟩), .int .i64 ((k : Int) + 1)] (w.drewN n) fun e w' => e = .returned (.tuple #[.int .u8 0, .bool false]) ∧ ∃ m, w' = w.drewN m)) ∧
    (∀ n, Hid (Calls Try.prog 22 #[.pointer (some ⟨b, 0, none⟩), .int .i64 0] (w.drewN n) fun e w' => e = .returned (.tuple #[.int .u8 0, .bool false]) ∧ ∃ m, w' = w.drewN m)) ∧
    (∀ n, Hid (Calls Try.prog 23 #[.pointer (some ⟨b, 0, none⟩)] (w.drewN n) fun e w' => e = .returned (.int .i64 k) ∧ w.drewN n = w')) := by
  have hl := ramp_length k
  have go : ∀ n (d : Int), (d < 1 ∨ min ((ramp k).length : Int) 4096 < d) → Calls Try.prog 22 #[.pointer (some ⟨b, 0, none⟩), .int .i64 d] (w.drewN n) fun e w' => e = .returned (.tuple #[.int .u8 0, .bool false]) ∧ ∃ m, w' = w.drewN m := fun n d hd =>
    (wback_no b (ramp k) d (w.drewN n) (hw.drewN n) (by rw [hl]; omega) hd).mono fun _ _ ⟨h1, m, h2⟩ => ⟨h1, n + m, by rw [h2, World.drewN_drewN]⟩
  refine ⟨fun n => go n _ (by omega), fun n => go n _ (by rw [hl]; omega), fun n => go n _ (by omega), fun n => ?_⟩
  have := wlen_any b (ramp k) (w.drewN n) (hw.drewN n)
  rwa [hl] at this

set_option maxRecDepth 100000 in
set_option maxHeartbeats 800000 in
theorem wb_early1 (n s : Int) (w : World) (h : decide (n < 0) = true) : Calls Try.prog 3 #[.int .i64 n, .int .i64 s] w fun e w' => e = .returned (.bool true) ∧ Below w.heap.size w w' := by
  go_enter Try.func3, Try.ntmps3
  go_wp2_with (go_at_call 19; refine (alive18_any _).mono ?_; rintro e w1 ⟨rfl, hk⟩)
  go_ret
  exact ⟨rfl, hk⟩
set_option maxRecDepth 100000 in
set_option maxHeartbeats 800000 in
theorem wb_early2 (n s : Int) (w : World) (h : decide (n < 0) = false) (h2 : decide (9000 < n) = true) : Calls Try.prog 3 #[.int .i64 n, .int .i64 s] w fun e w' => e = .returned (.bool true) ∧ Below w.heap.size w w' := by
  go_enter Try.func3, Try.ntmps3
  go_wp2_with (go_at_call 19; refine (alive18_any _).mono ?_; rintro e w1 ⟨rfl, hk⟩)
  go_ret
  exact ⟨rfl, hk⟩
set_option maxRecDepth 100000 in
set_option maxHeartbeats 800000 in
theorem wb_early3 (n s : Int) (w : World) (h : decide (n < 0) = false) (h2 : decide (9000 < n) = false) (h3 : decide (s < 1) = true) : Calls Try.prog 3 #[.int .i64 n, .int .i64 s] w fun e w' => e = .returned (.bool true) ∧ Below w.heap.size w w' := by
  go_enter Try.func3, Try.ntmps3
  go_wp2_with (go_at_call 19; refine (alive18_any _).mono ?_; rintro e w1 ⟨rfl, hk⟩)
  go_ret
  exact ⟨rfl, hk⟩
set_option maxRecDepth 100000 in
set_option maxHeartbeats 800000 in
theorem wb_early4 (n s : Int) (w : World) (h : decide (n < 0) = false) (h2 : decide (9000 < n) = false) (h3 : decide (s < 1) = false) (h4 : decide (500 < s) = true) : Calls Try.prog 3 #[.int .i64 n, .int .i64 s] w fun e w' => e = .returned (.bool true) ∧ Below w.heap.size w w' := by
  go_enter Try.func3, Try.ntmps3
  go_wp2_with (go_at_call 19; refine (alive18_any _).mono ?_; rintro e w1 ⟨rfl, hk⟩)
  go_ret
  exact ⟨rfl, hk⟩

set_option maxRecDepth 100000 in
set_option maxHeartbeats 1600000 in
theorem wb_main (n : Nat) (s : Int) (w : World) (h2 : n ≤ 9000) (h3 : 1 ≤ s) (h4 : s ≤ 500) : Calls Try.prog 3 #[.int .i64 n, .int .i64 s] w fun e w' => e = .returned (.bool true) ∧ Below w.heap.size w w' := by
  have d1 : decide ((n : Int) < 0) = false := by simp
  have d2 : decide (9000 < (n : Int)) = false := by simp; omega
  have d3 : decide (s < 1) = false := by simp; omega
  go_enter Try.func3, Try.ntmps3
  go_wp2_with (first | (go_at_call 19; refine (alive18_any _).mono ?_; rintro e w1 ⟨rfl, hk⟩) | (go_at_call 20; refine (wnew_any _).mono ?_; rintro e w2 ⟨rfl, hw2, k2⟩))
  have hb := below_keeps hk k2 (fun _ h => h.elim)
  have hs := hk.size
  generalize w1.heap.size = b at *
  have HW2 := Lib.hid hw2
  have HB := Lib.hid hb
  clear hw2 hk k2 hb
  go_loopw [7] (fun i wr => ∃ k : Nat, k ≤ n ∧ i = .int .i64 k ∧ Win wr b (ramp k) ∧ Below w.heap.size w wr) (fun i _ => n - (intOf i).toNat)
  case atStart => exact ⟨0, Nat.zero_le _, rfl, HW2.out, HB.out⟩
  case round =>
    obtain ⟨k, hkn, rfl, hw, hb⟩ := hrel
    clear HW2 HB
    by_cases hlt : k < n
    · have HP := Lib.hid (wput_any b (ramp k) ((k : Int) * 7 % 251) wr hw (by rw [ramp_length]; omega))
      go_wp2_with (go_at_call 21; refine HP.out.mono ?_; rintro e w3 ⟨rfl, hw3, k3⟩)
      go_roundw
      case rel => exact ⟨k + 1, by omega, by go_num, by rw [← ramp_succ]; exact hw3, below_keeps hb k3 (fun _ h => by subst h; exact hs)⟩
      case measure => simp [intOf]; omega
    · obtain rfl : k = n := by omega
      clear hlt hkn
      go_wp2
      go_loopw [8] (fun i wr => ∃ e : Nat, 1 ≤ e ∧ e ≤ 9600 ∧ i = .int .i64 e ∧ Win wr b (ramp k) ∧ Below w.heap.size w wr) (fun i _ => 9700 - (intOf i).toNat)
      case atStart => exact ⟨1, Nat.le_refl _, by omega, rfl, hw, hb⟩
      case round =>
        obtain ⟨e, he1, he2, rfl, hw, hb⟩ := hrel
        have hl : (ramp k).length = k := ramp_length k
        have HL := Lib.hid hl
        clear hl
        by_cases hc1 : e ≤ k
        · by_cases hc2 : e ≤ 4096
          · have q1 : decide ((e : Int) ≤ k) = true := by simp; exact hc1
            have Y := Lib.hid (wback_yes b (ramp k) e (((k : Int) - e) * 7 % 251) wr hw (by rw [HL.out]; omega) he1 (by rw [HL.out]; exact hc1) hc2 (ramp_get k e he1 hc1))
            go_wp2_with (go_at_call 22; refine Y.out.mono ?_; rintro e w3 ⟨rfl, nq, rfl⟩)
            go_roundw
            case rel => exact ⟨e + s.toNat, by omega, by omega, val_int (by omega), hw.drewN nq, below_drewN hb nq⟩
            case measure => simp [intOf]; omega
          · have q1 : decide ((e : Int) ≤ k) = true := by simp; exact hc1
            obtain ⟨N1, N2, N3, NL⟩ := win_tail b k wr hw h2
            go_wp2_with fail
            refine (N1 0).out.mono ?_
            rintro e w3 ⟨rfl, m1, rfl⟩
            go_wp2_with fail
            refine (N2 m1).out.mono ?_
            rintro e w3 ⟨rfl, m2, rfl⟩
            go_wp2_with fail
            refine (N3 m2).out.mono ?_
            rintro e w3 ⟨rfl, m3, rfl⟩
            go_wp2_with (go_at_call 23; refine (NL m3).out.mono ?_; rintro e w' ⟨rfl, rfl⟩)
            go_ret
            exact ⟨rfl, below_drewN hb m3⟩
        · have q1 : decide ((e : Int) ≤ k) = false := by simp; omega
          obtain ⟨N1, N2, N3, NL⟩ := win_tail b k wr hw h2
          go_wp2_with fail
          refine (N1 0).out.mono ?_
          rintro e w3 ⟨rfl, m1, rfl⟩
          go_wp2_with fail
          refine (N2 m1).out.mono ?_
          rintro e w3 ⟨rfl, m2, rfl⟩
          go_wp2_with fail
          refine (N3 m2).out.mono ?_
          rintro e w3 ⟨rfl, m3, rfl⟩
          go_wp2_with (go_at_call 23; refine (NL m3).out.mono ?_; rintro e w' ⟨rfl, rfl⟩)
          go_ret
          exact ⟨rfl, below_drewN hb m3⟩
end Go.Proofs.Ytfagljhjakcfnaa
