/- Package model: the laws ModelHolds, ModelLearns, ModelPlays walked to the value true. -/
import Derived.Test.YtfagljhjakcfnaaModel
import Derived.Test.YtfagljhjakcfnaaFrame
namespace Go.Proofs.Ytfagljhjakcfnaa
open Go.RowKit

theorem rep_range (n : Nat) : ∀ p ∈ List.replicate n (1024 : Int), 0 ≤ p ∧ p < 65536 := by
  intro p hp; rw [(List.mem_replicate.1 hp).2]; decide

set_option maxRecDepth 100000 in
set_option maxHeartbeats 400000 in
theorem alive15_any (w : World) : Calls Try.prog 24 #[] w fun e w' => e = .returned (.bool true) ∧ Keeps None w w' := by
  have e2 : szN 2 = 2 := by decide
  have HN := Lib.hid (new_any 2 w)
  have r := rep_range 4
  have f1 : adapt 1024 0 = 1056 := by decide
  have f2 : adapt 1024 1 = 992 := by decide
  have f3 : atN (List.replicate 4 1024) 1 = 1024 := by decide
  have f4 : atN (List.replicate 4 1024) 3 = 1024 := by decide
  rw [e2] at HN
  clear e2
  have A1 := Lib.hid r
  clear r
  go_enter Try.func24, Try.ntmps24
  go_wp2_with fail
  refine HN.out.mono ?_
  rintro e w1 ⟨rfl, ht, hk⟩
  go_wp2_with (first | (go_at_call 26; refine (adapt_any _ _ _).mono ?_; rintro e w' ⟨rfl, rfl⟩) | (go_at_call 31; refine (at_any _ _ _ _ _ ht (by decide) A1.out).mono ?_; rintro e w' ⟨rfl, rfl⟩))
  go_ret
  exact ⟨rfl, hk⟩

/-! ### The plain law: bits that are all alike bring a chance to its end. -/
def itN (b : Int) : Nat → Int → Int
  | 0, p => p
  | k + 1, p => adapt (itN b k p) b
theorem hold_hold (p : Int) : hold (hold p) = hold p := by unfold hold; omega
theorem adapt_hold (p b : Int) : adapt (hold p) b = adapt p b := by unfold adapt; rw [hold_hold]
theorem adapt_mono (p q b : Int) (h : p ≤ q) : adapt p b ≤ adapt q b := by
  have h1 : hold p ≤ hold q := by unfold hold; omega
  have h2 := hold_lo p; have h3 := hold_hi q
  unfold adapt; split <;> omega
theorem itN_mono (b : Int) (k : Nat) : ∀ p q, p ≤ q → itN b k p ≤ itN b k q := by
  induction k with
  | zero => intro p q h; exact h
  | succ k ih => intro p q h; exact adapt_mono _ _ _ (ih _ _ h)
theorem itN_hold (b : Int) (k : Nat) (p : Int) : itN b (k + 1) p = itN b (k + 1) (hold p) := by
  induction k with
  | zero => exact (adapt_hold p b).symm
  | succ k ih => show adapt (itN b (k + 1) p) b = adapt (itN b (k + 1) (hold p)) b; rw [ih]
theorem itN_lo : itN 0 300 31 = 2017 := by decide +kernel
theorem itN_hi : itN 1 300 2017 = 31 := by decide +kernel
theorem itN_0 (p : Int) : itN 0 300 p = 2017 := by
  have e := itN_hold 0 299 p
  simp only [Nat.reduceAdd] at e
  rw [e]
  have h1 := itN_mono 0 300 31 (hold p) (hold_lo p)
  rw [itN_lo] at h1
  have h2 : itN 0 300 (hold p) ≤ 2017 := adapt_hi _ _
  omega
theorem itN_1 (p : Int) : itN 1 300 p = 31 := by
  have e := itN_hold 1 299 p
  simp only [Nat.reduceAdd] at e
  rw [e]
  have h1 := itN_mono 1 300 (hold p) 2017 (hold_hi p)
  rw [itN_hi] at h1
  have h2 : 31 ≤ itN 1 300 (hold p) := adapt_lo _ _
  omega
theorem itN_step (b : Int) (k : Nat) (p : Int) : adapt (itN b k p) b = itN b (k + 1) p := rfl

set_option maxRecDepth 100000 in
set_option maxHeartbeats 400000 in
theorem learns_0 (p : Int) (w : World) : Calls Try.prog 5 #[.int .i64 p, .bool false] w fun e w' => e = .returned (.bool true) ∧ Below w.heap.size w w' := by
  have f1 : adapt 2017 0 = 2017 := by decide
  have F := Lib.hid (itN_0 p)
  go_enter Try.func5, Try.ntmps5
  go_wp2_with (go_at_call 24; refine (alive15_any _).mono ?_; rintro e w1 ⟨rfl, hk⟩)
  go_loop [0, 8] (fun q i => ∃ k : Nat, k ≤ 300 ∧ i = .int .i64 k ∧ q = .int .i64 (itN 0 k p)) (fun _ i => 300 - (intOf i).toNat)
  case atStart => exact ⟨0, by omega, rfl, rfl⟩
  case round =>
    obtain ⟨k, hk1, rfl, rfl⟩ := hrel
    by_cases hlt : k < 300
    · have S := Lib.hid (itN_step 0 k p)
      generalize itN 0 k p = q at *
      go_wp2_with (go_at_call 26; refine (adapt_any _ _ _).mono ?_; rintro e w' ⟨rfl, rfl⟩)
      go_round
      case rel => exact ⟨k + 1, by omega, by go_num, by rw [S.out]⟩
      case measure => simp [intOf]; omega
    · have e : k = 300 := by omega
      subst e
      rw [F.out]
      clear F hlt hk1
      go_wp2_with (go_at_call 26; refine (adapt_any _ _ _).mono ?_; rintro e w' ⟨rfl, rfl⟩)
      go_ret
      exact ⟨rfl, hk.below fun _ _ h => h⟩
set_option maxRecDepth 100000 in
set_option maxHeartbeats 400000 in
theorem learns_1 (p : Int) (w : World) : Calls Try.prog 5 #[.int .i64 p, .bool true] w fun e w' => e = .returned (.bool true) ∧ Below w.heap.size w w' := by
  have f1 : adapt 31 1 = 31 := by decide
  have F := Lib.hid (itN_1 p)
  go_enter Try.func5, Try.ntmps5
  go_wp2_with (go_at_call 24; refine (alive15_any _).mono ?_; rintro e w1 ⟨rfl, hk⟩)
  go_loop [0, 8] (fun q i => ∃ k : Nat, k ≤ 300 ∧ i = .int .i64 k ∧ q = .int .i64 (itN 1 k p)) (fun _ i => 300 - (intOf i).toNat)
  case atStart => exact ⟨0, by omega, rfl, rfl⟩
  case round =>
    obtain ⟨k, hk1, rfl, rfl⟩ := hrel
    by_cases hlt : k < 300
    · have S := Lib.hid (itN_step 1 k p)
      generalize itN 1 k p = q at *
      go_wp2_with (go_at_call 26; refine (adapt_any _ _ _).mono ?_; rintro e w' ⟨rfl, rfl⟩)
      go_round
      case rel => exact ⟨k + 1, by omega, by go_num, by rw [S.out]⟩
      case measure => simp [intOf]; omega
    · have e : k = 300 := by omega
      subst e
      rw [F.out]
      clear F hlt hk1
      go_wp2_with (go_at_call 26; refine (adapt_any _ _ _).mono ?_; rintro e w' ⟨rfl, rfl⟩)
      go_ret
      exact ⟨rfl, hk.below fun _ _ h => h⟩

/-! ### ModelHolds -/
theorem hold_adapt (q b : Int) : hold (adapt q b) = adapt q b := by
  have := adapt_lo q b; have := adapt_hi q b; unfold hold; omega
theorem adapt_up (q : Int) (h1 : 31 ≤ q) (h2 : q ≤ 2017) : q ≤ adapt q 0 := by
  have e : hold q = q := by unfold hold; omega
  simp only [adapt, e, if_true]; omega
theorem adapt_down (q : Int) (h1 : 31 ≤ q) (h2 : q ≤ 2017) : adapt q 1 ≤ q := by
  have e : hold q = q := by unfold hold; omega
  have : ¬ (1 : Int) = 0 := by decide
  simp only [adapt, e, if_neg this]; omega
theorem hold_same (n : Int) (h1 : 31 ≤ n) (h2 : n ≤ 2017) (w : World) :
    Calls Try.prog 25 #[.int .i64 n] w fun e w' => e = .returned (.int .i64 n) ∧ w = w' := by
  have e : hold n = n := by unfold hold; omega
  have := hold_any n w
  rwa [e] at this

set_option maxRecDepth 100000 in
set_option maxHeartbeats 800000 in
theorem holds_any (p : Int) (A : Option Addr) (n cap : Nat) (bs : List Bool) (w : World) (hl : bs.length = n) (hs : IsSl w A n cap 1 (bs.map .bool)) :
    Calls Try.prog 4 #[.int .i64 p, .slice A n cap] w fun e w' => e = .returned (.bool true) ∧ Below w.heap.size w w' := by
  obtain ⟨_, hcap, hmax, hcell⟩ := hs
  have HL := Lib.hid hl
  have HC := Lib.hid hcell
  clear hl hcell
  have p1 := hold_lo p
  have p2 := hold_hi p
  by_cases hbig : 400 < n
  · go_enter Try.func4, Try.ntmps4
    go_wp2_with (go_at_call 24; refine (alive15_any _).mono ?_; rintro e w1 ⟨rfl, hk⟩)
    go_ret
    exact ⟨rfl, hk.below fun _ _ h => h⟩
  · go_enter Try.func4, Try.ntmps4
    go_wp2_with (first | (go_at_call 24; refine (alive15_any _).mono ?_; rintro e w1 ⟨rfl, hk⟩) | (go_at_call 25; refine (hold_any _ _).mono ?_; rintro e w' ⟨rfl, rfl⟩))
    generalize hold p = q0 at *
    go_loop [6, 7] (fun q i => ∃ (k : Nat) (r : Int), k ≤ n ∧ 31 ≤ r ∧ r ≤ 2017 ∧ i = .int .i64 k ∧ q = .int .i64 r) (fun _ i => n - (intOf i).toNat)
    case atStart => exact ⟨0, _, Nat.zero_le _, p1, p2, rfl, rfl⟩
    case round =>
      obtain ⟨k, r, hkn, r1, r2, rfl, rfl⟩ := hrel
      by_cases hlt : k < n
      · obtain ⟨b, off, rfl, hb, hc⟩ := HC.out (by omega)
        have hc1 : w1.cell? ⟨b, off + k, none⟩ = some (.bool (bs.getD k false)) := by
          have h1 := hk.cell (p := ⟨b, off + k, none⟩) hb (fun h => h)
          rw [h1, hc k (by omega), map_getD false (by rw [HL.out]; exact hlt)]
        generalize bs.getD k false = bit at hc1
        clear hc
        cases bit with
        | false =>
          have a1 := adapt_lo r 0
          have a2 := adapt_hi r 0
          have a3 := adapt_up r r1 r2
          have AA := Lib.hid (adapt_any r 0)
          generalize adapt r 0 = nx at *
          go_wp2_with (first | (go_at_call 26; refine (AA.out _).mono ?_; rintro e w' ⟨rfl, rfl⟩) | (go_at_call 25; refine (hold_same _ a1 a2 _).mono ?_; rintro e w' ⟨rfl, rfl⟩))
          go_round
          case rel => exact ⟨k + 1, nx, by omega, a1, a2, by go_num, rfl⟩
          case measure => simp [intOf]; omega
        | true =>
          have a1 := adapt_lo r 1
          have a2 := adapt_hi r 1
          have a3 := adapt_down r r1 r2
          have AA := Lib.hid (adapt_any r 1)
          generalize adapt r 1 = nx at *
          go_wp2_with (first | (go_at_call 26; refine (AA.out _).mono ?_; rintro e w' ⟨rfl, rfl⟩) | (go_at_call 25; refine (hold_same _ a1 a2 _).mono ?_; rintro e w' ⟨rfl, rfl⟩))
          go_round
          case rel => exact ⟨k + 1, nx, by omega, a1, a2, by go_num, rfl⟩
          case measure => simp [intOf]; omega
      · go_wp2
        go_ret
        exact ⟨rfl, hk.below fun _ _ h => h⟩

end Go.Proofs.Ytfagljhjakcfnaa
