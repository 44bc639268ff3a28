/- The law WindowNone: on no window at all nothing is put, kept or told. -/
import Derived.Test.YtfagljhjakcfnaaWindow
import Derived.Test.YtfagljhjakcfnaaWindowBack
namespace Go.Proofs.Ytfagljhjakcfnaa
open Go.RowKit

theorem wput_none (v : Value) (w : World) : Calls Try.prog 21 #[.pointer none, v] w fun e w' => e = .returned (.tuple #[]) ∧ w = w' := by
  go_enter Try.func21, Try.ntmps21
  go_wp2
  go_end0
  exact ⟨rfl, rfl⟩
theorem wclear_none (w : World) : Calls Try.prog 33 #[.pointer none] w fun e w' => e = .returned (.tuple #[]) ∧ w = w' := by
  go_enter Try.func33, Try.ntmps33
  go_wp2
  go_end0
  exact ⟨rfl, rfl⟩
theorem wlen_none (w : World) : Calls Try.prog 23 #[.pointer none] w fun e w' => e = .returned (.int .i64 0) ∧ w = w' := by
  go_enter Try.func23, Try.ntmps23
  go_wp2
  go_ret
  exact ⟨rfl, rfl⟩
theorem wkept_none (w : World) : Calls Try.prog 63 #[.pointer none] w fun e w' => e = .returned (.int .i64 0) ∧ w = w' := by
  go_enter Try.func63, Try.ntmps63
  go_wp2_with (go_at_call 23; refine (wlen_none _).mono ?_; rintro e w' ⟨rfl, rfl⟩)
  all_goals (go_ret; exact ⟨rfl, rfl⟩)
set_option maxRecDepth 100000 in
theorem wback_none (d : Int) (w : World) : Calls Try.prog 22 #[.pointer none, .int .i64 d] w fun e w' => e = .returned (.tuple #[.int .u8 0, .bool false]) ∧ w = w' := by
  by_cases hd : d < 1
  · have hd1 : decide (d < 1) = true := by simpa using hd
    go_enter Try.func22, Try.ntmps22
    go_wp2
    go_ret2
    exact ⟨rfl, rfl⟩
  · have hd1 : decide (d < 1) = false := by simpa using hd
    have hd2 : 0 < d := by omega
    go_enter Try.func22, Try.ntmps22
    go_wp2_with (go_at_call 63; refine (wkept_none _).mono ?_; rintro e w' ⟨rfl, rfl⟩)
    go_ret2
    exact ⟨rfl, rfl⟩
set_option maxRecDepth 100000 in
theorem wlast_none (n : Int) (w : World) : Calls Try.prog 35 #[.pointer none, .int .i64 n] w fun e w' => e = .returned (.slice none 0 0) ∧ w = w' := by
  by_cases hd : n ≤ 0
  · go_enter Try.func35, Try.ntmps35
    go_wp2_with (go_at_call 63; refine (wkept_none _).mono ?_; rintro e w' ⟨rfl, rfl⟩)
    go_loopw [5, 6] (fun v i wr => v = .slice none 0 0 ∧ i = .int .i64 n ∧ w = wr) (fun _ _ _ => 0)
    case atStart => exact ⟨rfl, rfl, rfl⟩
    case round =>
      obtain ⟨rfl, rfl, rfl⟩ := hrel
      go_wp2
      go_ret
      exact ⟨rfl, rfl⟩
  · go_enter Try.func35, Try.ntmps35
    go_wp2_with (go_at_call 63; refine (wkept_none _).mono ?_; rintro e w' ⟨rfl, rfl⟩)
    go_loopw [5, 6] (fun v i wr => v = .slice none 0 0 ∧ i = .int .i64 0 ∧ w = wr) (fun _ _ _ => 0)
    case atStart => exact ⟨rfl, rfl, rfl⟩
    case round =>
      obtain ⟨rfl, rfl, rfl⟩ := hrel
      go_wp2
      go_ret
      exact ⟨rfl, rfl⟩

set_option maxRecDepth 100000 in
set_option maxHeartbeats 800000 in
theorem wn_any (b n : Int) (w : World) : Calls Try.prog 9 #[.int .u8 b, .int .i64 n] w fun e w' => e = .returned (.bool true) ∧ Below w.heap.size w w' := by
  go_enter Try.func9, Try.ntmps9
  go_wp2_with (first
    | (go_at_call 19; refine (alive18_any _).mono ?_; rintro e w1 ⟨rfl, hk⟩)
    | (go_at_call 21; refine (wput_none _ _).mono ?_; rintro e w' ⟨rfl, rfl⟩)
    | (go_at_call 33; refine (wclear_none _).mono ?_; rintro e w' ⟨rfl, rfl⟩)
    | (go_at_call 22; refine (wback_none _ _).mono ?_; rintro e w' ⟨rfl, rfl⟩)
    | (go_at_call 23; refine (wlen_none _).mono ?_; rintro e w' ⟨rfl, rfl⟩)
    | (go_at_call 35; refine (wlast_none _ _).mono ?_; rintro e w' ⟨rfl, rfl⟩))
  go_ret
  exact ⟨rfl, hk⟩
end Go.Proofs.Ytfagljhjakcfnaa
