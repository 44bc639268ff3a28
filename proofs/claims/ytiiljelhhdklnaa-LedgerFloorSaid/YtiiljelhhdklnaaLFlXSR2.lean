
/- The walk of the reference's PutRecord. -/
import Derived.Test.YtiiljelhhdklnaaLFlb
namespace Go.Proofs.Ytiiljelhhdklnaa
open Go.RowKit

theorem low2_any (n : Nat) (h : n < 65536) (w : World) : Calls Try.prog 40 #[.int .u64 (n : Int), .int .i64 2] w (Cloned w [(n : Int) % 256, (n : Int) / 256]) := by
  have := rslow_any n 2 w (by omega) (by omega)
  rw [lowL_two n h] at this
  exact this
theorem low4_any (n : Nat) (h : n < 4294967296) (w : World) : Calls Try.prog 40 #[.int .u64 (n : Int), .int .i64 4] w (Cloned w (le4 n)) := by
  have := rslow_any n 4 w (by omega) (by omega)
  rw [lowL_four n h] at this
  exact this
end Go.Proofs.Ytiiljelhhdklnaa
