
/- The calls on a journal that is none. -/
import Derived.Test.YtbefbojeojokjaaJEpXJn8
import Derived.Test.YtbefbojeojokjaaJEpXFlLaw
namespace Go.Proofs.Ytbefbojeojokjaa
open Go.RowKit

theorem madeB (w : World) (N : Nat) (hN : N ≤ 1000000) : Bs (w.alloc (.cells (Array.replicate N (Value.int .u8 0)) 5)) (some ⟨w.heap.size, 0, none⟩) N N (List.replicate N 0) := by
  obtain ⟨A, c, e, hb, -⟩ := (madeBs w N hN).shape
  rw [List.length_replicate] at e hb
  cases e
  exact hb
/-- A literal of two records. -/
theorem Rws.two {w : World} {g : Nat} {T : TypeId} (r s : RV) (h : Blk w g (rcell r ++ rcell s) T) : Rws w (some ⟨g, 0, .none⟩) 2 2 [r, s] :=
  ⟨rfl, Nat.le_refl _, by decide, (fun e => by cases e), fun _ => ⟨g, 0, rfl, h.lt, fun k x hx => by
    match k with
    | 0 =>
      obtain rfl : r = x := by simpa using hx
      exact ⟨h.cellD 0 _ rfl, h.cellD 1 _ rfl, h.cellD 2 _ rfl⟩
    | 1 =>
      obtain rfl : s = x := by simpa using hx
      exact ⟨h.cellD 3 _ rfl, h.cellD 4 _ rfl, h.cellD 5 _ rfl⟩
    | k + 2 => simp at hx⟩⟩
set_option maxRecDepth 100000 in
theorem jappend_nil (kind : Int) (A : Option Addr) (n c : Nat) (w : World) : Calls Try.prog 25 #[.pointer none, .int .i64 kind, .slice A n c] w (Same (.int .i64 1) w) := by
  go_enter Try.func25, Try.ntmps25
  go_wp2
  go_ret
  exact ⟨rfl, rfl⟩
set_option maxRecDepth 100000 in
theorem jcompact_nil (A : Option Addr) (n c : Nat) (w : World) : Calls Try.prog 17 #[.pointer none, .slice A n c] w (Same (.int .i64 1) w) := by
  go_enter Try.func17, Try.ntmps17
  go_wp2
  go_ret
  exact ⟨rfl, rfl⟩
end Go.Proofs.Ytbefbojeojokjaa
