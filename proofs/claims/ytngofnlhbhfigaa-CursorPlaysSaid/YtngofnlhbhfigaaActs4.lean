/- Rows of calls on a cursor as arguments. -/
import Derived.Test.YtngofnlhbhfigaaActs
namespace Go.Proofs.Ytngofnlhbhfigaa
open Go.RowKit Go.ChangeShapes Go.WideShapes Go.Deep

structure Act4At (w : World) (xs : List Value) (i : Nat) (c : Ac) : Prop where
  k : xs[i * 3]? = some (.int .i64 c.k)
  n : xs[i * 3 + 1]? = some (.int .i64 c.n)
  s : xs[i * 3 + 2]? = some (.slice c.A c.l c.c)
  b : Bs w c.A c.l c.c c.zs
  nb : c.n ≤ 9223372036854775807
structure Acts4At (w : World) (A : Option Addr) (m cap : Nat) (xs : List Value) (F : Nat → Ac) : Prop where
  sl : IsSl w A m cap 3 xs
  at_ : ∀ i, i < m → Act4At w xs i (F i)
theorem Acts4At.cells {W w : World} {A : Option Addr} {m cap : Nat} {xs : List Value} {F : Nat → Ac} (h : Acts4At W A m cap xs F) (hk : Keeps None W w) {i : Nat} (hi : i < m) :
    ∃ b off, A = some ⟨b, off, none⟩ ∧ w.cell? ⟨b, off + i * 3, none⟩ = some (.int .i64 (F i).k) ∧ w.cell? ⟨b, off + i * 3 + 1, none⟩ = some (.int .i64 (F i).n) ∧ w.cell? ⟨b, off + i * 3 + 2, none⟩ = some (.slice (F i).A (F i).l (F i).c) ∧ Bs w (F i).A (F i).l (F i).c (F i).zs := by
  obtain ⟨b, off, e, hb, hc⟩ := h.sl.2.2.2 (by omega)
  have hA := h.at_ i hi
  have cc : ∀ j, i * 3 + j < m * 3 → w.cell? ⟨b, off + i * 3 + j, none⟩ = xs[i * 3 + j]? := fun j hj => by
    rw [Nat.add_assoc, hk.cell (p := ⟨b, off + (i * 3 + j), none⟩) hb (fun h => h)]; exact hc _ hj
  exact ⟨b, off, e, (cc 0 (by omega)).trans hA.k, (cc 1 (by omega)).trans hA.n, (cc 2 (by omega)).trans hA.s, hA.b.keeps hk (fun _ _ _ _ _ h => h)⟩
theorem acts4_of {w : World} {A : Option Addr} {m cap : Nat} {xs : List Value} (hs : IsSl w A m cap 3 xs) (h : ∀ i, i < m → ∃ c, Act4At w xs i c) : ∃ F, Acts4At w A m cap xs F := by
  obtain ⟨F, hF⟩ := choose_lt h
  exact ⟨F, hs, hF⟩
set_option maxRecDepth 100000 in
theorem few4_any (A : Option Addr) (m cap : Nat) (xs : List Value) (F : Nat → Ac) (W w : World) (h : Acts4At W A m cap xs F) (hk : Keeps None W w) : Calls Try.prog 59 #[.slice A m cap] w (Same (.bool (fewB m F)) w) := by
  have m1 := h.sl.2.1
  have m2 := h.sl.2.2.1
  have H := Lib.hid h
  have HK := Lib.hid hk
  clear h hk
  by_cases g1 : 30 < m
  · have d1 : decide (30 < (m : Int)) = true := decide_eq_true (by omega)
    have FIN : Hid (fewB m F = false) := decide_eq_false (fun h => by omega)
    go_enter Try.func59, Try.ntmps59
    go_wp2
    go_ret
    exact ⟨ret_bool FIN.out.symm, rfl⟩
  have d1 : decide (30 < (m : Int)) = false := decide_eq_false (by omega)
  go_enter Try.func59, Try.ntmps59
  go_wp2
  go_loop [3] (fun iv => ∃ j : Nat, j ≤ m ∧ iv = .int .i64 j ∧ ∀ i, i < j → (F i).l ≤ 1100) (fun iv => m - (intOf iv).toNat)
  case atStart => exact ⟨0, Nat.zero_le _, rfl, fun i hi => by omega⟩
  case round =>
    obtain ⟨j, hj, rfl, hall⟩ := hrel
    have HA := Lib.hid hall
    clear hall
    by_cases hlt : j < m
    · obtain ⟨b, off, rfl, -, -, c3, hbs⟩ := H.out.cells HK.out hlt
      have l1 := hbs.le
      have l2 := hbs.max
      clear hbs
      by_cases hl : 1100 < (F j).l
      · have FIN : Hid (fewB m F = false) := decide_eq_false (fun h => by have := h.2 j hlt; omega)
        generalize (F j).l = l at *
        have d2 : decide (1100 < (l : Int)) = true := decide_eq_true (by omega)
        go_wp2
        go_ret
        exact ⟨ret_bool FIN.out.symm, rfl⟩
      · have HL : Hid ((F j).l ≤ 1100) := Nat.le_of_not_lt hl
        generalize hgl : (F j).l = l at c3 l1 hl
        have d2 : decide (1100 < (l : Int)) = false := decide_eq_false (by omega)
        clear hgl
        go_wp2
        go_round
        case rel =>
          refine ⟨j + 1, hlt, by go_num, fun i hi => ?_⟩
          by_cases e : i = j
          · subst e; exact HL.out
          · exact HA.out i (by omega)
        case measure => simp [intOf]; omega
    · obtain rfl : j = m := by omega
      have FIN : Hid (fewB j F = true) := decide_eq_true ⟨by omega, HA.out⟩
      go_wp2
      go_ret
      exact ⟨ret_bool FIN.out.symm, rfl⟩
end Go.Proofs.Ytngofnlhbhfigaa
