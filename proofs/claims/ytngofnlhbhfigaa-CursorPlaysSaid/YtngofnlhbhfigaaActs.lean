/- Rows of calls as arguments: each with its numbers and its bytes. -/
import Derived.Test.YtngofnlhbhfigaaBytes2
import Derived.Test.YtngofnlhbhfigaaFrame
import Derived.Test.YtngofnlhbhfigaaFlLaw
namespace Go.Proofs.Ytngofnlhbhfigaa
open Go.RowKit Go.ChangeShapes Go.WideShapes Go.Deep

section
variable {H : Type} {enc : TypeId × Value → H} {w : World} {base : Nat} {spare : Nat → Bool} {held : Bool} {n : Nat} {fs : Array Field} {xs : List Value}
theorem fld_bytes (h : ∀ i j f, i < n → fs[j]? = some f → ∃ v y m, xs[i * fs.size + j]? = some v ∧ DataW.trod enc Try.prog w base spare held m f.type [v] = some y)
    {j : Nat} {f : Field} (hj : fs[j]? = some f) (ht : f.type = 22) {i : Nat} (hi : i < n) : ∃ A l c zs, xs[i * fs.size + j]? = some (.slice A l c) ∧ Bs w A l c zs := by
  obtain ⟨v, y, m, h1, h2⟩ := h i j f hi hj
  rw [ht] at h2
  have key : ∃ A l c, v = .slice A l c := by
    rcases open_ints Try.underlying22 Try.underlying5 (by kernel_rfl) h2 with ⟨hcs, _⟩ | ⟨x, l, c', zs, hcs, _⟩
    · cases hcs; exact ⟨_, _, _, rfl⟩
    · cases hcs; exact ⟨_, _, _, rfl⟩
  obtain ⟨A, l, c, rfl⟩ := key
  obtain ⟨zs, hz⟩ := open_bs (d := y.1) (p := y.2) ⟨m, h2⟩
  exact ⟨A, l, c, zs, h1, hz⟩
end

/-- A call as it came in. -/
structure Ac where
  k : Int
  a : Int
  n : Int
  A : Option Addr
  l : Nat
  c : Nat
  zs : List Int
deriving Inhabited
structure ActAt (w : World) (xs : List Value) (i : Nat) (c : Ac) : Prop where
  k : xs[i * 4]? = some (.int .i64 c.k)
  a : xs[i * 4 + 1]? = some (.int .i64 c.a)
  n : xs[i * 4 + 2]? = some (.int .i64 c.n)
  s : xs[i * 4 + 3]? = some (.slice c.A c.l c.c)
  b : Bs w c.A c.l c.c c.zs
  nb : c.n ≤ 9223372036854775807
/-- The calls that came in. -/
structure ActsAt (w : World) (A : Option Addr) (m cap : Nat) (xs : List Value) (F : Nat → Ac) : Prop where
  sl : IsSl w A m cap 4 xs
  at_ : ∀ i, i < m → ActAt w xs i (F i)
theorem ActsAt.cells {W w : World} {A : Option Addr} {m cap : Nat} {xs : List Value} {F : Nat → Ac} (h : ActsAt W A m cap xs F) (hk : Keeps None W w) {i : Nat} (hi : i < m) :
    ∃ b off, A = some ⟨b, off, none⟩ ∧ w.cell? ⟨b, off + i * 4, none⟩ = some (.int .i64 (F i).k) ∧ w.cell? ⟨b, off + i * 4 + 1, none⟩ = some (.int .i64 (F i).a) ∧ w.cell? ⟨b, off + i * 4 + 2, none⟩ = some (.int .i64 (F i).n) ∧ w.cell? ⟨b, off + i * 4 + 3, none⟩ = some (.slice (F i).A (F i).l (F i).c) ∧ Bs w (F i).A (F i).l (F i).c (F i).zs := by
  obtain ⟨b, off, e, hb, hc⟩ := h.sl.2.2.2 (by omega)
  have hA := h.at_ i hi
  have cc : ∀ j, i * 4 + j < m * 4 → w.cell? ⟨b, off + i * 4 + j, none⟩ = xs[i * 4 + j]? := fun j hj => by
    rw [Nat.add_assoc, hk.cell (p := ⟨b, off + (i * 4 + j), none⟩) hb (fun h => h)]; exact hc _ hj
  exact ⟨b, off, e, (cc 0 (by omega)).trans hA.k, (cc 1 (by omega)).trans hA.a, (cc 2 (by omega)).trans hA.n, (cc 3 (by omega)).trans hA.s, hA.b.keeps hk (fun _ _ _ _ _ h => h)⟩
theorem acts_of {w : World} {A : Option Addr} {m cap : Nat} {xs : List Value} (hs : IsSl w A m cap 4 xs) (h : ∀ i, i < m → ∃ c, ActAt w xs i c) : ∃ F, ActsAt w A m cap xs F := by
  obtain ⟨F, hF⟩ := choose_lt h
  exact ⟨F, hs, hF⟩
def fewB (m : Nat) (F : Nat → Ac) : Bool := decide (m ≤ 30 ∧ ∀ i, i < m → (F i).l ≤ 1100)
theorem fewB_yes {m : Nat} {F : Nat → Ac} (h : fewB m F = true) : m ≤ 30 ∧ ∀ i, i < m → (F i).l ≤ 1100 := of_decide_eq_true h

set_option maxRecDepth 100000 in
theorem few2_any (A : Option Addr) (m cap : Nat) (xs : List Value) (F : Nat → Ac) (W w : World) (h : ActsAt W A m cap xs F) (hk : Keeps None W w) : Calls Try.prog 34 #[.slice A m cap] w (Same (.bool (fewB m F)) w) := by
  have m1 := h.sl.2.1
  have m2 := h.sl.2.2.1
  have H := Lib.hid h
  have HK := Lib.hid hk
  clear h hk
  by_cases g1 : 30 < m
  · have d1 : decide (30 < (m : Int)) = true := decide_eq_true (by omega)
    have FIN : Hid (fewB m F = false) := decide_eq_false (fun h => by omega)
    go_enter Try.func34, Try.ntmps34
    go_wp2
    go_ret
    exact ⟨ret_bool FIN.out.symm, rfl⟩
  have d1 : decide (30 < (m : Int)) = false := decide_eq_false (by omega)
  go_enter Try.func34, Try.ntmps34
  go_wp2
  go_loop [3] (fun iv => ∃ j : Nat, j ≤ m ∧ iv = .int .i64 j ∧ ∀ i, i < j → (F i).l ≤ 1100) (fun iv => m - (intOf iv).toNat)
  case atStart => exact ⟨0, Nat.zero_le _, rfl, fun i hi => by omega⟩
  case round =>
    obtain ⟨j, hj, rfl, hall⟩ := hrel
    have HA := Lib.hid hall
    clear hall
    by_cases hlt : j < m
    · obtain ⟨b, off, rfl, -, -, -, c3, hbs⟩ := H.out.cells HK.out hlt
      have l1 := hbs.le
      have l2 := hbs.max
      clear hbs
      by_cases hl : 1100 < (F j).l
      · have FIN : Hid (fewB m F = false) := decide_eq_false (fun h => by have := h.2 j hlt; omega)
        generalize (F j).l = l at *
        have d2 : decide (1100 < (l : Int)) = true := decide_eq_true (by omega)
        go_wp2
        go_ret
        exact ⟨ret_bool FIN.out.symm, rfl⟩
      · have HL : Hid ((F j).l ≤ 1100) := Nat.le_of_not_lt hl
        generalize hgl : (F j).l = l at c3 l1 hl
        have d2 : decide (1100 < (l : Int)) = false := decide_eq_false (by omega)
        clear hgl
        go_wp2
        go_round
        case rel =>
          refine ⟨j + 1, hlt, by go_num, fun i hi => ?_⟩
          by_cases e : i = j
          · subst e; exact HL.out
          · exact HA.out i (by omega)
        case measure => simp [intOf]; omega
    · obtain rfl : j = m := by omega
      have FIN : Hid (fewB j F = true) := decide_eq_true ⟨by omega, HA.out⟩
      go_wp2
      go_ret
      exact ⟨ret_bool FIN.out.symm, rfl⟩
set_option maxRecDepth 100000 in
theorem few3_any (A : Option Addr) (m cap : Nat) (xs : List Value) (F : Nat → Ac) (W w : World) (h : ActsAt W A m cap xs F) (hk : Keeps None W w) : Calls Try.prog 43 #[.slice A m cap] w (Same (.bool (fewB m F)) w) := by
  have m1 := h.sl.2.1
  have m2 := h.sl.2.2.1
  have H := Lib.hid h
  have HK := Lib.hid hk
  clear h hk
  by_cases g1 : 30 < m
  · have d1 : decide (30 < (m : Int)) = true := decide_eq_true (by omega)
    have FIN : Hid (fewB m F = false) := decide_eq_false (fun h => by omega)
    go_enter Try.func43, Try.ntmps43
    go_wp2
    go_ret
    exact ⟨ret_bool FIN.out.symm, rfl⟩
  have d1 : decide (30 < (m : Int)) = false := decide_eq_false (by omega)
  go_enter Try.func43, Try.ntmps43
  go_wp2
  go_loop [3] (fun iv => ∃ j : Nat, j ≤ m ∧ iv = .int .i64 j ∧ ∀ i, i < j → (F i).l ≤ 1100) (fun iv => m - (intOf iv).toNat)
  case atStart => exact ⟨0, Nat.zero_le _, rfl, fun i hi => by omega⟩
  case round =>
    obtain ⟨j, hj, rfl, hall⟩ := hrel
    have HA := Lib.hid hall
    clear hall
    by_cases hlt : j < m
    · obtain ⟨b, off, rfl, -, -, -, c3, hbs⟩ := H.out.cells HK.out hlt
      have l1 := hbs.le
      have l2 := hbs.max
      clear hbs
      by_cases hl : 1100 < (F j).l
      · have FIN : Hid (fewB m F = false) := decide_eq_false (fun h => by have := h.2 j hlt; omega)
        generalize (F j).l = l at *
        have d2 : decide (1100 < (l : Int)) = true := decide_eq_true (by omega)
        go_wp2
        go_ret
        exact ⟨ret_bool FIN.out.symm, rfl⟩
      · have HL : Hid ((F j).l ≤ 1100) := Nat.le_of_not_lt hl
        generalize hgl : (F j).l = l at c3 l1 hl
        have d2 : decide (1100 < (l : Int)) = false := decide_eq_false (by omega)
        clear hgl
        go_wp2
        go_round
        case rel =>
          refine ⟨j + 1, hlt, by go_num, fun i hi => ?_⟩
          by_cases e : i = j
          · subst e; exact HL.out
          · exact HA.out i (by omega)
        case measure => simp [intOf]; omega
    · obtain rfl : j = m := by omega
      have FIN : Hid (fewB j F = true) := decide_eq_true ⟨by omega, HA.out⟩
      go_wp2
      go_ret
      exact ⟨ret_bool FIN.out.symm, rfl⟩
end Go.Proofs.Ytngofnlhbhfigaa
