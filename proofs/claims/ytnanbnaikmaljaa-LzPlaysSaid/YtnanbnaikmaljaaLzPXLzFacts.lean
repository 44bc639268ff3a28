
/- What Feed tells, in plain words; rows of feeds as arguments. -/
import Derived.Test.YtnanbnaikmaljaaLzPXLz4
import Derived.Test.YtnanbnaikmaljaaLzPa
namespace Go.Proofs.Ytnanbnaikmaljaa
open Go.RowKit Go.ChangeShapes Go.WideShapes Go.Deep

structure LzRes (room : Int) (z : LzS) (r : LzS × List Int × List Int) : Prop where
  need : ¬ (z.st = 3 ∨ z.st = 4) → r.1.st = 1 → r.2.1 = []
  full : ¬ (z.st = 3 ∨ z.st = 4) → r.1.st = 2 → max room 0 ≤ (r.2.2.length : Int)
  len : (r.2.2.length : Int) ≤ max room 0
  plain : r.1.plain = z.plain
theorem lzF_res (room : Int) : ∀ (f : Nat) (z : LzS) (ys out : List Int), lzM z ys.length < f → LzOk z → (∀ y ∈ ys, 0 ≤ y ∧ y ≤ 255) → (out.length : Int) ≤ max room 0 → LzRes room z (lzF room f z ys out) ∧ ∀ h0, z.h = h0 ++ out → (lzF room f z ys out).1.h = h0 ++ (lzF room f z ys out).2.2
  | 0, z, ys, out, hM, _, _, _ => absurd hM (Nat.not_lt_zero _)
  | f + 1, z, ys, out, hM, ok, hy, ho => by
    have stop : ∀ z' ys' : _, (z'.st = 3 ∨ z'.st = 4) → z'.plain = z.plain → z'.h = z.h → LzRes room z (lzF room f z' ys' out) ∧ ∀ h0, z.h = h0 ++ out → (lzF room f z' ys' out).1.h = h0 ++ (lzF room f z' ys' out).2.2 := fun z' ys' hs hp hh => by
      have e : lzF room f z' ys' out = (z', ys', out) := by
        cases f with
        | zero => rfl
        | succ f => unfold lzF; rw [if_pos hs]
      rw [e]
      exact ⟨⟨fun _ h1 => by have h1 : z'.st = 1 := h1; omega, fun _ h2 => by have h2 : z'.st = 2 := h2; omega, ho, hp⟩, fun h0 hz => hh.trans hz⟩
    unfold lzF
    by_cases hs : z.st = 3 ∨ z.st = 4
    · rw [if_pos hs]
      exact ⟨⟨fun h => absurd hs h, fun h => absurd hs h, ho, rfl⟩, fun h0 hz => hz⟩
    rw [if_neg hs]
    by_cases hn : dNeedB z.d = true
    · rw [if_pos hn]
      cases ys with
      | nil => exact ⟨⟨fun _ _ => rfl, fun _ h2 => absurd (show (1 : Int) = 2 from h2) (by decide), ho, rfl⟩, fun h0 hz => hz⟩
      | cons y ys =>
        have hb := hy y List.mem_cons_self
        have hm := lzM_byte z (dByteS z.d y) ys.length hs
        rw [List.length_cons] at hM
        obtain ⟨q, q2⟩ := lzF_res room f { z with d := dByteS z.d y } ys out (by omega) (ok.byte y hb) (fun x hx => hy x (List.mem_cons_of_mem _ hx)) ho
        exact ⟨⟨fun h => q.need h, fun h => q.full h, q.len, q.plain⟩, q2⟩
    rw [if_neg hn]
    by_cases hl : dLostB z.d = true
    · rw [if_pos hl]
      exact stop _ _ (.inr rfl) rfl rfl
    rw [if_neg hl]
    by_cases h0 : 0 < z.left
    · rw [if_pos h0]
      by_cases hr : room ≤ out.length
      · rw [if_pos hr]
        exact ⟨⟨fun _ h1 => absurd (show (2 : Int) = 1 from h1) (by decide), fun _ _ => by show max room 0 ≤ (out.length : Int); omega, ho, rfl⟩, fun h0 hz => hz⟩
      · rw [if_neg hr]
        have hm := lzM_next ys.length ok hs h0
        obtain ⟨q, q2⟩ := lzF_res room f (lzNextS z) ys (out ++ [lzByte z]) (by omega) (ok.next (fun e => hs (.inr e)) h0) hy (by rw [List.length_append, List.length_singleton]; omega)
        refine ⟨⟨fun h => q.need h, fun h => q.full h, q.len, q.plain⟩, fun hh hz => q2 hh ?_⟩
        show z.h ++ [lzByte z] = _
        rw [hz, List.append_assoc]
    rw [if_neg h0]
    by_cases hp : z.h.length = z.plain
    · rw [if_pos hp]
      exact stop _ _ (by show lzEndV z = 3 ∨ lzEndV z = 4; unfold lzEndV; split <;> simp) rfl rfl
    rw [if_neg hp]
    have hh : (lzTakeS z).h = z.h := by unfold lzTakeS; split <;> rfl
    have hpl : (lzTakeS z).plain = z.plain := by unfold lzTakeS; split <;> rfl
    by_cases ht : lzTakeB z = true
    · rw [if_pos ht]
      have hm := lzM_take ys.length ok hs h0 ht
      obtain ⟨q, q2⟩ := lzF_res room f (lzTakeS z) ys out (by omega) (ok.take h0 ht) hy ho
      have hst : (lzTakeS z).st = z.st := by unfold lzTakeS; split <;> rfl
      exact ⟨⟨fun _ => q.need (by rw [hst]; exact hs), fun _ => q.full (by rw [hst]; exact hs), q.len, q.plain.trans hpl⟩, fun h0 hz => q2 h0 (hh.trans hz)⟩
    · rw [if_neg ht]
      exact stop _ _ (.inr rfl) hpl hh
theorem lzF_ok (room : Int) : ∀ (f : Nat) (z : LzS) (ys out : List Int), LzOk z → (∀ y ∈ ys, 0 ≤ y ∧ y ≤ 255) → LzOk (lzF room f z ys out).1
  | 0, z, ys, out, ok, _ => ok
  | f + 1, z, ys, out, ok, hy => by
    unfold lzF
    by_cases hs : z.st = 3 ∨ z.st = 4
    · rw [if_pos hs]; exact ok
    have s4 : z.st ≠ 4 := fun e => hs (.inr e)
    rw [if_neg hs]
    by_cases hn : dNeedB z.d = true
    · rw [if_pos hn]
      cases ys with
      | nil => exact ok.set 1 (by decide) (by decide) s4
      | cons y ys => exact lzF_ok room f _ ys out (ok.byte y (hy y List.mem_cons_self)) (fun x hx => hy x (List.mem_cons_of_mem _ hx))
    rw [if_neg hn]
    by_cases hl : dLostB z.d = true
    · rw [if_pos hl]; exact lzF_ok room f _ ys out (ok.set 4 (by decide) (by decide) s4) hy
    rw [if_neg hl]
    by_cases h0 : 0 < z.left
    · rw [if_pos h0]
      by_cases hr : room ≤ out.length
      · rw [if_pos hr]; exact ok.set 2 (by decide) (by decide) s4
      · rw [if_neg hr]; exact lzF_ok room f _ ys _ (ok.next s4 h0) hy
    rw [if_neg h0]
    by_cases hp : z.h.length = z.plain
    · rw [if_pos hp]
      have he : lzEndV z = 3 ∨ lzEndV z = 4 := by unfold lzEndV; split <;> simp
      exact lzF_ok room f _ ys out (ok.set _ (by omega) (by omega) s4) hy
    rw [if_neg hp]
    by_cases ht : lzTakeB z = true
    · rw [if_pos ht]; exact lzF_ok room f _ ys out (ok.take h0 ht) hy
    · rw [if_neg ht]; exact lzF_ok room f _ ys out ok.fail hy
theorem lzF_term (room : Int) (f : Nat) (z : LzS) (ys : List Int) (hs : z.st = 3 ∨ z.st = 4) : lzF room f z ys [] = (z, ys, []) := by
  cases f with
  | zero => rfl
  | succ f => unfold lzF; rw [if_pos hs]

/-- A feed as it came in. -/
structure Fd where
  A : Option Addr
  l : Nat
  c : Nat
  zs : List Int
  r : Int
deriving Inhabited
structure FdAt (w : World) (xs : List Value) (i : Nat) (c : Fd) : Prop where
  s : xs[i * 2]? = some (.slice c.A c.l c.c)
  r : xs[i * 2 + 1]? = some (.int .i64 c.r)
  b : Bs w c.A c.l c.c c.zs
  rb : -9223372036854775808 ≤ c.r ∧ c.r ≤ 9223372036854775807
structure FdsAt (w : World) (A : Option Addr) (m cap : Nat) (xs : List Value) (F : Nat → Fd) : Prop where
  sl : IsSl w A m cap 2 xs
  at_ : ∀ i, i < m → FdAt w xs i (F i)
theorem FdsAt.cells {W w : World} {A : Option Addr} {m cap : Nat} {xs : List Value} {F : Nat → Fd} {S : Nat → Prop} (h : FdsAt W A m cap xs F) (hk : Keeps S W w) (hS : ∀ k, k < W.heap.size → ¬ S k) {i : Nat} (hi : i < m) :
    ∃ b off, A = some ⟨b, off, none⟩ ∧ w.cell? ⟨b, off + i * 2, none⟩ = some (.slice (F i).A (F i).l (F i).c) ∧ w.cell? ⟨b, off + i * 2 + 1, none⟩ = some (.int .i64 (F i).r) ∧ Bs w (F i).A (F i).l (F i).c (F i).zs := by
  obtain ⟨b, off, e, hb, hc⟩ := h.sl.2.2.2 (by omega)
  have hA := h.at_ i hi
  have cc : ∀ j, i * 2 + j < m * 2 → w.cell? ⟨b, off + i * 2 + j, none⟩ = xs[i * 2 + j]? := fun j hj => by
    rw [Nat.add_assoc, hk.cell (p := ⟨b, off + (i * 2 + j), none⟩) hb (hS b hb)]; exact hc _ hj
  exact ⟨b, off, e, (cc 0 (by omega)).trans hA.s, (cc 1 (by omega)).trans hA.r, hA.b.keeps hk (fun b _ _ hb _ => hS b hb)⟩
theorem fds_of {w : World} {A : Option Addr} {m cap : Nat} {xs : List Value} (hs : IsSl w A m cap 2 xs) (h : ∀ i, i < m → ∃ c, FdAt w xs i c) : ∃ F, FdsAt w A m cap xs F := by
  obtain ⟨F, hF⟩ := choose_lt h
  exact ⟨F, hs, hF⟩
section
variable {H : Type} {enc : TypeId × Value → H} {w : World} {base : Nat} {spare : Nat → Bool} {held : Bool} {n : Nat} {fs : Array Field} {xs : List Value}
theorem fld_bytesZ (h : ∀ i j f, i < n → fs[j]? = some f → ∃ v y m, xs[i * fs.size + j]? = some v ∧ DataW.trod enc Try.prog w base spare held m f.type [v] = some y)
    {j : Nat} {f : Field} (hj : fs[j]? = some f) (ht : f.type = 22) {i : Nat} (hi : i < n) : ∃ A l c zs, xs[i * fs.size + j]? = some (.slice A l c) ∧ Bs w A l c zs := by
  obtain ⟨v, y, m, h1, h2⟩ := h i j f hi hj
  rw [ht] at h2
  have key : ∃ A l c, v = .slice A l c := by
    rcases open_ints Try.underlying22 Try.underlying5 (by kernel_rfl) h2 with ⟨hcs, _⟩ | ⟨x, l, c', zs, hcs, _⟩
    · cases hcs; exact ⟨_, _, _, rfl⟩
    · cases hcs; exact ⟨_, _, _, rfl⟩
  obtain ⟨A, l, c, rfl⟩ := key
  obtain ⟨zs, hz⟩ := open_bs (d := y.1) (p := y.2) ⟨m, h2⟩
  exact ⟨A, l, c, zs, h1, hz⟩
end
end Go.Proofs.Ytnanbnaikmaljaa
