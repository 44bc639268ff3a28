
/- Rows of calls as arguments: each with its numbers and its bytes. -/
import Derived.Test.YtfldgaiiniknpaaLCua
import Derived.Test.YtfldgaiiniknpaaLCuc
namespace Go.Proofs.Ytfldgaiiniknpaa
open Go.RowKit Go.ChangeShapes Go.WideShapes Go.Deep

section
variable {H : Type} {enc : TypeId × Value → H} {w : World} {base : Nat} {spare : Nat → Bool} {held : Bool} {n : Nat} {fs : Array Field} {xs : List Value}
theorem fld_bytes (h : ∀ i j f, i < n → fs[j]? = some f → ∃ v y m, xs[i * fs.size + j]? = some v ∧ DataW.trod enc Try.prog w base spare held m f.type [v] = some y)
    {j : Nat} {f : Field} (hj : fs[j]? = some f) (ht : f.type = 27) {i : Nat} (hi : i < n) : ∃ A l c zs, xs[i * fs.size + j]? = some (.slice A l c) ∧ Bs w A l c zs := by
  obtain ⟨v, y, m, h1, h2⟩ := h i j f hi hj
  rw [ht] at h2
  have key : ∃ A l c, v = .slice A l c := by
    rcases open_ints Try.underlying27 Try.underlying5 (by kernel_rfl) h2 with ⟨hcs, _⟩ | ⟨x, l, c', zs, hcs, _⟩
    · cases hcs; exact ⟨_, _, _, rfl⟩
    · cases hcs; exact ⟨_, _, _, rfl⟩
  obtain ⟨A, l, c, rfl⟩ := key
  obtain ⟨zs, hz⟩ := open_bs (d := y.1) (p := y.2) ⟨m, h2⟩
  exact ⟨A, l, c, zs, h1, hz⟩
end

/-- A call as it came in. -/
structure Ac where
  k : Int
  a : Int
  n : Int
  A : Option Addr
  l : Nat
  c : Nat
  zs : List Int
deriving Inhabited
structure ActAt (w : World) (xs : List Value) (i : Nat) (c : Ac) : Prop where
  k : xs[i * 4]? = some (.int .i64 c.k)
  a : xs[i * 4 + 1]? = some (.int .i64 c.a)
  n : xs[i * 4 + 2]? = some (.int .i64 c.n)
  s : xs[i * 4 + 3]? = some (.slice c.A c.l c.c)
  b : Bs w c.A c.l c.c c.zs
  nb : c.n ≤ 9223372036854775807
/-- The calls that came in. -/
structure ActsAt (w : World) (A : Option Addr) (m cap : Nat) (xs : List Value) (F : Nat → Ac) : Prop where
  sl : IsSl w A m cap 4 xs
  at_ : ∀ i, i < m → ActAt w xs i (F i)
theorem ActsAt.cells {W w : World} {A : Option Addr} {m cap : Nat} {xs : List Value} {F : Nat → Ac} (h : ActsAt W A m cap xs F) (hk : Keeps None W w) {i : Nat} (hi : i < m) :
    ∃ b off, A = some ⟨b, off, none⟩ ∧ w.cell? ⟨b, off + i * 4, none⟩ = some (.int .i64 (F i).k) ∧ w.cell? ⟨b, off + i * 4 + 1, none⟩ = some (.int .i64 (F i).a) ∧ w.cell? ⟨b, off + i * 4 + 2, none⟩ = some (.int .i64 (F i).n) ∧ w.cell? ⟨b, off + i * 4 + 3, none⟩ = some (.slice (F i).A (F i).l (F i).c) ∧ Bs w (F i).A (F i).l (F i).c (F i).zs := by
  obtain ⟨b, off, e, hb, hc⟩ := h.sl.2.2.2 (by omega)
  have hA := h.at_ i hi
  have cc : ∀ j, i * 4 + j < m * 4 → w.cell? ⟨b, off + i * 4 + j, none⟩ = xs[i * 4 + j]? := fun j hj => by
    rw [Nat.add_assoc, hk.cell (p := ⟨b, off + (i * 4 + j), none⟩) hb (fun h => h)]; exact hc _ hj
  exact ⟨b, off, e, (cc 0 (by omega)).trans hA.k, (cc 1 (by omega)).trans hA.a, (cc 2 (by omega)).trans hA.n, (cc 3 (by omega)).trans hA.s, hA.b.keeps hk (fun _ _ _ _ _ h => h)⟩
theorem acts_of {w : World} {A : Option Addr} {m cap : Nat} {xs : List Value} (hs : IsSl w A m cap 4 xs) (h : ∀ i, i < m → ∃ c, ActAt w xs i c) : ∃ F, ActsAt w A m cap xs F := by
  obtain ⟨F, hF⟩ := choose_lt h
  exact ⟨F, hs, hF⟩
def fewB (m : Nat) (F : Nat → Ac) : Bool := decide (m ≤ 30 ∧ ∀ i, i < m → (F i).l ≤ 1100)
theorem fewB_yes {m : Nat} {F : Nat → Ac} (h : fewB m F = true) : m ≤ 30 ∧ ∀ i, i < m → (F i).l ≤ 1100 := of_decide_eq_true h

end Go.Proofs.Ytfldgaiiniknpaa
