/- The plain law of a flash: what its calls do to bytes, erasures, steps. -/
import Derived.Test.YtngofnlhbhfigaaNorTwice
import Derived.Test.YtngofnlhbhfigaaBytesC
namespace Go.Proofs.Ytngofnlhbhfigaa
open Go.RowKit

/-- A flash: its bytes, how often each sector was erased, the steps; how many steps go ahead of the broken one (-1: none is broken); what is left of the broken step; is there no power? -/
structure FS where
  b : List Int
  er : List Int
  steps : Int
  left : Int
  pick : List Int
  dark : Bool
def FS.stepped (s : FS) : FS :=
  if s.left < 0 then { s with steps := s.steps + 1 } else if s.left = 0 then { s with steps := s.steps + 1, left := -1, pick := [], dark := true } else { s with steps := s.steps + 1, left := s.left - 1 }
def withinB (at_ n size : Int) : Bool := decide (0 ≤ at_ ∧ 0 ≤ n ∧ at_ ≤ size ∧ n ≤ size - at_)
def FS.readF (s : FS) (at_ n : Int) : List Int × Int :=
  if s.dark = true then ([], 5) else if withinB at_ n s.b.length = true then ((s.b.drop at_.toNat).take n.toNat, 0) else ([], 2)
def FS.peekF (s : FS) (at_ n : Int) : List Int := if withinB at_ n s.b.length = true then (s.b.drop at_.toNat).take n.toNat else []
/-- Words programmed one behind the other, as far as there is power. -/
def progW : Nat → FS → Nat → List Int → FS × Int
  | 0, s, _, _ => (s, 0)
  | k + 1, s, at_, ws =>
    if s.left = 0 then ({ s.stepped with b := splice s.b at_ (tornN ((s.b.drop at_).take 8) (ws.take 8) s.pick) }, 5)
    else progW k { s.stepped with b := splice s.b at_ (ws.take 8) } (at_ + 8) (ws.drop 8)
def FS.progF (s : FS) (at_ : Int) (zs : List Int) : FS × Int :=
  if s.dark = true then (s, 5) else if withinB at_ zs.length s.b.length = false then (s, 2) else if at_ % 8 ≠ 0 ∨ zs.length % 8 ≠ 0 then (s, 3)
  else if canN ((s.b.drop at_.toNat).take zs.length) zs = false then (s, 4) else progW (zs.length / 8) s at_.toNat zs
def FS.erased (s : FS) (k : Nat) : FS := { s with er := s.er.set k (s.er.getD k 0 + 1) }
def FS.eraseF (s : FS) (k : Int) : FS × Int :=
  if s.dark = true then (s, 5) else if k < 0 ∨ s.er.length ≤ k then (s, 2)
  else if s.left = 0 then ({ (s.erased k.toNat).stepped with b := splice s.b (1024 * k.toNat) (halfN ((s.b.drop (1024 * k.toNat)).take 1024) s.pick) }, 5)
  else ({ (s.erased k.toNat).stepped with b := splice s.b (1024 * k.toNat) (List.replicate 1024 255) }, 0)
def FS.armF (s : FS) (after : Int) (pick : List Int) : FS := if after < 0 then { s with left := -1, pick := [] } else { s with left := after, pick := pick }
def FS.bootF (s : FS) : FS := { s with left := -1, pick := [], dark := false }
def FS.spoilF (s : FS) (at_ : Int) (zs : List Int) : FS × Int :=
  if withinB at_ zs.length s.b.length = true then ({ s with b := splice s.b at_.toNat zs }, 0) else (s, 2)
def FS.erasesF (s : FS) (k : Int) : Int := if k < 0 ∨ s.er.length ≤ k then 0 else s.er.getD k.toNat 0
def newF (n : Int) : FS := { b := List.replicate (1024 * (max 1 (min n 256)).toNat) 255, er := List.replicate (max 1 (min n 256)).toNat 0, steps := 0, left := -1, pick := [], dark := false }

theorem FS.stepped_b (s : FS) : s.stepped.b = s.b := by unfold FS.stepped; split <;> (try split) <;> rfl
theorem FS.stepped_er (s : FS) : s.stepped.er = s.er := by unfold FS.stepped; split <;> (try split) <;> rfl
theorem FS.stepped_steps (s : FS) : s.stepped.steps = s.steps + 1 := by unfold FS.stepped; split <;> (try split) <;> rfl

/-- Can words be programmed: each by itself. -/
theorem canN_take {os ns : List Int} (h : canN os ns = true) (k : Nat) : canN (os.take k) (ns.take k) = true := by
  simp only [canN, decide_eq_true_eq] at h ⊢
  obtain ⟨h1, h2⟩ := h
  refine ⟨by rw [List.length_take, List.length_take, h1], fun i hi => ?_⟩
  rw [List.length_take] at hi
  have := h2 i (by omega)
  simpa [List.getD, List.getElem?_take, show i < k by omega] using this
theorem canN_drop {os ns : List Int} (h : canN os ns = true) (k : Nat) : canN (os.drop k) (ns.drop k) = true := by
  simp only [canN, decide_eq_true_eq] at h ⊢
  obtain ⟨h1, h2⟩ := h
  refine ⟨by rw [List.length_drop, List.length_drop, h1], fun i hi => ?_⟩
  rw [List.length_drop] at hi
  have := h2 (k + i) (by omega)
  simpa [List.getD, List.getElem?_drop] using this
theorem splice_drop (L : List Int) (off k : Nat) (X : List Int) (h : off + X.length ≤ k) (hl : off + X.length ≤ L.length) : (splice L off X).drop k = L.drop k := by
  apply List.ext_getElem?
  intro i
  rw [List.getElem?_drop, List.getElem?_drop]
  simp only [splice]
  rw [List.getElem?_append_right (by rw [List.length_take]; omega), List.length_take, Nat.min_eq_left (by omega), List.getElem?_append_right (by omega), List.getElem?_drop]
  congr 1; omega
end Go.Proofs.Ytngofnlhbhfigaa
