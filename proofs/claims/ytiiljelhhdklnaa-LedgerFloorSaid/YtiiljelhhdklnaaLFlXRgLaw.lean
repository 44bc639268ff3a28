
/- Regions in a law's walk; the law's num and alive. -/
import Derived.Test.YtiiljelhhdklnaaLFlXRg2
namespace Go.Proofs.Ytiiljelhhdklnaa
open Go.RowKit

section
variable {W w : World} {B q : Nat} {L : FL} {s : FS} {first count : Nat}
theorem lgprogram (h : LF W w B q L s) (hf : first + count ≤ 256) {A : Option Addr} {m c : Nat} {zs : List Int} (hb : Lb w L A m c zs) (a : Int) (hst : 0 ≤ s.steps ∧ s.steps + m ≤ 1000000000000) :
    Calls Try.prog 62 #[.agg #[.pointer (some ⟨q, 0, none⟩), .int .i64 first, .int .i64 count], .int .i64 a, .slice A m c] w (LTurn W w B q L (s.gprog first count a zs)) :=
  (gprogram_any B L s q first count a A m c zs w h.at_ h.q hf hb.bs hst hb.apS).mono fun e w' ⟨h1, L', t⟩ => ⟨h1, L', h.turn t, t⟩
theorem lgerase (h : LF W w B q L s) (hf : first + count ≤ 256) (k : Int) (hst : 0 ≤ s.steps ∧ s.steps ≤ 1000000000000) (her : ∀ i, 0 ≤ s.er.getD i 0 ∧ s.er.getD i 0 ≤ 1000000000000) :
    Calls Try.prog 76 #[.agg #[.pointer (some ⟨q, 0, none⟩), .int .i64 first, .int .i64 count], .int .i64 k] w (LTurn W w B q L (s.gerase first count k)) :=
  (gerase_any B L s q first count k w h.at_ h.q hf hst her).mono fun e w' ⟨h1, L', t⟩ => ⟨h1, L', h.turn t, t⟩
theorem lgof (h : LF W w B q L s) (a m : Int) : Calls Try.prog 31 #[.pointer (some ⟨q, 0, none⟩), .int .i64 a, .int .i64 m] w (Pure (ofF (some ⟨q, 0, none⟩) a m s.er.length 0) w) := by
  have := gof_any B L s q a m w h.at_ h.q
  rwa [← h.at_.el] at this
theorem lgread (h : LF W w B q L s) (hf : first + count ≤ 256) (a m : Int) : Calls Try.prog 55 #[.agg #[.pointer (some ⟨q, 0, none⟩), .int .i64 first, .int .i64 count], .int .i64 a, .int .i64 m] w (ReadTold w (s.gread first count a m)) := gread_any B L s q first count a m w h.at_ h.q hf
theorem lgblank (h : LF W w B q L s) (hf : first + count ≤ s.er.length) (k : Int) : Calls Try.prog 75 #[.agg #[.pointer (some ⟨q, 0, none⟩), .int .i64 first, .int .i64 count], .int .i64 k] w (Pure (.tuple #[.bool (s.gblank first count k).1, .int .i64 (s.gblank first count k).2]) w) :=
  gisblank_any B L s q first count k w h.at_ h.q (by rw [← h.at_.el]; exact hf)
end
theorem ofF_yes {p : Option Addr} {a m n b : Int} (h : someB a m n = true) : ofF p a m n b = .tuple #[.agg #[.pointer p, .int .i64 (b + a), .int .i64 m], .int .i64 0] := if_pos h
theorem ofF_no {p : Option Addr} {a m n b : Int} (h : someB a m n = false) : ofF p a m n b = .tuple #[rg0, .int .i64 1] := by unfold ofF; rw [h]; rfl

end Go.Proofs.Ytiiljelhhdklnaa
