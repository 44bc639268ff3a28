
/- token.feed and NewReader. -/
import Derived.Test.YtnanbnaikmaljaaLzPXTkRead3
import Derived.Test.YtnanbnaikmaljaaLzPXDecFill
import Derived.Deep.LoopGhost
namespace Go.Proofs.Ytnanbnaikmaljaa
open Go.RowKit

/-- Are there as many bytes as the decoder needs, and may a coder have made them? -/
def fedB (d : DSt) (zs : List Int) : Bool := decide (d.n ≤ zs.length) && !dLostB (dEat d (zs.take d.n.toNat))
def Fed (w : World) (b : Nat) (A : Option Addr) (zs : List Int) (s : DSt) (e : Ending) (w' : World) : Prop :=
  ∃ A' n' c', e = .returned (.tuple #[.slice A' n' c', .bool (fedB s zs)]) ∧ Keeps (fun k => k = b) w w' ∧ (fedB s zs = true → n' ≤ zs.length ∧ Bs w' A' n' c' (zs.drop s.n.toNat) ∧ SB A A' ∧ DAt w' b 86 (dEat s (zs.take s.n.toNat)))
def rd0 : RdS := ⟨ms0, 0, 1, ⟨0, 0, 0⟩⟩
theorem ROk.start : ROk rd0 := ⟨MOk.start, by decide, show (1 : Int) ≤ 1 by decide, show (1 : Int) < 2 ^ szP 0 by decide, show (0 : Int) ≤ 0 by decide, fun h => absurd (show 0 = 4 from h) (by decide), ⟨show (-9223372036854775808 : Int) ≤ 0 by decide, show (0 : Int) ≤ 9223372036854775807 by decide, show (-9223372036854775808 : Int) ≤ 0 by decide, show (0 : Int) ≤ 9223372036854775807 by decide, show (0 : Int) ≤ 0 by decide, show (0 : Int) ≤ 255 by decide⟩⟩
set_option maxRecDepth 100000 in
theorem tknew_any (w : World) : Calls Try.prog 30 #[] w fun e w' => ∃ T : TL, e = .returned (.pointer (some ⟨T.sb, 0, none⟩)) ∧ Blk w' T.sb (rcells T rd0) 92 ∧ Trees w' T ms0 ∧ T.Ord ∧ w.heap.size < T.g1 ∧ Keeps None w w' := by
  go_enter Try.func30, Try.ntmps30
  go_wp2_with fail
  refine (tkfresh_any w).mono ?_
  rintro e w1 ⟨⟨sx, b1, g1, b2, g2, b3, g3⟩, rfl, t1, hg, hb, ⟨o1, o2, o3, o4, o5⟩, k1⟩
  have T1 := Lib.hid t1
  have K1 := Lib.hid k1
  clear t1 k1
  unfold magg ms0
  dsimp only at hg hb o1 o2 o3 o4 o5
  go_wp2
  go_ret
  exact ⟨⟨w1.heap.size, b1, g1, b2, g2, b3, g3⟩, rfl, Blk.new w1 _ _, ⟨T1.out.t1.keeps ((Keeps.refl None w1).alloc _) (fun h => h) (fun h => h), T1.out.t2.keeps ((Keeps.refl None w1).alloc _) (fun h => h) (fun h => h), T1.out.t3.keeps ((Keeps.refl None w1).alloc _) (fun h => h) (fun h => h)⟩, ⟨o1, o2, o3, o4, o5, hb⟩, hg, K1.out.alloc _⟩
end Go.Proofs.Ytnanbnaikmaljaa
