
/- LedgerFloor: the floor never falls, and a commit ends a checkpoint. -/
import Derived.Test.YtfldgaiiniknpaaLCuXLg14
import Derived.Test.YtfldgaiiniknpaaLCuXJlSized
import Derived.Test.YtfldgaiiniknpaaLCuXLgArg
import Derived.Test.YtfldgaiiniknpaaLCub
namespace Go.Proofs.Ytfldgaiiniknpaa
open Go.RowKit Go.ChangeShapes Go.WideShapes Go.Deep

theorem byt_map {w : World} {P : Nat → Prop} {rs : List RV} (h : Bds w P rs) : ∀ r ∈ rs.map RV.r, Byt r.b := fun r hr => by
  obtain ⟨x, hx, rfl⟩ := List.mem_map.1 hr
  exact (h.bs x hx).byte
theorem Bds.app {w : World} {P Q : Nat → Prop} {rs ms : List RV} (h : Bds w P rs) (h2 : Bds w Q ms) : Bds w (fun _ => True) (rs ++ ms) :=
  ⟨fun r hr => (List.mem_append.1 hr).elim (h.bs r) (h2.bs r), fun r hr b hb => ⟨trivial, (List.mem_append.1 hr).elim (fun h1 => (h.p r h1 b hb).2) (fun h1 => (h2.p r h1 b hb).2)⟩⟩
end Go.Proofs.Ytfldgaiiniknpaa
