
/- The walks of the reference's RightTokens and Plain. -/
import Derived.Test.YtnanbnaikmaljaaLzPa
namespace Go.Proofs.Ytnanbnaikmaljaa
open Go.RowKit

theorem Ts.cells {w w' : World} {bl off m cap : Nat} {ts : List Tok} (h : Ts w (some ⟨bl, off, none⟩) m cap ts) (hk : Keeps None w w') {j : Nat} {t : Tok} (ht : ts[j]? = some t) :
    w'.cell? ⟨bl, off + j * 3, none⟩ = some (.int .i64 t.n) ∧ w'.cell? ⟨bl, off + j * 3 + 1, none⟩ = some (.int .i64 t.d) ∧ w'.cell? ⟨bl, off + j * 3 + 2, none⟩ = some (.int .u8 t.b) := by
  have hj : j < ts.length := (List.getElem?_eq_some_iff.1 ht).1
  have hl := h.len
  obtain ⟨b', off', e, _, hc⟩ := (h.later hk).at_ (by omega)
  cases e
  exact hc j t ht
end Go.Proofs.Ytnanbnaikmaljaa
