
/- JournalCompacts: where power goes while records take the place of others. The plain law. -/
import Derived.Test.YtfldgaiiniknpaaLCuXJlCut
namespace Go.Proofs.Ytfldgaiiniknpaa
open Go.RowKit

/-- Compacting where power goes. -/
theorem cut_cmp {s : FS} {n e : Nat} {c : Int} {l : List Rec} {T : List Int} {m : Nat} (h : Live s n e c l T (m + 1)) (a : Int) {ps : List Int} (hp : Byt ps) (he : e + 1 ≤ 4294967295) {recs : List Rec} (hb : ∀ r ∈ recs, Byt r.b) :
    cmpF (s.armF a ps) (keptJ e c l T) recs = (s.armF a ps, keptJ e c l T, 1) ∨
    ∃ s' j' er e' c' l' T', cmpF (s.armF a ps) (keptJ e c l T) recs = (s', j', er) ∧ er ≠ 1 ∧ FG s' n ∧ Live s'.bootF n e' c' l' T' m ∧ e' ≤ e + 1 ∧ (l' = l ∧ er ≠ 0 ∨ l' = numR 0 recs) := by
  have hr := JRm.cmp (m := 1625 * m) ((h.rm.arm a ps).less (by omega)) (keptJ e c l T) recs
  have hg := h.g.arm a hp
  have hk := h.keep.arm a ps
  rcases keep_cmp hg (by rw [(armF_b s a ps).2]; exact h.dark) hk he recs hb with ⟨-, h1⟩ | ⟨s', -, -, -, g', ⟨b1, -, b3, -, -⟩ | ⟨b1, -, b3 | b3⟩⟩
  · exact .inl h1
  · rw [b1] at hr
    exact .inr ⟨_, _, _, _, _, _, _, b1, by decide, g', Live.boot g' b3.boot hr, Nat.le_refl _, .inr rfl⟩
  · rw [b1] at hr
    exact .inr ⟨_, _, _, e, c, l, T, b1, by decide, g', Live.boot g' b3 hr, Nat.le_succ _, .inl ⟨rfl, by decide⟩⟩
  · rw [b1] at hr
    exact .inr ⟨_, _, _, _, _, _, _, b1, by decide, g', Live.boot g' b3 hr, Nat.le_refl _, .inr rfl⟩
theorem keptJ_l {s : FS} {e : Nat} {c : Int} {l : List Rec} {T : List Int} (h : Keep s e c l T) : (keptJ e c l T).l = l := by
  rcases h with ⟨rfl, rfl, rfl, rfl, -⟩ | ⟨t, ht, rfl, -⟩
  · rfl
  · rw [keptJ_ge (by omega)]
end Go.Proofs.Ytfldgaiiniknpaa
