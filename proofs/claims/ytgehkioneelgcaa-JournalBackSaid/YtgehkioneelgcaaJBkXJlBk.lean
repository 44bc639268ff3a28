
/- JournalBack: the plain law. -/
import Derived.Test.YtgehkioneelgcaaJCuXJlCut
namespace Go.Proofs.Ytgehkioneelgcaa
open Go.RowKit

theorem fits_seq {kind : Int} {k n : Nat} (hk : (k : Int) ≤ 4294967295) : fitsR kind (k : Int) n ↔ fitsR kind 0 n := by
  unfold fitsR
  omega
theorem put_seq {kind : Int} {body : List Int} {k : Nat} (hk : (k : Int) ≤ 4294967295) : (putL kind (k : Int) body).length = (putL kind 0 body).length := by
  by_cases hf : fitsR kind 0 body.length
  · have h1 := putL_len kind 0 body hf
    have h2 := putL_len kind (k : Int) body ((fits_seq hk).2 hf)
    omega
  · unfold putL
    rw [if_neg hf, if_neg (fun h => hf ((fits_seq hk).1 h))]
/-- A journal that some of i records were appended to. -/
structure BI (s : FS) (i : Nat) (l : List Rec) : Prop where
  live : Live s 2 1 0 l (blk (1008 - (pkL l).length)) (99 - i)
  ll : l.length ≤ i
  pl : (pkL l).length ≤ 1008
theorem BI.new {s : FS} (h : Live s 2 1 0 [] (blk 1008) 99) : BI s 0 [] := ⟨h, Nat.le_refl _, Nat.zero_le _⟩
theorem BI.step {s : FS} {i : Nat} {l : List Rec} (h : BI s i l) (hi : i < 40) {kind : Int} {body : List Int} (hb : Byt body) :
    (((putL kind 0 body).length = 0 ∨ kind = 1) ∧ appF s (keptJ 1 0 l (blk (1008 - (pkL l).length))) kind body = (s, keptJ 1 0 l (blk (1008 - (pkL l).length)), 1) ∧ BI s (i + 1) l) ∨
    ((putL kind 0 body).length ≠ 0 ∧ kind ≠ 1 ∧ (keptJ 1 0 l (blk (1008 - (pkL l).length))).room < ((putL kind 0 body).length : Int) ∧ appF s (keptJ 1 0 l (blk (1008 - (pkL l).length))) kind body = (s, keptJ 1 0 l (blk (1008 - (pkL l).length)), 14) ∧ BI s (i + 1) l) ∨
    (∃ s' l', (putL kind 0 body).length ≠ 0 ∧ kind ≠ 1 ∧ ((putL kind 0 body).length : Int) ≤ (keptJ 1 0 l (blk (1008 - (pkL l).length))).room ∧
      appF s (keptJ 1 0 l (blk (1008 - (pkL l).length))) kind body = (s', keptJ 1 0 l' (blk (1008 - (pkL l').length)), 0) ∧ l' = l ++ [⟨kind, (l.length : Int) + 1, body⟩] ∧ BI s' (i + 1) l' ∧
      (keptJ 1 0 l' (blk (1008 - (pkL l').length))).room = (keptJ 1 0 l (blk (1008 - (pkL l).length))).room - ((putL kind 0 body).length : Int)) := by
  have hll := h.ll
  have hpl := h.pl
  have hs : ((l.length + 1 : Nat) : Int) ≤ 4294967295 := by omega
  have e1 : ((l.length + 1 : Nat) : Int) = (l.length : Int) + 1 := by omega
  have hf := fits_seq (kind := kind) (n := body.length) hs
  have hp := put_seq (kind := kind) (body := body) hs
  rw [e1] at hf hp
  have hv : Live s 2 1 0 l (blk (1008 - (pkL l).length)) (99 - (i + 1) + 1) := h.live.less (by omega)
  have hr := keptJ_room (e := 1) (c := 0) (l := l) (k := 1008 - (pkL l).length) (by decide) (by omega)
  rcases hv.app kind body hb with ⟨h3, h4⟩ | ⟨h3, h4, h5⟩ | ⟨s', h3, h4, -, h5, h6, h7, -⟩
  · refine .inl ⟨h3.elim .inr (fun h3 => .inl ?_), h4, ⟨hv.less (by omega), by omega, hpl⟩⟩
    rw [← hp]
    unfold putL
    rw [if_neg h3]
    rfl
  · have := h3.ge
    have e2 : (Rec.put ⟨kind, (l.length : Int) + 1, body⟩).length = (putL kind 0 body).length := hp
    refine .inr (.inl ⟨by omega, h3.k1, by rw [← hp]; exact h4, h5, ⟨hv.less (by omega), by omega, hpl⟩⟩)
  · have := h3.ge
    have e2 : (Rec.put ⟨kind, (l.length : Int) + 1, body⟩).length = (putL kind 0 body).length := hp
    have e3 : (pkL (l ++ [⟨kind, (l.length : Int) + 1, body⟩])).length = (pkL l).length + (putL kind 0 body).length := by
      rw [pkL_append, List.length_append, ← hp]
      simp [pkL, Rec.put]
    refine .inr (.inr ⟨s', _, by omega, h3.k1, by rw [← hp]; exact h4, h6, rfl, ⟨h7, by rw [List.length_append]; simp; omega, h5⟩, ?_⟩)
    rw [hr, keptJ_room (by decide) (by omega)]
    omega
theorem numR_own {l : List Rec} {ws : List Rec} (h : l = numR 0 ws) (r : Rec) : l ++ [⟨r.k, (l.length : Int) + 1, r.b⟩] = numR 0 (ws ++ [r]) := by
  subst h
  rw [numR_append, numR_len, Nat.zero_add]
  simp [numR]
theorem back_first : appF (newF ((2 : Nat) : Int)) (keptJ 0 (-1) [] []) 3 [] = (newF ((2 : Nat) : Int), keptJ 0 (-1) [] [], 14) := by
  have e : (keptJ 0 (-1) [] []).room = 0 := by decide
  have h1 : (putL 3 (((([] : List Rec).length : Nat) : Int) + 1) []).length = 16 := by decide
  rcases (Live.new 2 (by decide) (by decide)).app (m := 99) 3 [] (fun z hz => by cases hz) with ⟨h, -⟩ | ⟨-, -, h⟩ | ⟨-, -, h, -⟩
  · rcases h with h | h
    · exact absurd h (by decide)
    · exact absurd (⟨by decide, by decide, by decide, by decide, by decide⟩ : fitsR 3 (((([] : List Rec).length : Nat) : Int) + 1) ([] : List Int).length) h
  · exact h
  · rw [e, h1] at h
    exact absurd h (by decide)
end Go.Proofs.Ytgehkioneelgcaa
