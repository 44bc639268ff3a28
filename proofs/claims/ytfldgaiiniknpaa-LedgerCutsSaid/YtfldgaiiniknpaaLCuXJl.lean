
/- The plain law of a journal over a flash that is not cut. -/
import Derived.Test.YtfldgaiiniknpaaLCuXJp5
namespace Go.Proofs.Ytfldgaiiniknpaa
open Go.RowKit

/-- Room for so many steps more, and erasures. -/
structure JRm (s : FS) (m : Nat) : Prop where
  st : 0 ≤ s.steps ∧ s.steps + m ≤ 1000000000
  er : ∀ i, 0 ≤ s.er.getD i 0 ∧ s.er.getD i 0 + m ≤ 1000000000
theorem JRm.less {s : FS} {m k : Nat} (h : JRm s m) (hk : k ≤ m) : JRm s k := ⟨by have := h.st; omega, fun i => by have := h.er i; omega⟩
theorem JRm.room {s : FS} {m : Nat} (h : JRm s m) (k : Nat) (hk : k ≤ 900000000000) : Room s k := ⟨by have := h.st; omega, fun i => by have := h.er i; omega⟩
theorem JRm.prog {s : FS} {m : Nat} {zs : List Int} (h : JRm s (m + zs.length)) (f c : Nat) (a : Int) : JRm (s.gprog f c a zs).1 m := by
  have := gprog_more s f c a zs
  have h1 := h.st
  exact ⟨by omega, fun i => by rw [this.1]; have := h.er i; omega⟩
theorem JRm.erase {s : FS} {m : Nat} (h : JRm s (m + 1)) (f c : Nat) (k : Int) : JRm (s.gerase f c k).1 m := by
  unfold FS.gerase
  split
  · exact h.less (by omega)
  · split
    · exact h.less (by omega)
    · have := erase_more s (f + k)
      have h1 := h.st
      exact ⟨by omega, fun i => by have h2 := h.er i; have h3 := this.2.2 i; omega⟩
theorem JRm.lay {s : FS} {m : Nat} (h : JRm s (m + 1625)) (k : Int) (e : Nat) (b : List Int) (hb : b.length ≤ 1008) : JRm (layF s k e b).1 m := by
  have h1 : JRm (layE s k).1 (m + 1608) := by
    unfold layE
    split
    · exact JRm.erase (h.less (by omega)) _ _ _
    · exact h.less (by omega)
  have h2 : JRm (layP (layE s k) k b).1 (m + 600) := by
    unfold layP
    split
    · exact JRm.prog (h1.less (by omega)) _ _ _
    · exact h1.less (by omega)
  unfold layF layH
  split
  · exact JRm.prog (h2.less (by have := putL_le 1 ((e : Int) + 1) []; omega)) _ _ _
  · exact h2.less (by omega)
theorem JRm.cmp {s : FS} {m : Nat} (h : JRm s (m + 1625)) (j : JS) (recs : List Rec) : JRm (cmpF s j recs).1 m := by
  unfold cmpF
  split
  · exact h.less (by omega)
  · split
    · exact h.less (by omega)
    · split
      · exact h.less (by omega)
      · rename_i b hb
        have hl := packF_len _ _ _ (by decide) hb
        split
        · exact h.lay _ _ _ hl
        · exact h.lay _ _ _ hl
theorem JRm.app {s : FS} {m : Nat} (h : JRm s (m + 1625)) (j : JS) (kind : Int) (body : List Int) : JRm (appF s j kind body).1 m := by
  have hp := putL_le kind ((j.l.length : Int) + 1) body
  unfold appF
  split
  · exact h.less (by omega)
  · split
    · exact h.less (by omega)
    · split
      · exact h.less (by omega)
      · split
        · exact JRm.prog (h.less (by omega)) _ _ _
        · exact JRm.prog (h.less (by omega)) _ _ _
theorem JRm.boot {s : FS} {m : Nat} (h : JRm s m) : JRm s.bootF m := ⟨h.st, h.er⟩
theorem JRm.arm {s : FS} {m : Nat} (h : JRm s m) (a : Int) (ps : List Int) : JRm (s.armF a ps) m := by
  unfold FS.armF
  split
  · exact ⟨h.st, h.er⟩
  · exact ⟨h.st, h.er⟩
/-- What a journal that keeps is good for. -/
theorem Keep.ok {s : FS} {e : Nat} {c : Int} {l : List Rec} {T : List Int} (h : Keep s e c l T) : JOk (keptJ e c l T) := by
  rcases h with ⟨rfl, rfl, rfl, rfl, -⟩ | ⟨t, ht, rfl, hs, -⟩
  · exact ⟨by decide, (fun r hr => by cases hr), by decide, .inl rfl, by decide⟩
  · have hl := hs.ll
    unfold keptJ
    rw [if_neg (by omega)]
    refine ⟨?_, fun r hr => ?_, ?_, ?_, hs.e2⟩
    · show l.length ≤ 100000; omega
    · have h5 := (hs.gr r hr).fits.2.2.2.2
      show r.b.length ≤ 512; omega
    · show 16 + (pkL l).length ≤ 1024; omega
    · show ((t : Int) = -1 ∨ (t : Int) = 0 ∨ (t : Int) = 1); omega
/-- A journal that goes on, with power, no step to be cut, and room for m more calls. -/
structure Live (s : FS) (n e : Nat) (c : Int) (l : List Rec) (T : List Int) (m : Nat) : Prop where
  g : FG s n
  dark : s.dark = false
  left : s.left < 0
  keep : Keep s e c l T
  rm : JRm s (1625 * m)
theorem Live.less {s : FS} {n e : Nat} {c : Int} {l : List Rec} {T : List Int} {m k : Nat} (h : Live s n e c l T m) (hk : k ≤ m) : Live s n e c l T k :=
  ⟨h.g, h.dark, h.left, h.keep, h.rm.less (by omega)⟩
theorem newF_secB (n k : Nat) (hn : n ≤ 256) (hk : k < n) : secB (newF (n : Int)).b k = List.replicate 1024 255 := by
  unfold secB newF
  have e : (max 1 (min (n : Int) 256)).toNat = n := by omega
  simp only [e]
  rw [rep_drop, rep_take _ _ (by omega)]
theorem Live.new (n : Nat) (h2 : 2 ≤ n) (hn : n ≤ 256) : Live (newF (n : Int)) n 0 (-1) [] [] 100 := by
  have e : (max 1 (min (n : Int) 256)).toNat = n := by omega
  refine ⟨⟨?_, ?_, ?_, (fun z hz => by cases hz), h2⟩, rfl, (show (-1 : Int) < 0 by decide), .inl ⟨rfl, rfl, rfl, rfl, ?_, ?_⟩, ⟨?_, fun i => ?_⟩⟩
  · unfold newF; simp only [e, List.length_replicate]
  · unfold newF; simp only [e, List.length_replicate]
  · exact ff_byt _
  · rw [newF_secB n 0 hn (by omega)]; exact LowS.blank _
  · rw [newF_secB n 1 hn (by omega)]; exact LowS.blank _
  · show (0 : Int) ≤ 0 ∧ (0 : Int) + ((1625 * 100 : Nat) : Int) ≤ 1000000000
    decide
  · have : (newF (n : Int)).er.getD i 0 = 0 := by
      unfold newF
      by_cases hi : i < (max 1 (min (n : Int) 256)).toNat
      · simp [List.getD, hi]
      · simp [List.getD, hi]
    rw [this]; decide
/-- Compacting. -/
theorem Live.cmp {s : FS} {n e : Nat} {c : Int} {l : List Rec} {T : List Int} {m : Nat} (h : Live s n e c l T (m + 1)) (he : e + 1 ≤ 4294967295) (recs : List Rec) (hb : ∀ r ∈ recs, Byt r.b) :
    (packF [] (numR 0 recs) = none ∧ cmpF s (keptJ e c l T) recs = (s, keptJ e c l T, 1)) ∨
    (∃ s', packF [] (numR 0 recs) = some (pkL (numR 0 recs)) ∧ (∀ r ∈ numR 0 recs, GR r) ∧ (pkL (numR 0 recs)).length ≤ 1008 ∧
      cmpF s (keptJ e c l T) recs = (s', keptJ (e + 1) (nextZ c) (numR 0 recs) (blk (1008 - (pkL (numR 0 recs)).length)), 0) ∧
      Live s' n (e + 1) (nextZ c) (numR 0 recs) (blk (1008 - (pkL (numR 0 recs)).length)) m ∧
      s'.er = (if blankB (secB s.b (nextZ c).toNat) = true then s.er else s.er.set (nextZ c).toNat (s.er.getD (nextZ c).toNat 0 + 1)) ∧ (∀ o, o < n → o ≠ (nextZ c).toNat → secB s'.b o = secB s.b o)) := by
  rcases keep_cmp h.g h.dark h.keep he recs hb with a | ⟨s', a1, a2, a3, a4, ⟨b1, b2, b3, b4, b5, b6⟩ | ⟨-, b2, -⟩⟩
  · exact .inl a
  · have hr := JRm.cmp (m := 1625 * m) (h.rm.less (by omega)) (keptJ e c l T) recs
    rw [b1] at hr
    exact .inr ⟨s', a1, a2, a3, b1, ⟨a4, b2, b4.1 h.left, b3, hr⟩, b5, b6⟩
  · have := h.left; omega
/-- Appending. -/
theorem Live.app {s : FS} {n e : Nat} {c : Int} {l : List Rec} {T : List Int} {m : Nat} (h : Live s n e c l T (m + 1)) (kind : Int) (body : List Int) (hb : Byt body) :
    ((kind = 1 ∨ ¬ fitsR kind ((l.length : Int) + 1) body.length) ∧ appF s (keptJ e c l T) kind body = (s, keptJ e c l T, 1)) ∨
    (GR ⟨kind, (l.length : Int) + 1, body⟩ ∧ (keptJ e c l T).room < ((putL kind ((l.length : Int) + 1) body).length : Int) ∧ appF s (keptJ e c l T) kind body = (s, keptJ e c l T, 14)) ∨
    (∃ s', GR ⟨kind, (l.length : Int) + 1, body⟩ ∧ ((putL kind ((l.length : Int) + 1) body).length : Int) ≤ (keptJ e c l T).room ∧ T = blk (1008 - (pkL l).length) ∧ (pkL (l ++ [⟨kind, (l.length : Int) + 1, body⟩])).length ≤ 1008 ∧
      appF s (keptJ e c l T) kind body = (s', keptJ e c (l ++ [⟨kind, (l.length : Int) + 1, body⟩]) (blk (1008 - (pkL (l ++ [⟨kind, (l.length : Int) + 1, body⟩])).length)), 0) ∧
      Live s' n e c (l ++ [⟨kind, (l.length : Int) + 1, body⟩]) (blk (1008 - (pkL (l ++ [⟨kind, (l.length : Int) + 1, body⟩])).length)) m ∧ s'.er = s.er) := by
  rcases keep_app h.g h.dark h.keep kind body hb with a | a | ⟨s', a1, a2, a3, a4, a5, ⟨b1, b2, b3, b4, b5⟩ | ⟨-, b2, -⟩⟩
  · exact .inl a
  · exact .inr (.inl a)
  · have hr := JRm.app (m := 1625 * m) (h.rm.less (by omega)) (keptJ e c l T) kind body
    rw [b1] at hr
    exact .inr (.inr ⟨s', a1, a2, a3, a4, b1, ⟨a5, b2, b4.1 h.left, b3, hr⟩, b5⟩)
  · have := h.left; omega
end Go.Proofs.Ytfldgaiiniknpaa
