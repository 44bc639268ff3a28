
/- JournalCuts: where power goes while a record is appended. The plain law. -/
import Derived.Test.YtfldgaiiniknpaaLCuXJl3
namespace Go.Proofs.Ytfldgaiiniknpaa
open Go.RowKit

theorem packF_of : ∀ (rs : List Rec) (out : List Int), (∀ r ∈ rs, GR r) → out.length + (pkL rs).length ≤ 1008 → packF out rs = some (out ++ pkL rs)
  | [], out, _, _ => by simp [packF, pkL]
  | r :: rs, out, h, hl => by
    have h1 := h r List.mem_cons_self
    have h2 := h1.ge
    simp only [pkL, List.length_append] at hl
    unfold packF
    rw [if_neg (by
      rintro (h3 | h3 | h3)
      · exact h1.k1 h3
      · omega
      · omega), packF_of rs (out ++ r.put) (fun x hx => h x (List.mem_cons_of_mem _ hx)) (by rw [List.length_append]; omega), List.append_assoc]
    rfl
theorem numR_append : ∀ (xs ys : List Rec) (i : Nat), numR i (xs ++ ys) = numR i xs ++ numR (i + xs.length) ys
  | [], ys, i => by simp [numR]
  | x :: xs, ys, i => by
    simp only [List.cons_append, numR, numR_append xs ys (i + 1), List.length_cons]
    rw [show i + 1 + xs.length = i + (xs.length + 1) by omega]
theorem numR_push {l : List Rec} (h : numR 0 l = l) (kind : Int) (body : List Int) : numR 0 (l ++ [⟨kind, (l.length : Int) + 1, body⟩]) = l ++ [⟨kind, (l.length : Int) + 1, body⟩] := by
  rw [numR_append, h, Nat.zero_add]
  simp [numR]
theorem Keep.boot {s : FS} {e : Nat} {c : Int} {l : List Rec} {T : List Int} (h : Keep s e c l T) : Keep s.bootF e c l T := h
theorem Keep.good {s : FS} {n e : Nat} {c : Int} {l : List Rec} {T : List Int} (h : Keep s e c l T) : (∀ r ∈ l, GR r) ∧ (pkL l).length ≤ 1008 := by
  rcases h with ⟨rfl, rfl, rfl, rfl, -⟩ | ⟨t, ht, rfl, hs, -⟩
  · exact ⟨fun r hr => (by cases hr), Nat.zero_le _⟩
  · exact ⟨hs.gr, by have := hs.ll.2; omega⟩
theorem Live.boot {s : FS} {n e : Nat} {c : Int} {l : List Rec} {T : List Int} {m : Nat} (g : FG s n) (k : Keep s.bootF e c l T) (rm : JRm s (1625 * m)) : Live s.bootF n e c l T m :=
  ⟨g.boot, rfl, (show (-1 : Int) < 0 by decide), k, rm.boot⟩
theorem FG.arm {s : FS} {n : Nat} (h : FG s n) (a : Int) {ps : List Int} (hp : Byt ps) : FG (s.armF a ps) n := by
  unfold FS.armF
  split
  · exact ⟨h.bl, h.el, h.byt, (fun z hz => by cases hz), h.n2⟩
  · exact ⟨h.bl, h.el, h.byt, hp, h.n2⟩
theorem armF_b (s : FS) (a : Int) (ps : List Int) : (s.armF a ps).b = s.b ∧ (s.armF a ps).dark = s.dark := by unfold FS.armF; split <;> exact ⟨rfl, rfl⟩
theorem Keep.arm {s : FS} {e : Nat} {c : Int} {l : List Rec} {T : List Int} (h : Keep s e c l T) (a : Int) (ps : List Int) : Keep (s.armF a ps) e c l T := by
  unfold Keep
  rw [(armF_b s a ps).1]
  exact h
/-- Appending where power goes. -/
theorem cut_app {s : FS} {n e : Nat} {c : Int} {l : List Rec} {T : List Int} {m : Nat} (h : Live s n e c l T (m + 1)) (a : Int) {ps : List Int} (hp : Byt ps) {kind : Int} {body : List Int} (hb : Byt body) (hf : kind ≠ 1 ∧ fitsR kind ((l.length : Int) + 1) body.length) :
    ∃ s' j' er l' T', appF (s.armF a ps) (keptJ e c l T) kind body = (s', j', er) ∧ FG s' n ∧ Live s'.bootF n e c l' T' m ∧ (l' = l ∧ er ≠ 0 ∨ l' = l ++ [⟨kind, (l.length : Int) + 1, body⟩]) := by
  have hr := JRm.app (m := 1625 * m) ((h.rm.arm a ps).less (by omega)) (keptJ e c l T) kind body
  have hg := h.g.arm a hp
  have hk := h.keep.arm a ps
  rcases keep_app hg (by rw [(armF_b s a ps).2]; exact h.dark) hk kind body hb with ⟨h1, -⟩ | ⟨-, -, h1⟩ | ⟨s', -, -, -, -, g', ⟨b1, -, b3, -, -⟩ | ⟨b1, -, ⟨T', b3⟩ | b3⟩⟩
  · rcases h1 with h1 | h1
    · exact absurd h1 hf.1
    · exact absurd hf.2 h1
  · rw [h1] at hr
    exact ⟨_, _, _, l, T, h1, hg, Live.boot hg hk.boot hr, .inl ⟨rfl, by decide⟩⟩
  · rw [b1] at hr
    exact ⟨_, _, _, _, _, b1, g', Live.boot g' b3.boot hr, .inr rfl⟩
  · rw [b1] at hr
    exact ⟨_, _, _, l, T', b1, g', Live.boot g' b3 hr, .inl ⟨rfl, by decide⟩⟩
  · rw [b1] at hr
    exact ⟨_, _, _, _, _, b1, g', Live.boot g' b3 hr, .inr rfl⟩
/-- The journal's own records, compacted. -/
theorem own_cmp {s : FS} {n e : Nat} {c : Int} {l : List Rec} {T : List Int} {m : Nat} (h : Live s n e c l T (m + 1)) (he : e + 1 ≤ 4294967295) (hn : numR 0 l = l) :
    ∃ s', cmpF s (keptJ e c l T) l = (s', keptJ (e + 1) (nextZ c) l (blk (1008 - (pkL l).length)), 0) ∧ Live s' n (e + 1) (nextZ c) l (blk (1008 - (pkL l).length)) m := by
  obtain ⟨g1, g2⟩ := h.keep.good (n := n)
  rcases h.cmp he l (fun r hr => (g1 r hr).byt) with ⟨h1, -⟩ | ⟨s', -, -, -, h1, h2, -⟩
  · rw [hn, packF_of l [] g1 (by simpa using g2)] at h1
    cases h1
  · rw [hn] at h1 h2
    exact ⟨s', h1, h2⟩
end Go.Proofs.Ytfldgaiiniknpaa
