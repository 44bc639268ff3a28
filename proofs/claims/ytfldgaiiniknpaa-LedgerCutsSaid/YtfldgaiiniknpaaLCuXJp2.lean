
/- The plain law of a journal: what becomes of a sector that is laid anew, with power and without. -/
import Derived.Test.YtfldgaiiniknpaaLCue
namespace Go.Proofs.Ytfldgaiiniknpaa
open Go.RowKit

theorem tornN_le (os ns ps : List Int) : (tornN os ns ps).length ≤ ns.length := by
  unfold tornN
  split
  · rw [tornTo_length]; exact Nat.le_refl _
  · exact Nat.zero_le _
theorem stepped_pass {s : FS} (h : ¬ s.left = 0) : s.stepped.pick = s.pick ∧ s.stepped.dark = s.dark ∧ s.stepped.er = s.er ∧ (s.left < 0 ↔ s.stepped.left < 0) := by
  unfold FS.stepped
  rw [if_neg h]
  split
  · rename_i h2
    exact ⟨rfl, rfl, rfl, ⟨fun _ => h2, fun _ => h2⟩⟩
  · refine ⟨rfl, rfl, rfl, ⟨fun h1 => by omega, fun h1 => by have h1 : s.left - 1 < 0 := h1; omega⟩⟩
theorem stepped_cut {s : FS} (h : s.left = 0) : s.stepped.pick = [] ∧ s.stepped.dark = true ∧ s.stepped.er = s.er := by
  unfold FS.stepped
  rw [if_neg (by omega), if_pos h]
  exact ⟨rfl, rfl, rfl⟩
theorem progW_out : ∀ (k : Nat) (s : FS) (p : Nat) (ws : List Int), ws.length = 8 * k → p + 8 * k ≤ s.b.length →
    ((progW k s p ws).2 = 0 ∧ (progW k s p ws).1.b = splice s.b p ws ∧ (progW k s p ws).1.dark = s.dark ∧ (progW k s p ws).1.pick = s.pick ∧ (progW k s p ws).1.er = s.er ∧ (s.left < 0 ↔ (progW k s p ws).1.left < 0)) ∨
    (∃ i, i < k ∧ (progW k s p ws).2 = 5 ∧ (progW k s p ws).1.dark = true ∧ (progW k s p ws).1.pick = [] ∧ (progW k s p ws).1.er = s.er ∧ 0 ≤ s.left ∧
      (progW k s p ws).1.b = splice s.b p (ws.take (8 * i) ++ tornN ((s.b.drop (p + 8 * i)).take 8) ((ws.drop (8 * i)).take 8) s.pick))
  | 0, s, p, ws, hw, _ => by
    have : ws = [] := List.eq_nil_of_length_eq_zero (by omega)
    subst this
    exact .inl ⟨rfl, by rw [splice_empty]; rfl, rfl, rfl, rfl, Iff.rfl⟩
  | k + 1, s, p, ws, hw, hp => by
    have h8 : (ws.take 8).length = 8 := by rw [List.length_take]; omega
    by_cases h0 : s.left = 0
    · refine .inr ⟨0, Nat.succ_pos _, ?_⟩
      obtain ⟨c1, c2, c3⟩ := stepped_cut h0
      have e : progW (k + 1) s p ws = ({ s.stepped with b := splice s.b p (tornN ((s.b.drop p).take 8) (ws.take 8) s.pick) }, 5) := if_pos h0
      rw [e]
      exact ⟨rfl, c2, c1, c3, by omega, by simp⟩
    · obtain ⟨c1, c2, c3, c4⟩ := stepped_pass h0
      have e : progW (k + 1) s p ws = progW k { s.stepped with b := splice s.b p (ws.take 8) } (p + 8) (ws.drop 8) := if_neg h0
      have hl : (splice s.b p (ws.take 8)).length = s.b.length := splice_len _ _ _ (by omega)
      have ih := progW_out k { s.stepped with b := splice s.b p (ws.take 8) } (p + 8) (ws.drop 8) (by rw [List.length_drop]; omega) (by show _ ≤ (splice s.b p (ws.take 8)).length; rw [hl]; omega)
      rw [← e] at ih
      dsimp only at ih
      rw [c1, c2, c3] at ih
      rcases ih with ⟨i1, i2, i3, i4, i5, i6⟩ | ⟨i, hi, i2, i3, i4, i5, i6, i7⟩
      · refine .inl ⟨i1, ?_, i3, i4, i5, c4.trans i6⟩
        rw [i2]
        have := splice_splice s.b (ws.take 8) (ws.drop 8) p (by rw [h8, List.length_drop]; omega)
        rw [h8, List.take_append_drop] at this
        exact this
      · refine .inr ⟨i + 1, by omega, i2, i3, i4, i5, by have := c4; omega, ?_⟩
        rw [i7]
        have hd : (splice s.b p (ws.take 8)).drop (p + 8 + 8 * i) = s.b.drop (p + 8 * (i + 1)) := by
          rw [splice_drop _ _ _ _ (by omega) (by omega)]
          congr 1; omega
        rw [hd]
        have hY : ((ws.drop 8).take (8 * i) ++ tornN ((s.b.drop (p + 8 * (i + 1))).take 8) (((ws.drop 8).drop (8 * i)).take 8) s.pick).length ≤ 8 * (i + 1) := by
          rw [List.length_append]
          have h1 := tornN_le ((s.b.drop (p + 8 * (i + 1))).take 8) (((ws.drop 8).drop (8 * i)).take 8) s.pick
          have h2 : (((ws.drop 8).drop (8 * i)).take 8).length ≤ 8 := by rw [List.length_take]; omega
          have h3 : ((ws.drop 8).take (8 * i)).length ≤ 8 * i := by rw [List.length_take]; omega
          omega
        have := splice_splice s.b (ws.take 8) ((ws.drop 8).take (8 * i) ++ tornN ((s.b.drop (p + 8 * (i + 1))).take 8) (((ws.drop 8).drop (8 * i)).take 8) s.pick) p (by rw [h8]; omega)
        rw [h8] at this
        rw [this, ← List.append_assoc]
        congr 2
        · rw [show 8 * (i + 1) = 8 + 8 * i by omega, List.take_add]
        · rw [List.drop_drop]
          congr 2
          congr 1
          omega
/-- What is good of a flash: n sectors of bytes. -/
structure FG (s : FS) (n : Nat) : Prop where
  bl : s.b.length = 1024 * n
  el : s.er.length = n
  byt : Byt s.b
  pk : Byt s.pick
  n2 : 2 ≤ n
def secB (b : List Int) (k : Nat) : List Int := (b.drop (1024 * k)).take 1024
theorem secB_len {b : List Int} {n k : Nat} (hb : b.length = 1024 * n) (hk : k < n) : (secB b k).length = 1024 := by
  unfold secB; rw [List.length_take, List.length_drop]
  have : 1024 * k + 1024 ≤ 1024 * n := by omega
  omega
theorem Byt.sec {b : List Int} (h : Byt b) (k : Nat) : Byt (secB b k) := fun z hz => h z (List.mem_of_mem_drop (List.mem_of_mem_take hz))
theorem getD_secB (b : List Int) (k i : Nat) (hi : i < 1024) : (secB b k).getD i 0 = b.getD (1024 * k + i) 0 := by
  simp [secB, List.getD, List.getElem?_take, hi, List.getElem?_drop]
theorem ext_getD {l m : List Int} (hl : l.length = m.length) (h : ∀ i, i < l.length → l.getD i 0 = m.getD i 0) : l = m := by
  apply List.ext_getElem hl
  intro i h1 h2
  have := h i h1
  simpa [List.getD, h1, h2] using this
theorem secB_splice_in {b X : List Int} {n k p : Nat} (hb : b.length = 1024 * n) (hk : k < n) (hp : p + X.length ≤ 1024) : secB (splice b (1024 * k + p) X) k = splice (secB b k) p X := by
  have h1 : 1024 * k + 1024 ≤ 1024 * n := by omega
  have hl : 1024 * k + p + X.length ≤ b.length := by omega
  have hbl : (splice b (1024 * k + p) X).length = 1024 * n := by rw [splice_len _ _ _ hl]; exact hb
  have hs := secB_len hb hk
  refine ext_getD (by rw [secB_len hbl hk, splice_len _ _ _ (by omega), hs]) fun i hi => ?_
  rw [secB_len hbl hk] at hi
  rw [getD_secB _ _ _ hi, splice_getD _ _ _ hl, splice_getD _ _ _ (by omega), getD_secB _ _ _ hi]
  by_cases q : p ≤ i ∧ i < p + X.length
  · rw [if_pos q, if_pos (by omega)]
    congr 1; omega
  · rw [if_neg q, if_neg (by omega)]
theorem secB_splice_out {b X : List Int} {n k o p : Nat} (hb : b.length = 1024 * n) (hk : k < n) (ho : o < n) (hne : o ≠ k) (hp : p + X.length ≤ 1024) : secB (splice b (1024 * k + p) X) o = secB b o := by
  have h1 : 1024 * k + 1024 ≤ 1024 * n := by omega
  have hl : 1024 * k + p + X.length ≤ b.length := by omega
  have hbl : (splice b (1024 * k + p) X).length = 1024 * n := by rw [splice_len _ _ _ hl]; exact hb
  refine ext_getD (by rw [secB_len hbl ho, secB_len hb ho]) fun i hi => ?_
  rw [secB_len hbl ho] at hi
  rw [getD_secB _ _ _ hi, splice_getD _ _ _ hl, getD_secB _ _ _ hi, if_neg (by omega)]
/-- A flash behind a call on sector t: the others are as they were. -/
structure Beh (s s' : FS) (n t : Nat) : Prop where
  g : FG s' n
  o : ∀ o, o < n → o ≠ t → secB s'.b o = secB s.b o
theorem Beh.refl {s : FS} {n t : Nat} (h : FG s n) : Beh s s n t := ⟨h, fun _ _ _ => rfl⟩
theorem Beh.trans {s s' s'' : FS} {n t : Nat} (h : Beh s s' n t) (k : Beh s' s'' n t) : Beh s s'' n t := ⟨k.g, fun o ho hne => (k.o o ho hne).trans (h.o o ho hne)⟩
theorem Beh.of {s s' : FS} {n t p : Nat} {X : List Int} (h : FG s n) (ht : t < n) (hb : s'.b = splice s.b (1024 * t + p) X) (hp : p + X.length ≤ 1024) (hX : Byt X) (hpk : s'.pick = s.pick ∨ s'.pick = []) (he : s'.er.length = n) : Beh s s' n t ∧ secB s'.b t = splice (secB s.b t) p X := by
  have h1 : 1024 * t + 1024 ≤ 1024 * n := by omega
  have hl : 1024 * t + p + X.length ≤ s.b.length := by rw [h.bl]; omega
  refine ⟨⟨⟨by rw [hb, splice_len _ _ _ hl, h.bl], he, by rw [hb]; exact splice_byte h.byt hX, ?_, h.n2⟩, fun o ho hne => by rw [hb]; exact secB_splice_out h.bl ht ho hne hp⟩, by rw [hb]; exact secB_splice_in h.bl ht hp⟩
  rcases hpk with e | e
  · rw [e]; exact h.pk
  · rw [e]; exact fun z hz => by cases hz
/-- Words programmed where they can be. -/
theorem gprog_out {s : FS} {n t p : Nat} {ws : List Int} (h : FG s n) (hd : s.dark = false) (ht : t < 2) (hp : p + ws.length ≤ 1024) (h8 : p % 8 = 0) (hw8 : ws.length % 8 = 0) (hw : Byt ws) (hc : canN (((secB s.b t).drop p).take ws.length) ws = true) :
    ((s.gprog 0 2 ((t : Int) * 1024 + p) ws).2 = 0 ∧ (s.gprog 0 2 ((t : Int) * 1024 + p) ws).1.dark = false ∧ Beh s (s.gprog 0 2 ((t : Int) * 1024 + p) ws).1 n t ∧ secB (s.gprog 0 2 ((t : Int) * 1024 + p) ws).1.b t = splice (secB s.b t) p ws ∧ (s.gprog 0 2 ((t : Int) * 1024 + p) ws).1.er = s.er ∧ (s.left < 0 ↔ (s.gprog 0 2 ((t : Int) * 1024 + p) ws).1.left < 0)) ∨
    (∃ i, 8 * i < ws.length ∧ (s.gprog 0 2 ((t : Int) * 1024 + p) ws).2 = 5 ∧ (s.gprog 0 2 ((t : Int) * 1024 + p) ws).1.dark = true ∧ Beh s (s.gprog 0 2 ((t : Int) * 1024 + p) ws).1 n t ∧ 0 ≤ s.left ∧
      secB (s.gprog 0 2 ((t : Int) * 1024 + p) ws).1.b t = splice (secB s.b t) p (ws.take (8 * i) ++ tornN (((secB s.b t).drop (p + 8 * i)).take 8) ((ws.drop (8 * i)).take 8) s.pick)) := by
  have htn : t < n := Nat.lt_of_lt_of_le ht h.n2
  have hn : 1024 * t + 1024 ≤ s.b.length := by rw [h.bl]; omega
  have w1 : withinB ((t : Int) * 1024 + p) ws.length (1024 * 2 : Nat) = true := decide_eq_true (by omega)
  have ea : (1024 * ((0 : Nat) : Int) + ((t : Int) * 1024 + p)) = ((1024 * t + p : Nat) : Int) := by omega
  have w2 : withinB ((1024 * t + p : Nat) : Int) ws.length s.b.length = true := decide_eq_true (by omega)
  have hdrop : ∀ q m, q + m ≤ 1024 → ((secB s.b t).drop q).take m = (s.b.drop (1024 * t + q)).take m := fun q m hq => by
    unfold secB
    rw [List.drop_take, List.take_take, List.drop_drop, Nat.min_eq_left (by omega)]
  have eP : s.gprog 0 2 ((t : Int) * 1024 + p) ws = progW (ws.length / 8) s (1024 * t + p) ws := by
    unfold FS.gprog
    rw [if_neg (by rw [hd]; decide), if_pos w1, ea]
    unfold FS.progF
    rw [if_neg (by rw [hd]; decide), if_neg (by rw [w2]; decide), if_neg (by omega), Int.toNat_natCast, if_neg (by rw [← hdrop p ws.length hp, hc]; decide)]
  rw [eP]
  have e8 : 8 * (ws.length / 8) = ws.length := by omega
  rcases progW_out (ws.length / 8) s (1024 * t + p) ws e8.symm (by omega) with ⟨a1, a2, a3, a4, a5, a6⟩ | ⟨i, hi, a1, a2, a3, a4, a5, a6⟩
  · obtain ⟨b1, b2⟩ := Beh.of h htn a2 hp hw (.inl a4) (by rw [a5]; exact h.el)
    exact .inl ⟨a1, a3.trans hd, b1, b2, a5, a6⟩
  · have hi8 : 8 * i + 8 ≤ ws.length := by omega
    rw [show 1024 * t + p + 8 * i = 1024 * t + (p + 8 * i) by omega, ← hdrop (p + 8 * i) 8 (by omega)] at a6
    have hX : Byt (ws.take (8 * i) ++ tornN (((secB s.b t).drop (p + 8 * i)).take 8) ((ws.drop (8 * i)).take 8) s.pick) := by
      intro z hz
      rcases List.mem_append.1 hz with hz | hz
      · exact hw z (List.mem_of_mem_take hz)
      · exact tornN_byte (fun z hz => (h.byt.sec t) z (List.mem_of_mem_drop (List.mem_of_mem_take hz))) (fun z hz => hw z (List.mem_of_mem_drop (List.mem_of_mem_take hz))) h.pk z hz
    have hXl : p + (ws.take (8 * i) ++ tornN (((secB s.b t).drop (p + 8 * i)).take 8) ((ws.drop (8 * i)).take 8) s.pick).length ≤ 1024 := by
      rw [List.length_append]
      have h1 := tornN_le (((secB s.b t).drop (p + 8 * i)).take 8) ((ws.drop (8 * i)).take 8) s.pick
      rw [List.length_take, List.length_drop] at h1
      rw [List.length_take]
      omega
    obtain ⟨b1, b2⟩ := Beh.of h htn a6 hXl hX (.inr a3) (by rw [a4]; exact h.el)
    exact .inr ⟨i, by omega, a1, a2, b1, a5, b2⟩
end Go.Proofs.Ytfldgaiiniknpaa
