/- What a cursor over a whole flash lays, in plain words. -/
import Derived.Test.YtngofnlhbhfigaaKc4
namespace Go.Proofs.Ytngofnlhbhfigaa
open Go.RowKit

def canB (o n : Int) : Prop := bits .andNot .u8 n o = 0
theorem canB_255 {n : Int} (h : 0 ≤ n ∧ n ≤ 255) : canB 255 n := by
  have := andNot255 ⟨n.toNat, by omega⟩
  unfold canB
  have e : ((n.toNat : Nat) : Int) = n := by omega
  rw [← e]; exact this
theorem andNotSelf : ∀ n : Fin 256, bits .andNot .u8 (n : Int) (n : Int) = 0 := by decide +kernel
theorem canB_self {n : Int} (h : 0 ≤ n ∧ n ≤ 255) : canB n n := by
  have := andNotSelf ⟨n.toNat, by omega⟩
  unfold canB
  have e : ((n.toNat : Nat) : Int) = n := by omega
  rw [← e]; exact this

/-- A flash of c sectors with power, in which no step is to be broken. -/
structure Nrm (c : Nat) (s : FS) : Prop where
  dark : s.dark = false
  left : s.left < 0
  bl : s.b.length = 1024 * c
  el : s.er.length = c
open Classical in
/-- Does a sector hold a byte that is not blank? -/
noncomputable def nbF (b : Nat → Int) (x : Nat) : Bool := !decide (∀ i, i < 1024 → b (1024 * x + i) = 255)
theorem nbF_false {b : Nat → Int} {x : Nat} (h : nbF b x = false) : ∀ i, i < 1024 → b (1024 * x + i) = 255 := by
  unfold nbF at h
  exact of_decide_eq_true (by simpa using h)
theorem nbF_congr {b b' : Nat → Int} {x : Nat} (h : ∀ i, i < 1024 → b (1024 * x + i) = b' (1024 * x + i)) : nbF b x = nbF b' x := by
  unfold nbF
  congr 1
  apply decide_eq_decide.2
  exact ⟨fun g i hi => (h i hi).symm.trans (g i hi), fun g i hi => (h i hi).trans (g i hi)⟩
theorem cut_getD (b : List Int) (a n i : Nat) (h : i < n) : ((b.drop a).take n).getD i 0 = b.getD (a + i) 0 := by
  simp [List.getD, List.getElem?_take, h]
theorem blank_nb {c : Nat} {s : FS} (h : Nrm c s) {x : Nat} (hx : x < c) : blankB ((s.b.drop (1024 * x)).take 1024) = !nbF (fun i => s.b.getD i 0) x := by
  have hl : ((s.b.drop (1024 * x)).take 1024).length = 1024 := by rw [List.length_take, List.length_drop, h.bl]; omega
  unfold blankB nbF
  rw [hl, Bool.not_not]
  apply decide_eq_decide.2
  exact ⟨fun g i hi => (cut_getD _ _ _ _ hi).symm.trans (g i hi), fun g i hi => (cut_getD _ _ _ _ hi).trans (g i hi)⟩
theorem gblank_nrm {c : Nat} {s : FS} (h : Nrm c s) {r : Nat} (hr : r < c) : s.gblank 0 c r = (!nbF (fun i => s.b.getD i 0) r, 0) := by
  unfold FS.gblank
  rw [if_neg (by rw [h.dark]; decide), if_neg (by omega), Nat.zero_add, Int.toNat_natCast, blank_nb h hr]
theorem gerase_nrm {c : Nat} {s : FS} (h : Nrm c s) {r : Nat} (hr : r < c) :
    s.gerase 0 c r = ({ s with b := splice s.b (1024 * r) (List.replicate 1024 255), er := s.er.set r (s.er.getD r 0 + 1), steps := s.steps + 1 }, 0) := by
  unfold FS.gerase
  rw [if_neg (by rw [h.dark]; decide), if_neg (by omega)]
  have e : (((0 : Nat) : Int) + (r : Int)) = r := by omega
  rw [e]
  unfold FS.eraseF
  have hl := h.left
  rw [if_neg (by rw [h.dark]; decide), if_neg (by rw [h.el]; omega), if_neg (by omega), Int.toNat_natCast]
  rw [show (s.erased r).stepped = { s.erased r with steps := s.steps + 1 } from stepped_free hl]
  rfl
theorem er_set (l : List Int) (r x : Nat) (v : Int) (hr : r < l.length) : (l.set r v).getD x 0 = if x = r then v else l.getD x 0 := by
  by_cases e : x = r
  · subst e; rw [if_pos rfl, getD_set_self _ _ _ hr]
  · rw [if_neg e]; simp [List.getD, List.getElem?_set, show ¬ r = x from fun h => e h.symm]
theorem rep_getD (n i : Nat) (h : i < n) : (List.replicate n (255 : Int)).getD i 0 = 255 := by
  rw [getD_get 0 (by simpa using h), List.getElem_replicate]

/-- The sectors that are made ready. -/
theorem prep_nrm (c sector : Nat) : ∀ (j : Nat) (s : FS) (r : Nat), Nrm c s → r + j = c →
    ∃ s', prepF 0 c sector j s r = (s', max r (min c (sector + 2)), 0) ∧ Nrm c s' ∧ (∀ i, s'.b.getD i 0 = if 1024 * r ≤ i ∧ i < 1024 * max r (min c (sector + 2)) then 255 else s.b.getD i 0)
      ∧ (∀ x, s'.er.getD x 0 = s.er.getD x 0 + if r ≤ x ∧ x < max r (min c (sector + 2)) ∧ nbF (fun i => s.b.getD i 0) x = true then 1 else 0)
  | 0, s, r, h, hj => ⟨s, by rw [show max r (min c (sector + 2)) = r by omega]; rfl, h, fun i => by rw [if_neg (by omega)], fun x => by rw [if_neg (by omega)]; omega⟩
  | j + 1, s, r, h, hj => by
    have hr : r < c := by omega
    unfold prepF
    by_cases g : r ≤ sector + 1
    · rw [if_pos g, gblank_nrm h hr, if_neg (by simp)]
      have hm : max (r + 1) (min c (sector + 2)) = max r (min c (sector + 2)) := by omega
      have hm1 : r < max r (min c (sector + 2)) := by omega
      cases hb : nbF (fun i => s.b.getD i 0) r with
      | false =>
        obtain ⟨s', h1, h2, h3, h4⟩ := prep_nrm c sector j s (r + 1) h (by omega)
        rw [hm] at h1 h3 h4
        refine ⟨s', by simpa using h1, h2, fun i => ?_, fun x => ?_⟩
        · rw [h3]
          by_cases q : 1024 * r ≤ i ∧ i < 1024 * max r (min c (sector + 2))
          · rw [if_pos q]
            by_cases q2 : 1024 * (r + 1) ≤ i
            · rw [if_pos ⟨q2, q.2⟩]
            · rw [if_neg (by omega)]
              obtain ⟨d, rfl⟩ : ∃ d, i = 1024 * r + d := ⟨i - 1024 * r, by omega⟩
              exact nbF_false hb d (by omega)
          · rw [if_neg q, if_neg (by omega)]
        · rw [h4]
          by_cases q : r ≤ x ∧ x < max r (min c (sector + 2)) ∧ nbF (fun i => s.b.getD i 0) x = true
          · have : x ≠ r := fun e => by subst e; rw [hb] at q; exact absurd q.2.2 (by decide)
            rw [if_pos q, if_pos ⟨by omega, q.2⟩]
          · rw [if_neg q, if_neg (fun h => q ⟨by omega, h.2⟩)]
      | true =>
        have hN : Nrm c (s.gerase 0 c r).1 := by
          rw [gerase_nrm h hr]
          exact ⟨h.dark, h.left, by show (splice _ _ _).length = _; rw [splice_len _ _ _ (by rw [h.bl, List.length_replicate]; omega)]; exact h.bl, by show (s.er.set _ _).length = c; rw [List.length_set]; exact h.el⟩
        obtain ⟨s', h1, h2, h3, h4⟩ := prep_nrm c sector j (s.gerase 0 c r).1 (r + 1) hN (by omega)
        have hb2 : ∀ i, (s.gerase 0 c r).1.b.getD i 0 = if 1024 * r ≤ i ∧ i < 1024 * (r + 1) then 255 else s.b.getD i 0 := fun i => by
          rw [gerase_nrm h hr]
          show (splice s.b (1024 * r) (List.replicate 1024 255)).getD i 0 = _
          rw [splice_getD _ _ _ (by rw [h.bl, List.length_replicate]; omega), List.length_replicate]
          by_cases q : 1024 * r ≤ i ∧ i < 1024 * r + 1024
          · rw [if_pos q, if_pos (by omega), rep_getD _ _ (by omega)]
          · rw [if_neg q, if_neg (by omega)]
        have he2 : ∀ x, (s.gerase 0 c r).1.er.getD x 0 = s.er.getD x 0 + if x = r then 1 else 0 := fun x => by
          rw [gerase_nrm h hr]
          show (s.er.set r (s.er.getD r 0 + 1)).getD x 0 = _
          rw [er_set _ _ _ _ (by rw [h.el]; exact hr)]
          by_cases q : x = r
          · subst q; rw [if_pos rfl, if_pos rfl]
          · rw [if_neg q, if_neg q, Int.add_zero]
        have hn2 : ∀ x, r + 1 ≤ x → nbF (fun i => (s.gerase 0 c r).1.b.getD i 0) x = nbF (fun i => s.b.getD i 0) x := fun x hx => by
          exact nbF_congr fun i hi => by rw [hb2, if_neg (by omega)]
        rw [hm] at h1 h3 h4
        have hz : (s.gerase 0 c r).2 = 0 := by rw [gerase_nrm h hr]
        rw [hz]
        refine ⟨s', by simpa using h1, h2, fun i => ?_, fun x => ?_⟩
        · rw [h3, hb2]
          by_cases q : 1024 * r ≤ i ∧ i < 1024 * max r (min c (sector + 2))
          · rw [if_pos q]
            by_cases q2 : 1024 * (r + 1) ≤ i
            · rw [if_pos ⟨q2, q.2⟩]
            · rw [if_neg (by omega), if_pos (by omega)]
          · rw [if_neg q, if_neg (by omega), if_neg (by omega)]
        · rw [h4, he2]
          by_cases e : x = r
          · subst e
            rw [if_pos rfl, if_neg (by omega), if_pos ⟨Nat.le_refl _, hm1, hb⟩]; omega
          · rw [if_neg e]
            by_cases q : r ≤ x ∧ x < max r (min c (sector + 2)) ∧ nbF (fun i => s.b.getD i 0) x = true
            · rw [if_pos q, if_pos ⟨by omega, q.2.1, by rw [hn2 x (by omega)]; exact q.2.2⟩]; omega
            · rw [if_neg q, if_neg (fun h => q ⟨by omega, h.2.1, by rw [← hn2 x (by omega)]; exact h.2.2⟩)]; omega
    · rw [if_neg g]
      exact ⟨s, by rw [show max r (min c (sector + 2)) = r by omega], h, fun i => by rw [if_neg (by omega)], fun x => by rw [if_neg (by omega)]; omega⟩

/-- A word that is programmed. -/
theorem prog_nrm {c : Nat} {s : FS} (h : Nrm c s) {a : Nat} {full : List Int} (hf : full.length = 8) (ha : a % 8 = 0) (hb : a + 8 ≤ 1024 * c) (hc : ∀ i, i < 8 → canB (s.b.getD (a + i) 0) (full.getD i 0)) :
    s.gprog 0 c a full = ({ s with b := splice s.b a full, steps := s.steps + 1 }, 0) := by
  unfold FS.gprog
  have hw : withinB a full.length (1024 * c : Nat) = true := decide_eq_true ⟨by omega, by omega, by omega, by omega⟩
  rw [if_neg (by rw [h.dark]; decide), if_pos hw]
  have e : (1024 * ((0 : Nat) : Int) + (a : Int)) = a := by omega
  rw [e]
  refine prog_free (K := 1) h.dark h.left (by omega) ha (by rw [h.bl]; omega) ?_
  apply decide_eq_true
  have hl : ((s.b.drop a).take full.length).length = 8 := by rw [List.length_take, List.length_drop, h.bl, hf]; omega
  refine ⟨by rw [hl, hf], fun i hi => ?_⟩
  rw [hl] at hi
  rw [cut_getD _ _ _ _ (by omega)]
  exact hc i hi
end Go.Proofs.Ytngofnlhbhfigaa
