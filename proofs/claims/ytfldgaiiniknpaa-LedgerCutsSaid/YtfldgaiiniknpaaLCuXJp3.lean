
/- The plain law of a journal: a sector laid anew. -/
import Derived.Test.YtfldgaiiniknpaaLCuXJp2
namespace Go.Proofs.Ytfldgaiiniknpaa
open Go.RowKit

theorem gerase_out {s : FS} {n t : Nat} (h : FG s n) (hd : s.dark = false) (ht : t < 2) :
    ((s.gerase 0 2 t).2 = 0 ∧ (s.gerase 0 2 t).1.dark = false ∧ Beh s (s.gerase 0 2 t).1 n t ∧ secB (s.gerase 0 2 t).1.b t = List.replicate 1024 255 ∧ (s.gerase 0 2 t).1.er = s.er.set t (s.er.getD t 0 + 1) ∧ (s.left < 0 ↔ (s.gerase 0 2 t).1.left < 0)) ∨
    ((s.gerase 0 2 t).2 = 5 ∧ (s.gerase 0 2 t).1.dark = true ∧ Beh s (s.gerase 0 2 t).1 n t ∧ 0 ≤ s.left ∧ secB (s.gerase 0 2 t).1.b t = halfN (secB s.b t) s.pick) := by
  have htn : t < n := Nat.lt_of_lt_of_le ht h.n2
  have ea : (((0 : Nat) : Int) + (t : Int)) = (t : Int) := by omega
  have el := h.el
  have eE : s.gerase 0 2 t = s.eraseF t := by
    unfold FS.gerase
    rw [if_neg (by rw [hd]; decide), if_neg (by omega), ea]
  rw [eE]
  have hsl := secB_len h.bl htn
  by_cases h0 : s.left = 0
  · right
    have e : s.eraseF t = ({ (s.erased t).stepped with b := splice s.b (1024 * t) (halfN (secB s.b t) s.pick) }, 5) := by
      unfold FS.eraseF
      rw [if_neg (by rw [hd]; decide), if_neg (by omega), if_pos h0, Int.toNat_natCast]
      rfl
    rw [e]
    obtain ⟨c1, c2, c3⟩ := stepped_cut (s := s.erased t) h0
    have hX : (halfN (secB s.b t) s.pick).length = 1024 := by rw [halfN_length, hsl]
    obtain ⟨b1, b2⟩ := Beh.of (s' := { (s.erased t).stepped with b := splice s.b (1024 * t) (halfN (secB s.b t) s.pick) }) (p := 0) h htn rfl (by omega) (halfN_byte (h.byt.sec t) h.pk) (.inr c1) (by show (s.erased t).stepped.er.length = n; rw [c3]; show (s.er.set t _).length = n; rw [List.length_set]; exact el)
    refine ⟨rfl, c2, b1, by omega, b2.trans ?_⟩
    unfold splice
    rw [Nat.zero_add, hX, List.drop_eq_nil_of_le (by omega), List.take_zero, List.nil_append, List.append_nil]
  · left
    have e : s.eraseF t = ({ (s.erased t).stepped with b := splice s.b (1024 * t) (List.replicate 1024 255) }, 0) := by
      unfold FS.eraseF
      rw [if_neg (by rw [hd]; decide), if_neg (by omega), if_neg h0, Int.toNat_natCast]
    rw [e]
    obtain ⟨c1, c2, c3, c4⟩ := stepped_pass (s := s.erased t) h0
    obtain ⟨b1, b2⟩ := Beh.of (s' := { (s.erased t).stepped with b := splice s.b (1024 * t) (List.replicate 1024 255) }) (p := 0) (X := List.replicate 1024 255) h htn rfl (by rw [List.length_replicate]; omega) (fun z hz => by rw [List.eq_of_mem_replicate hz]; decide) (.inl c1) (by show (s.erased t).stepped.er.length = n; rw [c3]; show (s.er.set t _).length = n; rw [List.length_set]; exact el)
    refine ⟨rfl, c2.trans hd, b1, b2.trans ?_, c3, c4⟩
    unfold splice
    rw [Nat.zero_add, List.length_replicate, List.drop_eq_nil_of_le (by omega), List.take_zero, List.nil_append, List.append_nil]
theorem gblank_out {s : FS} {t : Nat} (hd : s.dark = false) (ht : t < 2) : s.gblank 0 2 t = (blankB (secB s.b t), 0) := by
  unfold FS.gblank
  rw [if_neg (by rw [hd]; decide), if_neg (by omega), Int.toNat_natCast, Nat.zero_add]
  rfl
theorem blankB_eq {zs : List Int} (h : blankB zs = true) : zs = List.replicate zs.length 255 := by
  have h := of_decide_eq_true h
  refine ext_getD (by rw [List.length_replicate]) fun i hi => ?_
  rw [h i hi]
  simp [List.getD, hi]
/-- A sector laid anew, whole. -/
def fullS (e : Nat) (b : List Int) : List Int := epoB e ++ (b ++ List.replicate (1008 - b.length) 255)
theorem rep_take (n k : Nat) (h : k ≤ n) : (List.replicate n (255 : Int)).take k = List.replicate k 255 := by rw [List.take_replicate, Nat.min_eq_left h]
theorem rep_drop (n k : Nat) : (List.replicate n (255 : Int)).drop k = List.replicate (n - k) 255 := by rw [List.drop_replicate]
theorem ff_byt (n : Nat) : Byt (List.replicate n 255) := fun z hz => by rw [List.eq_of_mem_replicate hz]; decide
theorem canN_append {a b c d : List Int} (h1 : canN a c = true) (h2 : canN b d = true) (ha : Byt a) (hb : Byt b) (hc : Byt c) (hd : Byt d) : canN (a ++ b) (c ++ d) = true := by
  have bt : ∀ {x y : List Int}, Byt x → Byt y → Byt (x ++ y) := fun hx hy z hz => (List.mem_append.1 hz).elim (hx z) (hy z)
  obtain ⟨l1, g1⟩ := (canN_iff ha hc).1 h1
  obtain ⟨l2, g2⟩ := (canN_iff hb hd).1 h2
  refine (canN_iff (bt ha hb) (bt hc hd)).2 ⟨by rw [List.length_append, List.length_append, l1, l2], fun i => ?_⟩
  by_cases hi : i < a.length
  · rw [getD_frontL _ _ i hi, getD_frontL _ _ i (by omega)]; exact g1 i
  · obtain ⟨j, rfl⟩ : ∃ j, i = a.length + j := ⟨i - a.length, by omega⟩
    rw [getD_back a b a.length j rfl, getD_back c d a.length j l1.symm]; exact g2 j
/-- What stands where the record of an epoch was broken off. -/
theorem head_cut {q i : Nat} (hq : q ≤ 4294967295) (hi : 8 * i < 16) {pk : List Int} (hp : Byt pk) (R : List Int) :
    canN (((epoB q).take (8 * i) ++ tornN (((List.replicate 16 (255 : Int) ++ R).drop (8 * i)).take 8) (((epoB q).drop (8 * i)).take 8) pk ++ List.replicate (8 - 8 * i) 255)) (epoB q) = true := by
  have bq := epoB_byte hq
  have lq := epoB_len hq
  have hb : Byt (((epoB q).drop (8 * i)).take 8) := fun z hz => bq z (List.mem_of_mem_drop (List.mem_of_mem_take hz))
  have hl8 : (((epoB q).drop (8 * i)).take 8).length = 8 := by rw [List.length_take, List.length_drop, lq]; omega
  have hd : ((List.replicate 16 (255 : Int) ++ R).drop (8 * i)).take 8 = List.replicate 8 255 := by
    rw [List.drop_append_of_le_length (by rw [List.length_replicate]; omega), rep_drop, List.take_append_of_le_length (by rw [List.length_replicate]; omega), rep_take _ _ (by omega)]
  rw [hd]
  have hc : canN (List.replicate 8 255) (((epoB q).drop (8 * i)).take 8) = true := by
    have := canN_ff _ hb
    rwa [hl8] at this
  have ht := canN_torn (ff_byt 8) hb hp hc
  have tb := tornN_byte (ff_byt 8) hb hp
  have e : epoB q = (epoB q).take (8 * i) ++ ((epoB q).drop (8 * i)).take 8 ++ (epoB q).drop (8 * i + 8) := by
    rw [List.append_assoc, ← List.drop_drop, List.take_append_drop, List.take_append_drop]
  have b1 : Byt ((epoB q).take (8 * i)) := fun z hz => bq z (List.mem_of_mem_take hz)
  have b3 : Byt ((epoB q).drop (8 * i + 8)) := fun z hz => bq z (List.mem_of_mem_drop hz)
  have l3 : ((epoB q).drop (8 * i + 8)).length = 8 - 8 * i := by rw [List.length_drop, lq]; omega
  have h3 : canN (List.replicate (8 - 8 * i) 255) ((epoB q).drop (8 * i + 8)) = true := by
    have := canN_ff _ b3
    rwa [l3] at this
  have bt : ∀ {x y : List Int}, Byt x → Byt y → Byt (x ++ y) := fun hx hy z hz => (List.mem_append.1 hz).elim (hx z) (hy z)
  have := canN_append (canN_append (canN_refl b1) ht b1 tb b1 hb) h3 (bt b1 tb) (ff_byt _) (bt b1 hb) b3
  rw [← e] at this
  exact this
/-- Everything that may become of a sector that is laid anew. -/
theorem lay_out {s : FS} {n t e : Nat} {b : List Int} (h : FG s n) (hd : s.dark = false) (ht : t < 2) (he : e + 1 ≤ 4294967295) (hb : Byt b) (hbl : b.length ≤ 1008) (hb8 : b.length % 8 = 0) :
    Beh s (layF s t e b).1 n t ∧
    (((layF s t e b).2 = 0 ∧ (layF s t e b).1.dark = false ∧ secB (layF s t e b).1.b t = fullS (e + 1) b ∧ (s.left < 0 ↔ (layF s t e b).1.left < 0) ∧ (layF s t e b).1.er = (if blankB (secB s.b t) = true then s.er else s.er.set t (s.er.getD t 0 + 1))) ∨
     ((layF s t e b).2 = 5 ∧ (layF s t e b).1.dark = true ∧ 0 ≤ s.left ∧ (secB (layF s t e b).1.b t = fullS (e + 1) b ∨ canN (secB (layF s t e b).1.b t) (secB s.b t) = true ∨ (canN ((secB (layF s t e b).1.b t).take 16) (epoB (e + 1)) = true ∧ (secB (layF s t e b).1.b t).take 16 ≠ epoB (e + 1))))) := by
  have htn : t < n := Nat.lt_of_lt_of_le ht h.n2
  have hE : layE s t = if blankB (secB s.b t) = false then s.gerase 0 2 t else (s, 0) := by
    unfold layE
    rw [gblank_out hd ht]
    by_cases q : blankB (secB s.b t) = false
    · rw [if_pos q, if_pos ⟨rfl, q⟩]
    · rw [if_neg q, if_neg (fun h => q h.2)]
  -- behind the erasure
  have P1 : (∃ s1 : FS, layE s t = (s1, 0) ∧ s1.dark = false ∧ Beh s s1 n t ∧ secB s1.b t = List.replicate 1024 255 ∧ (s.left < 0 ↔ s1.left < 0) ∧ s1.er = (if blankB (secB s.b t) = true then s.er else s.er.set t (s.er.getD t 0 + 1))) ∨
      (∃ s1 : FS, layE s t = (s1, 5) ∧ s1.dark = true ∧ Beh s s1 n t ∧ 0 ≤ s.left ∧ canN (secB s1.b t) (secB s.b t) = true) := by
    rw [hE]
    by_cases q : blankB (secB s.b t) = false
    · rw [if_pos q]
      rcases gerase_out h hd ht with ⟨a1, a2, a3, a4, a5, a6⟩ | ⟨a1, a2, a3, a4, a5⟩
      · exact .inl ⟨(s.gerase 0 2 t).1, Prod.ext rfl a1, a2, a3, a4, a6, by rw [if_neg (by rw [q]; decide)]; exact a5⟩
      · exact .inr ⟨(s.gerase 0 2 t).1, Prod.ext rfl a1, a2, a3, a4, by rw [a5]; exact canN_half (h.byt.sec t) h.pk⟩
    · have q' : blankB (secB s.b t) = true := by simpa using q
      rw [if_neg q, if_pos q']
      refine .inl ⟨s, rfl, hd, Beh.refl h, ?_, Iff.rfl, rfl⟩
      have := blankB_eq q'
      rwa [secB_len h.bl htn] at this
  unfold layF
  rcases P1 with ⟨s1, e1, d1, B1, c1, l1, er1⟩ | ⟨s1, e1, d1, B1, l1, c1⟩
  rotate_left
  · have e2 : layP (layE s t) t b = (s1, 5) := by rw [e1]; exact if_neg (show ¬ (5 : Int) = 0 by decide)
    have e3 : layH (s1, 5) t e = (s1, 5) := if_neg (show ¬ (5 : Int) = 0 by decide)
    rw [e2, e3]
    exact ⟨B1, .inr ⟨rfl, d1, l1, .inr (.inl c1)⟩⟩
  have e2 : layP (layE s t) t b = s1.gprog 0 2 ((t : Int) * 1024 + ((16 : Nat) : Int)) b := by rw [e1]; exact if_pos rfl
  rw [e2]
  have can1 : canN (((secB s1.b t).drop 16).take b.length) b = true := by
    rw [c1, rep_drop, rep_take _ _ (by omega)]
    exact canN_ff b hb
  have hq : e + 1 ≤ 4294967295 := he
  have bq := epoB_byte hq
  have lq := epoB_len hq
  -- behind the records
  rcases gprog_out B1.g d1 ht (show 16 + b.length ≤ 1024 by omega) (by decide) hb8 hb can1 with ⟨a1, a2, a3, a4, a5, a6⟩ | ⟨i, hi, a1, a2, a3, a5, a6⟩
  rotate_left
  · have e3 : layH (s1.gprog 0 2 ((t : Int) * 1024 + ((16 : Nat) : Int)) b) t e = s1.gprog 0 2 ((t : Int) * 1024 + ((16 : Nat) : Int)) b := if_neg (by rw [a1]; decide)
    rw [e3]
    refine ⟨B1.trans a3, .inr ⟨a1, a2, by omega, .inr (.inr ?_)⟩⟩
    have t16 : (secB (s1.gprog 0 2 ((t : Int) * 1024 + ((16 : Nat) : Int)) b).1.b t).take 16 = List.replicate 16 255 := by
      rw [a6, c1]
      unfold splice
      rw [rep_take _ _ (by omega), List.take_append_of_le_length (by rw [List.length_replicate]; omega), List.take_of_length_le (by rw [List.length_replicate]; omega)]
    rw [t16]
    refine ⟨by have := canN_ff _ bq; rwa [lq] at this, fun hh => ?_⟩
    have h0 : (List.replicate 16 (255 : Int)).getD 0 0 = (epoB (e + 1)).getD 0 0 := by rw [hh]
    rw [epoB_eq hq] at h0
    exact absurd (show (255 : Int) = 1 from h0) (by decide)
  have hs2 : secB (s1.gprog 0 2 ((t : Int) * 1024 + ((16 : Nat) : Int)) b).1.b t = List.replicate 16 255 ++ (b ++ List.replicate (1008 - b.length) 255) := by
    rw [a4, c1]
    unfold splice
    rw [rep_take _ _ (by omega), rep_drop, show 1024 - (16 + b.length) = 1008 - b.length by omega]
  obtain ⟨s2, hs2e⟩ : ∃ x, (s1.gprog 0 2 ((t : Int) * 1024 + ((16 : Nat) : Int)) b).1 = x := ⟨_, rfl⟩
  have ePair : s1.gprog 0 2 ((t : Int) * 1024 + ((16 : Nat) : Int)) b = (s2, 0) := Prod.ext hs2e a1
  rw [ePair] at a2 a3 a5 a6 hs2 ⊢
  dsimp only at a2 a3 a5 a6 hs2
  have B2 := B1.trans a3
  have e3 : layH (s2, 0) t e = s2.gprog 0 2 ((t : Int) * 1024 + ((0 : Nat) : Int)) (epoB (e + 1)) := by
    have : layH (s2, 0) t e = s2.gprog 0 2 ((t : Int) * 1024) (putL 1 ((e : Int) + 1) []) := if_pos rfl
    rw [this]
    show _ = s2.gprog 0 2 ((t : Int) * 1024 + ((0 : Nat) : Int)) (putL 1 ((e + 1 : Nat) : Int) [])
    rw [show ((e + 1 : Nat) : Int) = (e : Int) + 1 by omega, show ((t : Int) * 1024 + ((0 : Nat) : Int)) = (t : Int) * 1024 by omega]
  rw [e3]
  have can2 : canN (((secB s2.b t).drop 0).take (epoB (e + 1)).length) (epoB (e + 1)) = true := by
    rw [hs2, List.drop_zero, lq, List.take_append_of_le_length (by rw [List.length_replicate]; omega), List.take_of_length_le (by rw [List.length_replicate]; omega)]
    have := canN_ff _ bq
    rwa [lq] at this
  rcases gprog_out a3.g a2 ht (show 0 + (epoB (e + 1)).length ≤ 1024 by omega) (by decide) (by rw [lq]) bq can2 with ⟨b1, b2, b3, b4, b5, b6⟩ | ⟨i, hi, b1, b2, b3, b5, b6⟩
  · refine ⟨B2.trans b3, .inl ⟨b1, b2, ?_, l1.trans (a6.trans b6), b5.trans (a5.trans er1)⟩⟩
    rw [b4, hs2]
    unfold splice fullS
    rw [List.take_zero, List.nil_append, Nat.zero_add, lq, List.drop_append_of_le_length (by rw [List.length_replicate]; omega), rep_drop]
    rfl
  · have lt := l1
    rw [lq] at hi
    refine ⟨B2.trans b3, .inr ⟨b1, b2, by omega, ?_⟩⟩
    have hcut := head_cut hq hi a3.g.pk (b ++ List.replicate (1008 - b.length) 255)
    have hwl : (((epoB (e + 1)).drop (8 * i)).take 8).length = 8 := by rw [List.length_take, List.length_drop, lq]; omega
    have hdd : ((List.replicate 16 (255 : Int) ++ (b ++ List.replicate (1008 - b.length) 255)).drop (8 * i)).take 8 = List.replicate 8 255 := by
      rw [List.drop_append_of_le_length (by rw [List.length_replicate]; omega), rep_drop, List.take_append_of_le_length (by rw [List.length_replicate]; omega), rep_take _ _ (by omega)]
    have hcan8 : canN (List.replicate 8 255) (((epoB (e + 1)).drop (8 * i)).take 8) = true := by
      have := canN_ff (((epoB (e + 1)).drop (8 * i)).take 8) (fun z hz => bq z (List.mem_of_mem_drop (List.mem_of_mem_take hz)))
      rwa [hwl] at this
    rw [hs2, Nat.zero_add, hdd] at b6
    rw [hdd] at hcut
    have htl : (tornN (List.replicate 8 255) (((epoB (e + 1)).drop (8 * i)).take 8) s2.pick).length = 8 := by
      unfold tornN; rw [if_pos hcan8, tornTo_length, hwl]
    have hfl : ((epoB (e + 1)).take (8 * i) ++ tornN (List.replicate 8 255) (((epoB (e + 1)).drop (8 * i)).take 8) s2.pick).length = 8 * i + 8 := by
      rw [List.length_append, htl, List.length_take, lq]; omega
    have hsec : secB (s2.gprog 0 2 ((t : Int) * 1024 + ((0 : Nat) : Int)) (epoB (e + 1))).1.b t = ((epoB (e + 1)).take (8 * i) ++ tornN (List.replicate 8 255) (((epoB (e + 1)).drop (8 * i)).take 8) s2.pick ++ List.replicate (8 - 8 * i) 255) ++ (b ++ List.replicate (1008 - b.length) 255) := by
      rw [b6]
      unfold splice
      rw [List.take_zero, List.nil_append, Nat.zero_add, hfl, List.drop_append_of_le_length (by rw [List.length_replicate]; omega), rep_drop, show 16 - (8 * i + 8) = 8 - 8 * i by omega, ← List.append_assoc]
    have hl16 : ((epoB (e + 1)).take (8 * i) ++ tornN (List.replicate 8 255) (((epoB (e + 1)).drop (8 * i)).take 8) s2.pick ++ List.replicate (8 - 8 * i) 255).length = 16 := by
      rw [List.length_append, hfl, List.length_replicate]; omega
    obtain ⟨H, hH⟩ : ∃ H, (epoB (e + 1)).take (8 * i) ++ tornN (List.replicate 8 255) (((epoB (e + 1)).drop (8 * i)).take 8) s2.pick ++ List.replicate (8 - 8 * i) 255 = H := ⟨_, rfl⟩
    rw [hH] at hsec hcut hl16
    have ht16 : (secB (s2.gprog 0 2 ((t : Int) * 1024 + ((0 : Nat) : Int)) (epoB (e + 1))).1.b t).take 16 = H := by rw [hsec]; exact List.take_left' hl16
    rw [ht16]
    by_cases heq : H = epoB (e + 1)
    · left
      rw [hsec, heq]
      rfl
    · exact .inr (.inr ⟨hcut, heq⟩)
end Go.Proofs.Ytfldgaiiniknpaa
