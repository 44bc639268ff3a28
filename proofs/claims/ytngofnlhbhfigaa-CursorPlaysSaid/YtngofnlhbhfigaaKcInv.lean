/- What holds while bytes are written by a cursor over a whole flash. -/
import Derived.Test.YtngofnlhbhfigaaKcLaw
namespace Go.Proofs.Ytngofnlhbhfigaa
open Go.RowKit

section
variable (c N : Nat) (ok : Nat → Int → Prop) (D b0 er0 : Nat → Int) (r0 : Nat)
structure KCore (s : FS) (k : KS) (u : Nat) : Prop where
  nrm : Nrm c s
  len : k.word.length = 8
  word : ∀ i, i < k.n → k.word.getD i 0 = D (k.at_ - k.n + i)
  na : k.n ≤ k.at_
  u1 : k.at_ - k.n ≤ u
  u2 : u ≤ k.at_
  low : ∀ i, i < u → s.b.getD i 0 = D i
  mid : ∀ i, u ≤ i → i < 1024 * k.ready → ok i (s.b.getD i 0)
  up : ∀ i, 1024 * k.ready ≤ i → s.b.getD i 0 = b0 i
  ur : u ≤ 1024 * k.ready
  rc : k.ready ≤ c
  rr : r0 ≤ k.ready
  er : ∀ x, s.er.getD x 0 = er0 x + if r0 ≤ x ∧ x < k.ready ∧ nbF b0 x = true then 1 else 0
  rd : r0 = 0 → k.ready = if u = 0 then 0 else min c ((u - 1) / 1024 + 2)
structure KInv (s : FS) (k : KS) (u : Nat) : Prop where
  core : KCore c ok D b0 er0 r0 s k u
  err : k.err = 0
  n : k.n = k.at_ % 8
end
theorem full_getD {k : KS} (hl : k.word.length = 8) (hn : k.n ≤ 8) (i : Nat) (hi : i < 8) : k.full.getD i 0 = if i < k.n then k.word.getD i 0 else 255 := by
  unfold KS.full
  have hb : (blankN 8) = List.replicate 8 255 := rfl
  have ht : (k.word.take k.n).length = k.n := by rw [List.length_take, hl]; omega
  rw [splice_getD _ _ _ (by rw [ht, hb, List.length_replicate]; omega), ht]
  by_cases q : i < k.n
  · rw [if_pos (by omega), if_pos q]
    simp [List.getD, List.getElem?_take, q]
  · rw [if_neg (by omega), if_neg q, hb, rep_getD _ _ hi]
section
variable {c N : Nat} {ok : Nat → Int → Prop} {D b0 er0 : Nat → Int} {r0 : Nat}
variable (hD : ∀ i, 0 ≤ D i ∧ D i ≤ 255) (ok255 : ∀ i, ok i 255) (okD : ∀ i z, i < N → ok i z → canB z (D i))
include hD ok255 okD
theorem core_prog {s : FS} {k : KS} {u : Nat} (h : KCore c ok D b0 er0 r0 s k u) (hN : k.at_ ≤ N) (h1 : 1 ≤ k.n) (h8 : k.n ≤ 8) (ha : (k.at_ - k.n) % 8 = 0) (hc : k.at_ - k.n + 8 ≤ 1024 * c)
    (hfl : ∀ i z, k.at_ ≤ i → i < k.at_ - k.n + 8 → ok i z → canB z 255) :
    ∃ s' r', progK 0 c s k = (s', { k with ready := r', err := 0 }, 0) ∧ KCore c ok D b0 er0 r0 s' { k with ready := r', err := 0 } k.at_ := by
  obtain ⟨a, n, wd, r, e⟩ := k
  have hna := h.na
  have hu1 := h.u1
  have hu2 := h.u2
  have hur := h.ur
  have hrc := h.rc
  have hrr := h.rr
  have hrd := h.rd
  simp only [] at hN h1 h8 ha hc hfl hna hu1 hu2 hur hrc hrr hrd
  obtain ⟨fr, hfr⟩ : ∃ x, a - n = x := ⟨_, rfl⟩
  obtain ⟨sec, hsec⟩ : ∃ x, fr / 1024 = x := ⟨_, rfl⟩
  obtain ⟨s1, e1, N1, B1, E1⟩ := prep_nrm c sec (c - r) s r h.nrm (by omega)
  obtain ⟨r', hr'⟩ : ∃ x, max r (min c (sec + 2)) = x := ⟨_, rfl⟩
  rw [hr'] at e1 B1 E1
  rw [hfr] at ha hc hfl hu1
  have hfull := fun i hi => full_getD (k := { at_ := a, n := n, word := wd, ready := r, err := e }) h.len h8 i hi
  have hfl8 : ({ at_ := a, n := n, word := wd, ready := r, err := e } : KS).full.length = 8 := KS.full_len h.len h8
  have hwd := h.word
  simp only [hfr] at hfull hwd
  have hpk : progK 0 c s { at_ := a, n := n, word := wd, ready := r, err := e } = ((s1.gprog 0 c fr ({ at_ := a, n := n, word := wd, ready := r, err := e } : KS).full).1, { at_ := a, n := n, word := wd, ready := r', err := (s1.gprog 0 c fr ({ at_ := a, n := n, word := wd, ready := r, err := e } : KS).full).2 }, (s1.gprog 0 c fr ({ at_ := a, n := n, word := wd, ready := r, err := e } : KS).full).2) := by
    unfold progK prepK
    simp only [hfr, hsec, e1]
    rfl
  generalize ({ at_ := a, n := n, word := wd, ready := r, err := e } : KS).full = full at *
  have hr9 : fr + 8 ≤ 1024 * r' := by omega
  have hrr' : r ≤ r' := by omega
  have hrc' : r' ≤ c := by omega
  have hcan : ∀ i, i < 8 → canB (s1.b.getD (fr + i) 0) (full.getD i 0) := fun i hi => by
    rw [B1, hfull i hi]
    by_cases q : i < n
    · rw [if_pos q, hwd i q]
      by_cases q2 : 1024 * r ≤ fr + i ∧ fr + i < 1024 * r'
      · rw [if_pos q2]; exact canB_255 (hD _)
      · rw [if_neg q2]
        by_cases q3 : fr + i < u
        · rw [h.low _ q3]; exact canB_self (hD _)
        · exact okD _ _ (by omega) (h.mid _ (by omega) (by show fr + i < 1024 * r; omega))
    · rw [if_neg q]
      by_cases q2 : 1024 * r ≤ fr + i ∧ fr + i < 1024 * r'
      · rw [if_pos q2]; exact canB_255 ⟨by decide, by decide⟩
      · rw [if_neg q2]
        exact hfl (fr + i) _ (by omega) (by omega) (h.mid _ (by omega) (by show fr + i < 1024 * r; omega))
  have hp := prog_nrm N1 hfl8 ha hc hcan
  rw [hp] at hpk
  refine ⟨_, r', hpk, ?_⟩
  have hb2 : ∀ i, (splice s1.b fr full).getD i 0 = if fr ≤ i ∧ i < fr + 8 then full.getD (i - fr) 0 else if 1024 * r ≤ i ∧ i < 1024 * r' then 255 else s.b.getD i 0 := fun i => by
    rw [splice_getD _ _ _ (by rw [N1.bl, hfl8]; omega), hfl8]
    by_cases q : fr ≤ i ∧ i < fr + 8
    · rw [if_pos q, if_pos q]
    · rw [if_neg q, if_neg q, B1]
  refine ⟨⟨N1.dark, N1.left, by show (splice _ _ _).length = _; rw [splice_len _ _ _ (by rw [N1.bl, hfl8]; omega)]; exact N1.bl, N1.el⟩, h.len, h.word, h.na, by show a - n ≤ a; omega, Nat.le_refl _, fun i hi => ?_, fun i hi hi2 => ?_, fun i hi => ?_, by show a ≤ 1024 * r'; omega, hrc', Nat.le_trans hrr hrr', fun x => ?_, fun h0 => ?_⟩
  · show (splice s1.b fr full).getD i 0 = D i
    have hia : i < a := hi
    rw [hb2]
    by_cases q : fr ≤ i ∧ i < fr + 8
    · rw [if_pos q, hfull _ (by omega), if_pos (by omega), hwd _ (by omega)]
      congr 1; omega
    · rw [if_neg q, if_neg (by omega)]
      exact h.low i (by omega)
  · show ok i ((splice s1.b fr full).getD i 0)
    have hia : a ≤ i := hi
    have hi2' : i < 1024 * r' := hi2
    rw [hb2]
    by_cases q : fr ≤ i ∧ i < fr + 8
    · rw [if_pos q, hfull _ (by omega), if_neg (by omega)]; exact ok255 i
    · rw [if_neg q]
      by_cases q2 : 1024 * r ≤ i ∧ i < 1024 * r'
      · rw [if_pos q2]; exact ok255 i
      · rw [if_neg q2]
        exact h.mid i (by omega) (by show i < 1024 * r; omega)
  · show (splice s1.b fr full).getD i 0 = b0 i
    have hi2' : 1024 * r' ≤ i := hi
    rw [hb2, if_neg (by omega), if_neg (by omega)]
    exact h.up i (by show 1024 * r ≤ i; omega)
  · show s1.er.getD x 0 = er0 x + if r0 ≤ x ∧ x < r' ∧ nbF b0 x = true then 1 else 0
    have he : s.er.getD x 0 = er0 x + if r0 ≤ x ∧ x < r ∧ nbF b0 x = true then 1 else 0 := h.er x
    rw [E1, he]
    by_cases q : r ≤ x
    · have hnb : nbF (fun i => s.b.getD i 0) x = nbF b0 x := nbF_congr fun i hi => h.up _ (by show 1024 * r ≤ _; omega)
      rw [hnb, if_neg (by omega)]
      by_cases q2 : x < r' ∧ nbF b0 x = true
      · rw [if_pos ⟨q, q2⟩, if_pos ⟨by omega, q2⟩]; omega
      · rw [if_neg (fun hh => q2 hh.2), if_neg (fun hh => q2 hh.2)]; omega
    · have e2 : (if r ≤ x ∧ x < r' ∧ nbF (fun i => s.b.getD i 0) x = true then (1 : Int) else 0) = 0 := if_neg (fun hh => q hh.1)
      rw [e2, Int.add_zero]
      by_cases q2 : r0 ≤ x ∧ x < r ∧ nbF b0 x = true
      · rw [if_pos q2, if_pos ⟨q2.1, by omega, q2.2.2⟩]
      · rw [if_neg q2, if_neg (fun hh => q2 ⟨hh.1, by omega, hh.2.2⟩)]
  · show r' = if a = 0 then 0 else min c ((a - 1) / 1024 + 2)
    have hr0 : r = if u = 0 then 0 else min c ((u - 1) / 1024 + 2) := hrd h0
    rw [if_neg (by omega)]
    have hse : (a - 1) / 1024 = sec := by omega
    rw [hse, ← hr']
    by_cases q : u = 0
    · rw [if_pos q] at hr0; omega
    · rw [if_neg q] at hr0
      have : (u - 1) / 1024 ≤ sec := by omega
      omega

theorem put_inv {s : FS} {k : KS} {u : Nat} {z : Int} (h : KInv c ok D b0 er0 r0 s k u) (hN : k.at_ < N) (hc : N ≤ 1024 * c) (hz : z = D k.at_) :
    ∃ s' k' u', putK 0 c s k z = (s', k', 0) ∧ KInv c ok D b0 er0 r0 s' k' u' ∧ k'.at_ = k.at_ + 1 := by
  have hn := h.n
  have hC := h.core
  have hl : (k.word.set k.n z).length = 8 := by rw [List.length_set]; exact hC.len
  have hw : ∀ i, i < k.n + 1 → (k.word.set k.n z).getD i 0 = D (k.at_ + 1 - (k.n + 1) + i) := fun i hi => by
    have e : k.at_ + 1 - (k.n + 1) = k.at_ - k.n := by omega
    rw [e]
    by_cases q : i = k.n
    · subst q
      rw [getD_set_self _ _ _ (by rw [hC.len]; omega), hz]
      congr 1; have := hC.na; omega
    · have : (k.word.set k.n z).getD i 0 = k.word.getD i 0 := by simp [List.getD, List.getElem?_set, show ¬ k.n = i from fun x => q x.symm]
      rw [this]; exact hC.word i (by omega)
  have hu1 := hC.u1
  have hu2 := hC.u2
  have hna := hC.na
  have hG : KCore c ok D b0 er0 r0 s (k.got z) u := ⟨hC.nrm, hl, hw, by show k.n + 1 ≤ k.at_ + 1; omega, by show k.at_ + 1 - (k.n + 1) ≤ u; omega, by show u ≤ k.at_ + 1; omega, hC.low, hC.mid, hC.up, hC.ur, hC.rc, hC.rr, hC.er, hC.rd⟩
  by_cases q : k.n + 1 < 8
  · refine ⟨s, k.got z, u, putK_free q, ⟨hG, h.err, by show k.n + 1 = (k.at_ + 1) % 8; omega⟩, rfl⟩
  · have hn7 : k.n = 7 := by omega
    obtain ⟨s', r', h1, h2⟩ := core_prog hD ok255 okD hG (by show k.at_ + 1 ≤ N; omega) (by show 1 ≤ k.n + 1; omega) (by show k.n + 1 ≤ 8; omega) (by show (k.at_ + 1 - (k.n + 1)) % 8 = 0; omega) (by show k.at_ + 1 - (k.n + 1) + 8 ≤ 1024 * c; omega)
      (fun i z h1 h2 => by have h1' : k.at_ + 1 ≤ i := h1; have h2' : i < k.at_ + 1 - (k.n + 1) + 8 := h2; omega)
    refine ⟨s', { k.got z with ready := r', err := 0, n := 0 }, k.at_ + 1, ?_, ⟨⟨h2.nrm, h2.len, fun i hi => absurd hi (Nat.not_lt_zero i), Nat.zero_le _, Nat.le_refl _, Nat.le_refl _, h2.low, h2.mid, h2.up, h2.ur, h2.rc, h2.rr, h2.er, h2.rd⟩, rfl, by show 0 = (k.at_ + 1) % 8; omega⟩, rfl⟩
    rw [putK_full q, h1, if_pos rfl]
theorem row_inv : ∀ (zs : List Int) (s : FS) (k : KS) (u : Nat), KInv c ok D b0 er0 r0 s k u → k.at_ + zs.length ≤ N → N ≤ 1024 * c → (∀ i, i < zs.length → zs.getD i 0 = D (k.at_ + i)) →
    ∃ s' k' u', rowK 0 c zs s k = (s', k', 0) ∧ KInv c ok D b0 er0 r0 s' k' u' ∧ k'.at_ = k.at_ + zs.length
  | [], s, k, u, h, _, _, _ => ⟨s, k, u, rfl, h, rfl⟩
  | z :: zs, s, k, u, h, hN, hc, hz => by
    have hN' : k.at_ + (zs.length + 1) ≤ N := hN
    obtain ⟨s1, k1, u1, h1, h2, h3⟩ := put_inv hD ok255 okD h (by omega) hc (show z = D k.at_ from hz 0 (by simp))
    obtain ⟨s2, k2, u2, g1, g2, g3⟩ := row_inv zs s1 k1 u1 h2 (by omega) hc (fun i hi => by
      have := hz (i + 1) (by simp; omega)
      rw [h3, Nat.add_assoc, Nat.add_comm 1 i]; exact this)
    refine ⟨s2, k2, u2, ?_, g2, by rw [g3, h3]; show _ = k.at_ + (zs.length + 1); omega⟩
    rw [rowK_cons, h1, if_neg (by simp), g1]
theorem write_inv {s : FS} {k : KS} {u : Nat} {zs : List Int} (h : KInv c ok D b0 er0 r0 s k u) (hN : k.at_ + zs.length ≤ N) (hc : N ≤ 1024 * c) (hz : ∀ i, i < zs.length → zs.getD i 0 = D (k.at_ + i)) :
    ∃ s' k' u', writeK 0 c s k zs = (s', k', 0) ∧ KInv c ok D b0 er0 r0 s' k' u' ∧ k'.at_ = k.at_ + zs.length := by
  unfold writeK
  rw [if_neg (by rw [h.err]; simp), if_neg (by omega)]
  exact row_inv hD ok255 okD zs s k u h hN hc hz
theorem flush_inv {s : FS} {k : KS} {u : Nat} (h : KInv c ok D b0 er0 r0 s k u) (hN : k.at_ ≤ N) (hc : N ≤ 1024 * c) (hfl : ∀ i z, k.at_ ≤ i → ok i z → canB z 255) :
    ∃ s' k', flushK 0 c s k = (s', k', 0) ∧ KInv c ok D b0 er0 r0 s' k' k.at_ ∧ k'.at_ = k.at_ := by
  have hn := h.n
  have hC := h.core
  have hna := hC.na
  have hu1 := hC.u1
  have hu2 := hC.u2
  unfold flushK
  by_cases q : k.n = 0
  · rw [if_pos (.inr q), h.err]
    have hu : u = k.at_ := by omega
    rw [← hu]
    exact ⟨s, k, rfl, h, hu.symm⟩
  · rw [if_neg (by rintro (e | e); exact e h.err; exact q e)]
    obtain ⟨s', r', h1, h2⟩ := core_prog hD ok255 okD hC hN (by omega) (by omega) (by omega) (by omega) (fun i z h1 _ => hfl i z h1)
    exact ⟨s', _, h1, ⟨h2, rfl, hn⟩, rfl⟩
end
end Go.Proofs.Ytngofnlhbhfigaa
