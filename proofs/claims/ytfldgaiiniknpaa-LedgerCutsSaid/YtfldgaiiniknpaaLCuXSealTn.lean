
/- The plain law of a record that was broken off. -/
import Derived.Test.YtfldgaiiniknpaaLCub
namespace Go.Proofs.Ytfldgaiiniknpaa
open Go.RowKit

theorem tailL_len (F : List Int) : (tailL F).length = 8 := by simp [tailL, le4]
/-- What a read record has behind it. -/
theorem get_some {xs bl : List Int} {k s n : Int} (h : getL xs = some (k, s, bl, n)) :
    n = sizeZ (xs.getD 2 0 + xs.getD 3 0 * 256) ∧ 16 ≤ n ∧ n ≤ xs.length ∧ ∃ F, xs.take n.toNat = F ++ tailL F ∧ n = F.length + 8 := by
  unfold getL at h
  split at h
  · cases h
  · simp only at h
    split at h
    · cases h
    · rename_i h1 h2
      split at h
      · rename_i h3
        simp only [Option.some.injEq, Prod.mk.injEq] at h
        obtain ⟨e1, e2, e3, e4⟩ := h
        rw [e1, e2, e3, e4] at h3
        have hn0 : n ≠ 0 := by rw [← e4]; exact fun e => h2 (.inl e)
        have hle : n ≤ xs.length := by rw [← e4]; exact Int.not_lt.1 fun e => h2 (.inr e)
        have hsz : n = 16 + ((xs.getD 2 0 + xs.getD 3 0 * 256) + 7) / 8 * 8 ∧ 0 ≤ xs.getD 2 0 + xs.getD 3 0 * 256 := by
          unfold sizeZ at e4
          split at e4
          · omega
          · constructor <;> omega
        refine ⟨e4.symm, by omega, hle, ?_⟩
        have hl := congrArg List.length h3
        rw [List.length_take] at hl
        by_cases hf : fitsR k s bl.length
        · have hp : putL k s bl = frontL k s bl ++ tailL (frontL k s bl) := if_pos hf
          refine ⟨frontL k s bl, by rw [← h3, hp], ?_⟩
          rw [hp, List.length_append, tailL_len] at hl
          omega
        · have hp : putL k s bl = [] := if_neg hf
          rw [hp] at hl
          simp at hl
          omega
      · cases h
theorem tailL_byte {F : List Int} (hF : ∀ z ∈ F, 0 ≤ z ∧ z ≤ 255) : ∀ z ∈ tailL F, 0 ≤ z ∧ z ≤ 255 := by
  have h1 : sumOf F < 4294967296 := crcOf_lt (natL_lt hF)
  have h2 : sumOf F ^^^ 4294967295 < 2 ^ 32 := Nat.xor_lt_two_pow (by omega) (by decide)
  intro z hz
  rcases List.mem_append.1 hz with hz | hz
  · exact le4_byte _ h1 z hz
  · exact le4_byte _ (by omega) z hz
theorem tail_ff (F : List Int) (h : ∀ i, i < 8 → (tailL F).getD i 0 = 255) : False := by
  have a0 := h 0 (by decide)
  have a1 := h 1 (by decide)
  have a2 := h 2 (by decide)
  have a3 := h 3 (by decide)
  have a4 := h 4 (by decide)
  have a5 := h 5 (by decide)
  have a6 := h 6 (by decide)
  have a7 := h 7 (by decide)
  simp only [tailL, le4, List.cons_append, List.nil_append, List.getD_cons_zero, List.getD_cons_succ] at a0 a1 a2 a3 a4 a5 a6 a7
  have hx : sumOf F = 4294967295 := by omega
  rw [hx] at a4
  exact absurd a4 (by decide)
theorem get_ff {xs : List Int} (h : ∀ n, n = sizeZ (xs.getD 2 0 + xs.getD 3 0 * 256) → 16 ≤ n → n ≤ xs.length → ∀ i, i < 8 → xs.getD (n.toNat - 8 + i) 0 = 255) : getL xs = none := by
  cases hg : getL xs with
  | none => rfl
  | some r =>
    exfalso
    obtain ⟨k, s, bl, n⟩ := r
    obtain ⟨h1, h2, h3, F, h4, h5⟩ := get_some hg
    refine tail_ff F fun i hi => ?_
    rw [← h n h1 h2 h3 i hi]
    have e : n.toNat - 8 = F.length := by omega
    have : xs.getD (F.length + i) 0 = (xs.take n.toNat).getD (F.length + i) 0 := by
      simp only [List.getD, List.getElem?_take]
      rw [if_pos (by omega)]
    rw [e, this, h4]
    simp [List.getD, List.getElem?_append_right (show F.length ≤ F.length + i by omega)]
/-- What is left of a broken record. -/
theorem get_torn (k s : Int) (zs : List Int) (hf : fitsR k s zs.length) (w : Nat) (hw : 8 * w + 8 ≤ (putL k s zs).length) (t : List Int) (ht : t.length = 8) (m : Nat) (hm : (putL k s zs).length ≤ 8 * w + 8 + m)
    (hne : ((putL k s zs).take (8 * w) ++ t ++ List.replicate m 255).take (putL k s zs).length ≠ putL k s zs) :
    getL ((putL k s zs).take (8 * w) ++ t ++ List.replicate m 255) = none := by
  have hlen := putL_len k s zs hf
  have hco := putL_cons k s zs [] hf
  rw [List.append_nil] at hco
  have h5 := hf.2.2.2.2
  have hs : sizeZ zs.length = 16 + ((zs.length : Int) + 7) / 8 * 8 := if_neg (by omega)
  have hn : ((zs.length : Int) % 256) + ((zs.length : Int) / 256) * 256 = zs.length := by omega
  have hq : ((s.toNat : Int) % 256) + ((s.toNat : Int) / 256 % 256) * 256 + ((s.toNat : Int) / 65536 % 256) * 65536 + ((s.toNat : Int) / 16777216) * 16777216 = s := by
    obtain ⟨f1, f2, f3, f4, f5⟩ := hf; omega
  have hA : ((putL k s zs).take (8 * w)).length = 8 * w := by rw [List.length_take]; omega
  have hlow : ∀ i, i < 8 * w → ((putL k s zs).take (8 * w) ++ t ++ List.replicate m 255).getD i 0 = (putL k s zs).getD i 0 := by
    intro i hi
    simp only [List.getD]
    rw [List.getElem?_append_left (by rw [List.length_append]; omega), List.getElem?_append_left (by omega), List.getElem?_take, if_pos hi]
  have hhigh : ∀ i, 8 * w + 8 ≤ i → i < 8 * w + 8 + m → ((putL k s zs).take (8 * w) ++ t ++ List.replicate m 255).getD i 0 = 255 := by
    intro i hi hi2
    simp only [List.getD]
    rw [List.getElem?_append_right (by rw [List.length_append]; omega), List.getElem?_replicate, if_pos (by rw [List.length_append]; omega)]
    rfl
  have hXl : ((putL k s zs).take (8 * w) ++ t ++ List.replicate m 255).length = 8 * w + 8 + m := by
    rw [List.length_append, List.length_append, hA, ht, List.length_replicate]
  have hdr : ((putL k s zs).take (8 * w) ++ t ++ List.replicate m 255) = (putL k s zs).take (8 * w) ++ (t ++ List.replicate m 255) := List.append_assoc _ _ _
  generalize hX : (putL k s zs).take (8 * w) ++ t ++ List.replicate m 255 = X at *
  have hL8 : ∃ q : Nat, (putL k s zs).length = 8 * q := ⟨2 + (zs.length + 7) / 8, by omega⟩
  obtain ⟨q, hq8⟩ := hL8
  by_cases hw0 : w = 0
  · subst hw0
    refine get_ff fun n h1 h2 h3 i hi => hhigh _ (by omega) (by omega)
  · have g0 : X.getD 0 0 = k := by rw [hlow 0 (by omega), hco]; rfl
    have g2 : X.getD 2 0 = (zs.length : Int) % 256 := by rw [hlow 2 (by omega), hco]; rfl
    have g3 : X.getD 3 0 = (zs.length : Int) / 256 := by rw [hlow 3 (by omega), hco]; rfl
    by_cases hlast : 8 * w + 8 < (putL k s zs).length
    · refine get_ff fun n h1 h2 h3 i hi => ?_
      rw [g2, g3, hn] at h1
      exact hhigh _ (by omega) (by omega)
    · have g4 : X.getD 4 0 = (s.toNat : Int) % 256 := by rw [hlow 4 (by omega), hco]; rfl
      have g5 : X.getD 5 0 = (s.toNat : Int) / 256 % 256 := by rw [hlow 5 (by omega), hco]; rfl
      have g6 : X.getD 6 0 = (s.toNat : Int) / 65536 % 256 := by rw [hlow 6 (by omega), hco]; rfl
      have g7 : X.getD 7 0 = (s.toNat : Int) / 16777216 := by rw [hlow 7 (by omega), hco]; rfl
      have g8 : (X.drop 8).take zs.length = zs := by
        have e1 : (X.drop 8).take zs.length = ((putL k s zs).drop 8).take zs.length := by
          rw [hdr, List.drop_append_of_le_length (by rw [hA]; omega), List.take_append_of_le_length (by rw [List.length_drop, hA]; omega), List.drop_take, List.take_take, Nat.min_eq_left (by omega)]
        rw [e1, hco]; simp
      unfold getL
      rw [if_neg (by rw [hXl]; omega)]
      simp only [g0, g2, g3, g4, g5, g6, g7, hn, hq, Int.toNat_natCast, g8]
      rw [if_neg (by rw [hXl]; omega), if_neg]
      rw [← hlen, Int.toNat_natCast]
      exact fun e => hne e.symm
/-- What is whole is read. -/
theorem get_whole (k s : Int) (zs : List Int) (hf : fitsR k s zs.length) (X : List Int) (h : X.take (putL k s zs).length = putL k s zs) : getL X = some (k, s, zs, sizeZ zs.length) := by
  have := get_put k s zs (X.drop (putL k s zs).length) hf
  rw [← this]
  congr 1
  conv => lhs; rw [← List.take_append_drop (putL k s zs).length X, h]
end Go.Proofs.Ytfldgaiiniknpaa
