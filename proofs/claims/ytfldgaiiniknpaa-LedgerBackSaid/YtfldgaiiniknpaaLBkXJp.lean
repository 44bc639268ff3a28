
/- The plain law of a journal: the sum of an epoch's record tells its number; what may stand where power went. -/
import Derived.Test.YtfldgaiiniknpaaLBkXJn10
import Derived.Test.YtfldgaiiniknpaaLBkXNorHalf
import Derived.Test.YtfldgaiiniknpaaLBkXNorTorn
namespace Go.Proofs.Ytfldgaiiniknpaa
open Go.RowKit

theorem crcStep_low {x c : Nat} (hx : x < 4294967296) (hc : c < 256) (h : crcStep x c < 16777216) : x % 256 ^^^ c = 0 ∧ crcStep x c = x / 256 := by
  have hi : x % 256 ^^^ c < 256 := Nat.xor_lt_two_pow (n := 8) (Nat.mod_lt _ (by decide)) hc
  have e : halves 8 (x % 256 ^^^ c) = crcStep x c ^^^ x / 256 := by
    unfold crcStep
    rw [Nat.xor_comm (x / 256), Nat.xor_assoc, Nat.xor_self, Nat.xor_zero]
  have h1 : halves 8 (x % 256 ^^^ c) < 16777216 := by
    rw [e]; exact Nat.xor_lt_two_pow (n := 24) h (by omega)
  have h0 := halves_low _ hi h1
  refine ⟨h0, ?_⟩
  unfold crcStep
  rw [h0]
  have : halves 8 0 = 0 := by decide
  rw [this, Nat.xor_zero]
theorem crc_four {a b c d : Nat} (ha : a < 256) (hb : b < 256) (hc : c < 256) (hd : d < 256) (h : crcStep (crcStep (crcStep (crcStep 0 a) b) c) d = 0) : a = 0 ∧ b = 0 ∧ c = 0 ∧ d = 0 := by
  have l1 := crcStep_lt (x := 0) (by decide) ha
  have l2 := crcStep_lt l1 hb
  have l3 := crcStep_lt l2 hc
  obtain ⟨i4, e4⟩ := crcStep_low l3 hd (by rw [h]; decide)
  obtain ⟨i3, e3⟩ := crcStep_low l2 hc (by omega)
  obtain ⟨i2, e2⟩ := crcStep_low l1 hb (by omega)
  obtain ⟨i1, e1⟩ := crcStep_low (x := 0) (by decide) ha (by omega)
  have z1 : crcStep 0 a = 0 := by rw [e1]
  have z2 : crcStep (crcStep 0 a) b = 0 := by rw [e2, z1]
  have z3 : crcStep (crcStep (crcStep 0 a) b) c = 0 := by rw [e3, z2]
  rw [z1] at i2
  rw [z2] at i3
  rw [z3] at i4
  simp only [Nat.zero_mod, Nat.zero_xor] at i1 i2 i3 i4
  exact ⟨i1, i2, i3, i4⟩
theorem crcRun_four {s : Nat} {a b c d a' b' c' d' : Nat} (ha : a < 256) (hb : b < 256) (hc : c < 256) (hd : d < 256) (ha' : a' < 256) (hb' : b' < 256) (hc' : c' < 256) (hd' : d' < 256)
    (h : crcRun s [a, b, c, d] = crcRun s [a', b', c', d']) : a = a' ∧ b = b' ∧ c = c' ∧ d = d' := by
  have x8 : ∀ {x y : Nat}, x < 256 → y < 256 → x ^^^ y < 256 := fun h1 h2 => Nat.xor_lt_two_pow (n := 8) h1 h2
  have h' : crcStep (crcStep (crcStep (crcStep s a) b) c) d = crcStep (crcStep (crcStep (crcStep s a') b') c') d' := h
  have e : crcStep (crcStep (crcStep (crcStep 0 (a ^^^ a')) (b ^^^ b')) (c ^^^ c')) (d ^^^ d') = 0 := by
    have e0 : crcStep 0 (a ^^^ a') = crcStep s a ^^^ crcStep s a' := by rw [← crcStep_xor, Nat.xor_self]
    rw [e0, crcStep_xor, crcStep_xor, crcStep_xor, h', Nat.xor_self]
  obtain ⟨q1, q2, q3, q4⟩ := crc_four (x8 ha ha') (x8 hb hb') (x8 hc hc') (x8 hd hd') e
  exact ⟨xor_eq_zero' q1, xor_eq_zero' q2, xor_eq_zero' q3, xor_eq_zero' q4⟩
/-- The record that a sector begins with. -/
def epoB (q : Nat) : List Int := putL 1 (q : Int) []
theorem epoB_eq {q : Nat} (h : q ≤ 4294967295) : epoB q = [1, 0, 0, 0] ++ le4 q ++ (le4 (sumOf ([1, 0, 0, 0] ++ le4 q)) ++ le4 (sumOf ([1, 0, 0, 0] ++ le4 q) ^^^ 4294967295)) := by
  have hf : fitsR 1 (q : Int) ([] : List Int).length := ⟨by decide, by decide, by omega, by omega, by decide⟩
  have e : frontL 1 (q : Int) [] = [1, 0, 0, 0] ++ le4 q := by
    unfold frontL headL
    have : padK ([] : List Int).length = 0 := rfl
    rw [this, Int.toNat_natCast]
    simp
  unfold epoB putL
  rw [if_pos hf, e]
  rfl
theorem epoB_len {q : Nat} (h : q ≤ 4294967295) : (epoB q).length = 16 := by
  rw [epoB_eq h]; rfl
theorem epoB_byte {q : Nat} (h : q ≤ 4294967295) : ∀ z ∈ epoB q, 0 ≤ z ∧ z ≤ 255 := by
  have b1 : ∀ z ∈ [1, 0, 0, 0] ++ le4 q, 0 ≤ z ∧ z ≤ 255 := by
    intro z hz
    rcases List.mem_append.1 hz with hz | hz
    · simp only [List.mem_cons, List.not_mem_nil, or_false] at hz
      rcases hz with rfl | rfl | rfl | rfl <;> decide
    · exact le4_byte q (by omega) z hz
  rw [epoB_eq h]
  intro z hz
  rcases List.mem_append.1 hz with hz | hz
  · exact b1 z hz
  · exact tailLb b1 z hz
where
  tailLb {F : List Int} (hF : ∀ z ∈ F, 0 ≤ z ∧ z ≤ 255) : ∀ z ∈ le4 (sumOf F) ++ le4 (sumOf F ^^^ 4294967295), 0 ≤ z ∧ z ≤ 255 := by
    have h1 : sumOf F < 4294967296 := crcOf_lt (natL_lt hF)
    have h2 : sumOf F ^^^ 4294967295 < 2 ^ 32 := Nat.xor_lt_two_pow (by omega) (by decide)
    intro z hz
    rcases List.mem_append.1 hz with hz | hz
    · exact le4_byte _ h1 z hz
    · exact le4_byte _ (by omega) z hz
theorem not32v {x : Nat} (h : x < 4294967296) : x ^^^ 4294967295 = 4294967295 - x := by
  have h1 : x ^^^ 4294967295 = (BitVec.ofNat 32 x ^^^ BitVec.allOnes 32).toNat := by
    rw [BitVec.toNat_xor, BitVec.toNat_ofNat, Nat.mod_eq_of_lt h]
    rfl
  rw [h1, BitVec.xor_allOnes, BitVec.toNat_not, BitVec.toNat_ofNat, Nat.mod_eq_of_lt h]
theorem le_bytes {x y : Nat} (h0 : x % 256 ≤ y % 256) (h1 : x / 256 % 256 ≤ y / 256 % 256) (h2 : x / 65536 % 256 ≤ y / 65536 % 256) (h3 : x / 16777216 ≤ y / 16777216) : x ≤ y := by omega
theorem le4_le {x y : Nat} (h : ∀ i, ((le4 x).getD i 0).toNat ≤ ((le4 y).getD i 0).toNat) : x ≤ y := by
  have g0 : ((x : Int) % 256).toNat ≤ ((y : Int) % 256).toNat := h 0
  have g1 : ((x : Int) / 256 % 256).toNat ≤ ((y : Int) / 256 % 256).toNat := h 1
  have g2 : ((x : Int) / 65536 % 256).toNat ≤ ((y : Int) / 65536 % 256).toNat := h 2
  have g3 : ((x : Int) / 16777216).toNat ≤ ((y : Int) / 16777216).toNat := h 3
  exact le_bytes (by omega) (by omega) (by omega) (by omega)
theorem getD_back (F G : List Int) (n i : Nat) (h : F.length = n) : (F ++ G).getD (n + i) 0 = G.getD i 0 := by
  simp [List.getD, List.getElem?_append_right (show F.length ≤ n + i by omega), h]
theorem getD_frontL (F G : List Int) (i : Nat) (h : i < F.length) : (F ++ G).getD i 0 = F.getD i 0 := by
  simp [List.getD, List.getElem?_append_left h]
theorem sub_le {x y : Int} (h : x.toNat &&& y.toNat = x.toNat) : x.toNat ≤ y.toNat := by
  rw [← h]; exact Nat.and_le_right
theorem epoB_sub {q r : Nat} (hq : q ≤ 4294967295) (hr : r ≤ 4294967295) (h : canN (epoB r) (epoB q) = true) : q = r := by
  have hx := canN_iff (epoB_byte hr) (epoB_byte hq)
  obtain ⟨-, hs⟩ := hx.1 h
  have bq : ∀ z ∈ [1, 0, 0, 0] ++ le4 q, 0 ≤ z ∧ z ≤ 255 := by
    intro z hz
    rcases List.mem_append.1 hz with hz | hz
    · simp only [List.mem_cons, List.not_mem_nil, or_false] at hz
      rcases hz with rfl | rfl | rfl | rfl <;> decide
    · exact le4_byte q (by omega) z hz
  have br : ∀ z ∈ [1, 0, 0, 0] ++ le4 r, 0 ≤ z ∧ z ≤ 255 := by
    intro z hz
    rcases List.mem_append.1 hz with hz | hz
    · simp only [List.mem_cons, List.not_mem_nil, or_false] at hz
      rcases hz with rfl | rfl | rfl | rfl <;> decide
    · exact le4_byte r (by omega) z hz
  have sq : sumOf ([1, 0, 0, 0] ++ le4 q) < 4294967296 := crcOf_lt (natL_lt bq)
  have sr : sumOf ([1, 0, 0, 0] ++ le4 r) < 4294967296 := crcOf_lt (natL_lt br)
  have key : sumOf ([1, 0, 0, 0] ++ le4 q) = sumOf ([1, 0, 0, 0] ++ le4 r) := by
    rw [epoB_eq hq, epoB_eq hr, not32v sq, not32v sr] at hs
    generalize sumOf ([1, 0, 0, 0] ++ le4 q) = S at *
    generalize sumOf ([1, 0, 0, 0] ++ le4 r) = R at *
    have lq : ([1, 0, 0, 0] ++ le4 q : List Int).length = 8 := rfl
    have lr : ([1, 0, 0, 0] ++ le4 r : List Int).length = 8 := rfl
    generalize ([1, 0, 0, 0] ++ le4 q : List Int) = Fq at *
    generalize ([1, 0, 0, 0] ++ le4 r : List Int) = Fr at *
    have g : ∀ i, ((Fq ++ (le4 S ++ le4 (4294967295 - S))).getD i 0).toNat ≤ ((Fr ++ (le4 R ++ le4 (4294967295 - R))).getD i 0).toNat := fun i => sub_le (hs i)
    have a1 : S ≤ R := le4_le fun i => by
      by_cases hi : i < 4
      · have := g (8 + i)
        rwa [getD_back _ _ 8 i lq, getD_back _ _ 8 i lr, getD_frontL _ _ i (show i < (le4 S).length from hi), getD_frontL _ _ i (show i < (le4 R).length from hi)] at this
      · have e : (le4 S).getD i 0 = 0 := by simp [List.getD, List.getElem?_eq_none (show (le4 S).length ≤ i by show 4 ≤ i; omega)]
        rw [e]; exact Nat.zero_le _
    have a2 : 4294967295 - S ≤ 4294967295 - R := le4_le fun i => by
      by_cases hi : i < 4
      · have := g (8 + (4 + i))
        rwa [getD_back _ _ 8 (4 + i) lq, getD_back _ _ 8 (4 + i) lr, getD_back _ _ 4 i rfl, getD_back _ _ 4 i rfl] at this
      · have e : (le4 (4294967295 - S)).getD i 0 = 0 := by simp [List.getD, List.getElem?_eq_none (show (le4 (4294967295 - S)).length ≤ i by show 4 ≤ i; omega)]
        rw [e]; exact Nat.zero_le _
    omega
  have key2 : crcRun 4294967295 (natL ([1, 0, 0, 0] ++ le4 q)) = crcRun 4294967295 (natL ([1, 0, 0, 0] ++ le4 r)) := by
    have := congrArg (· ^^^ 4294967295) key
    simpa [sumOf, crcOf, Nat.xor_assoc] using this
  have nq : natL ([1, 0, 0, 0] ++ le4 q) = [1, 0, 0, 0] ++ [q % 256, q / 256 % 256, q / 65536 % 256, q / 16777216] := by
    simp only [natL, le4, List.map_append, List.map_cons, List.map_nil]
    congr 1
  have nr : natL ([1, 0, 0, 0] ++ le4 r) = [1, 0, 0, 0] ++ [r % 256, r / 256 % 256, r / 65536 % 256, r / 16777216] := by
    simp only [natL, le4, List.map_append, List.map_cons, List.map_nil]
    congr 1
  rw [nq, nr, crcRun_append, crcRun_append] at key2
  obtain ⟨e1, e2, e3, e4⟩ := crcRun_four (by omega) (by omega) (by omega) (by omega) (by omega) (by omega) (by omega) (by omega) key2
  omega
/-- What is there of an epoch's record, bit by bit, is that record or no epoch's at all. -/
theorem epoch_rise {zs : List Int} {q : Nat} (hz : ∀ z ∈ zs, 0 ≤ z ∧ z ≤ 255) (hq : q ≤ 4294967295) (hc : canN (zs.take 16) (epoB q) = true) (he : epochF zs ≠ 0) : zs.take 16 = epoB q ∧ epochF zs = q := by
  unfold epochF at he ⊢
  cases hg : getL zs with
  | none => rw [hg] at he; exact absurd rfl he
  | some r =>
    obtain ⟨k, s, b, n⟩ := r
    rw [hg] at he
    simp only at he ⊢
    split at he
    · rename_i hk
      obtain ⟨hf, h1, -, -, h4, -⟩ := get_full hg
      have hb : b = [] := List.eq_nil_of_length_eq_zero hk.2
      subst hb
      obtain ⟨rfl, -⟩ := hk
      have hn : n = 16 := by rw [h1]; decide
      obtain ⟨r, rfl⟩ : ∃ r : Nat, s = r := ⟨s.toNat, by have := hf.2.2.1; omega⟩
      have hr : r ≤ 4294967295 := by have := hf.2.2.2.1; omega
      have h4 : zs.take 16 = epoB r := by rw [← show ((16 : Int)).toNat = 16 from rfl, ← hn]; exact h4
      rw [h4] at hc
      obtain rfl := epoB_sub hq hr hc
      exact ⟨h4, by simp⟩
    · exact absurd rfl he
theorem epochF_epoB {zs : List Int} {q : Nat} (hq : q ≤ 4294967295) (h : zs.take 16 = epoB q) : epochF zs = q := by
  have hf : fitsR 1 (q : Int) ([] : List Int).length := ⟨by decide, by decide, by omega, by omega, by decide⟩
  have := get_put 1 (q : Int) [] (zs.drop 16) hf
  have e : putL 1 (q : Int) [] ++ zs.drop 16 = zs := by
    show epoB q ++ _ = _
    rw [← h, List.take_append_drop]
  rw [e] at this
  unfold epochF
  rw [this]
  simp

def Byt (zs : List Int) : Prop := ∀ z ∈ zs, 0 ≤ z ∧ z ≤ 255
/-- No rising of the bytes has an epoch beyond m. -/
def LowS (m : Nat) (zs : List Int) : Prop := ∀ us, Byt us → canN us zs = true → epochF us ≤ m
theorem LowS.self {m : Nat} {zs : List Int} (h : LowS m zs) (hz : Byt zs) : epochF zs ≤ m := h zs hz (canN_refl hz)
theorem LowS.mono {m k : Nat} {zs : List Int} (h : LowS m zs) (hk : m ≤ k) : LowS k zs := fun us h1 h2 => Int.le_trans (h us h1 h2) (by omega)
theorem LowS.up {m : Nat} {zs us : List Int} (h : LowS m zs) (hz : Byt zs) (hu : Byt us) (hc : canN us zs = true) : LowS m us := fun vs h1 h2 => h vs h1 (canN_trans h1 hu hz h2 hc)
/-- Part of an epoch's record, not the whole. -/
theorem LowS.part {zs : List Int} {q : Nat} (hz : Byt zs) (hq : q ≤ 4294967295) (hc : canN (zs.take 16) (epoB q) = true) (hne : zs.take 16 ≠ epoB q) : LowS 0 zs := by
  intro us hu h
  have h1 := canN_take h 16
  have bt : ∀ l : List Int, Byt l → Byt (l.take 16) := fun l hl z hz => hl z (List.mem_of_mem_take hz)
  have h2 := canN_trans (bt _ hu) (bt _ hz) (epoB_byte hq) h1 hc
  by_cases he : epochF us = 0
  · rw [he]; exact Int.le_refl _
  · obtain ⟨e, -⟩ := epoch_rise hu hq h2 he
    rw [e] at h1
    exact absurd (canN_anti (bt _ hz) (epoB_byte hq) hc h1) hne
theorem LowS.whole {zs : List Int} {q : Nat} (hq : q ≤ 4294967295) (h : zs.take 16 = epoB q) : LowS q zs := by
  intro us hu hc
  have h1 := canN_take hc 16
  rw [h] at h1
  by_cases he : epochF us = 0
  · rw [he]; omega
  · rw [(epoch_rise hu hq h1 he).2]; exact Int.le_refl _
theorem epochF_ff (n : Nat) : epochF (List.replicate n 255) = 0 := by
  have : getL (List.replicate n 255) = none := by
    unfold getL
    by_cases h : n < 16
    · rw [if_pos (by rw [List.length_replicate]; exact h)]
    · rw [if_neg (by rw [List.length_replicate]; exact h)]
      have g : ∀ i, i < n → (List.replicate n (255 : Int)).getD i 0 = 255 := fun i hi => by simp [List.getD, hi]
      rw [g 2 (by omega), g 3 (by omega)]
      have : sizeZ (255 + 255 * 256) = 0 := by decide
      simp only [this, true_or, if_true]
  unfold epochF
  rw [this]
theorem LowS.blank (n : Nat) : LowS 0 (List.replicate n 255) := by
  intro us hu hc
  have e : us = List.replicate n 255 := by
    refine canN_anti hu (fun z hz => by rw [List.eq_of_mem_replicate hz]; decide) hc ?_
    have hl : us.length = n := by simp only [canN, decide_eq_true_eq] at hc; rw [hc.1, List.length_replicate]
    have := canN_ff us hu
    rwa [hl] at this
  rw [e, epochF_ff]
  exact Int.le_refl _
end Go.Proofs.Ytfldgaiiniknpaa
