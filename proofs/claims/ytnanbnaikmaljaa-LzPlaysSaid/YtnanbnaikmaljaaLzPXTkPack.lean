
/- The walk of (*token.state).token. -/
import Derived.Test.YtnanbnaikmaljaaLzPXTkModel
import Derived.Test.YtnanbnaikmaljaaLzPa
namespace Go.Proofs.Ytnanbnaikmaljaa
open Go.RowKit

theorem bit_of2 (v i : Nat) (hv : v < 65536) : bits .and .i64 ((v : Int) / 2 ^ i) 1 = vbit v i := by
  have e : (v : Int) / 2 ^ i = ((v / 2 ^ i : Nat) : Int) := by simp
  have hle : v / 2 ^ i ≤ v := Nat.div_le_self _ _
  rw [e]
  unfold vbit
  exact i64_and_one _ (by omega)
theorem tRun_good (v n : Nat) {s : CSt} {ps : List Int} (ok : TOk ps n) (h0 : 16777216 ≤ s.w) (h1 : s.w < 4294967296) :
    TOk (tRun v n ⟨s, ps, 1⟩).ps n ∧ 16777216 ≤ (tRun v n ⟨s, ps, 1⟩).c.w ∧ (tRun v n ⟨s, ps, 1⟩).c.w < 4294967296 ∧ (tRun v n ⟨s, ps, 1⟩).c.l.length ≤ s.l.length + n := by
  have h := (TLoop.start v ok h0 h1).fin
  exact ⟨h.ok, h.w0, h.w1, by have := h.len; omega⟩
theorem half_good {c : CSt} (bit : Int) (h0 : 16777216 ≤ c.w) (h1 : c.w < 4294967296) : 16777216 ≤ cHalfW c.w ∧ cHalfW c.w < 4294967296 ∧ (cHalfL c.l c.w bit).length ≤ c.l.length + 1 := by
  have a := cStep_w c 0 bit h0 h1
  have l := (cStep_len c 0 bit).2
  unfold cStep at a l
  rw [if_pos rfl] at a l
  exact ⟨a.1, a.2, l⟩
theorem hRun_good (v : Nat) : ∀ (j : Nat) (c : CSt), 16777216 ≤ c.w → c.w < 4294967296 → 16777216 ≤ (hRun v j c).w ∧ (hRun v j c).w < 4294967296 ∧ (hRun v j c).l.length ≤ c.l.length + j
  | 0, c, h0, h1 => ⟨h0, h1, Nat.le_refl _⟩
  | j + 1, c, h0, h1 => by
    obtain ⟨a, b, l⟩ := half_good (c := c) (vbit v j) h0 h1
    obtain ⟨a2, b2, l2⟩ := hRun_good v j ⟨cHalfL c.l c.w (vbit v j), cHalfW c.w⟩ a b
    exact ⟨a2, b2, by show (hRun v j _).l.length ≤ _; have : (cHalfL c.l c.w (vbit v j)).length ≤ c.l.length + 1 := l; have l2 : (hRun v j ⟨cHalfL c.l c.w (vbit v j), cHalfW c.w⟩).l.length ≤ (cHalfL c.l c.w (vbit v j)).length + j := l2; omega⟩
/-- A token that the packing takes. -/
def Fits (t : Tok) : Prop := (t.n = 0 ∧ 0 ≤ t.b ∧ t.b ≤ 255) ∨ (2 ≤ t.n ∧ t.n ≤ 257 ∧ 1 ≤ t.d ∧ t.d ≤ 4096)
theorem MOk.kind {m : Ms} (h : MOk m) {is : Int} (hi : is = 0 ∨ is = 1) : MOk (m.kind is) := by
  unfold Ms.kind
  split
  · exact ⟨h.o1, h.o2, h.o3, hi⟩
  · exact ⟨h.o1, h.o2, h.o3, hi⟩
/-- What is good of a coder and a model. -/
structure CGood (c : CSt) (m : Ms) : Prop where
  w0 : 16777216 ≤ c.w
  w1 : c.w < 4294967296
  ok : MOk m
theorem CGood.start : CGood cst0 ms0 := ⟨by decide, by decide, MOk.start⟩
theorem CGood.tok {c : CSt} {m : Ms} (h : CGood c m) (t : Tok) : CGood (eTok c m t).1 (eTok c m t).2 ∧ (eTok c m t).1.l.length ≤ c.l.length + 21 := by
  unfold eTok
  split
  · have k := h.ok.kind (is := 0) (.inl rfl)
    have b := cBitS_w c m.pr 0 h.w0 h.w1
    have l := cBitS_len c m.pr 0
    obtain ⟨a1, a2, a3, a4⟩ := tRun_good t.b.toNat 8 k.o1 b.1 b.2
    exact ⟨⟨a2, a3, ⟨a1, k.o2, k.o3, k.be⟩⟩, by show (tRun _ _ _).c.l.length ≤ _; omega⟩
  · have k := h.ok.kind (is := 1) (.inr rfl)
    have b := cBitS_w c m.pr 1 h.w0 h.w1
    have l := cBitS_len c m.pr 1
    obtain ⟨a1, a2, a3, a4⟩ := tRun_good (t.n - 2).toNat 8 k.o2 b.1 b.2
    obtain ⟨d1, d2, d3, d4⟩ := tRun_good ((t.d - 1).toNat / 64) 6 k.o3 a2 a3
    obtain ⟨e1, e2, e3⟩ := hRun_good (t.d - 1).toNat 6 _ d2 d3
    exact ⟨⟨e1, e2, ⟨k.o1, a1, d1, k.be⟩⟩, by show (hRun _ _ _).l.length ≤ _; omega⟩

def CMS (b g : Nat) (T : TL) (k : Nat) : Prop := k = b ∨ k = g ∨ (T.g1 ≤ k ∧ k ≤ T.sb)
end Go.Proofs.Ytnanbnaikmaljaa
