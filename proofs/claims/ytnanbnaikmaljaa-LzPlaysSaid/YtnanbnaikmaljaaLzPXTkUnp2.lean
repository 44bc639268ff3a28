
/- token.Unpack. -/
import Derived.Test.YtnanbnaikmaljaaLzPXTkUnp
import Derived.Test.YtnanbnaikmaljaaLzPXTkPack2
import Derived.Test.YtnanbnaikmaljaaLzPXSealGet
namespace Go.Proofs.Ytnanbnaikmaljaa
open Go.RowKit

def unpF (zs : List Int) (plain : Int) : List Tok × Int :=
  if plain < 0 ∨ 8192 < plain then ([], 1) else
  match readP zs plain.toNat with
  | none => ([], 11)
  | some l => if packL l = zs then (l, 0) else ([], 11)
def Unpacked (w : World) (r : List Tok × Int) (e : Ending) (w' : World) : Prop :=
  ∃ v, e = .returned (.tuple #[v, .int .i64 r.2]) ∧ OwnT w' w.heap.size v r.1 ∧ (∀ t ∈ r.1, TokWf t) ∧ Keeps None w w'
theorem readN_right (plain : Nat) (hp : plain ≤ 8192) : ∀ (f : Nat) (s : RdS) (d : DSt) (zs : List Int) (md : Nat) (out l : List Tok), readN plain f s d zs md out = some l → rightB out 0 = true → madeT out 0 = md → md ≤ plain → rightB l 0 = true ∧ madeT l 0 = plain
  | 0, _, _, _, _, _, _, h, _, _, _ => by cases h
  | f + 1, s, d, zs, md, out, l, h, h1, h2, h3 => by
    unfold readN at h
    split at h
    · cases h
    split at h
    · rename_i hm
      cases h
      exact ⟨h1, by rw [h2, hm]⟩
    split at h
    · split at h
      · rename_i hm
        obtain ⟨m1, m2⟩ := hm
        obtain ⟨p1, p2⟩ := longT_pos m1
        refine readN_right plain hp f _ _ _ _ _ l h ?_ ?_ (by omega)
        · rw [rightB_append, h1, h2]
          unfold rightB
          rw [m1, decide_eq_true (by omega)]
          rfl
        · rw [madeT_append, h2]
          show (md : Int) + longT _ = _
          omega
      · cases h
    · exact readN_right plain hp f _ _ _ _ _ l h h1 h2 h3
theorem unpF_ok {zs : List Int} {plain : Int} {l : List Tok} (h : unpF zs plain = (l, 0)) : 0 ≤ plain ∧ plain ≤ 8192 ∧ rightB l 0 = true ∧ packL l = zs ∧ ((plainL l).length : Int) = plain := by
  unfold unpF at h
  split at h
  · cases h
  rename_i hp
  split at h
  · cases h
  rename_i l' hr
  split at h
  · rename_i hk
    have e : l' = l := congrArg Prod.fst h
    subst e
    have hq := readN_right plain.toNat (by omega) _ _ _ _ _ _ _ hr rfl rfl (Nat.zero_le _)
    refine ⟨by omega, by omega, hq.1, hk, ?_⟩
    rw [right_out hq.1]
    have := plainT_len l' [] 0 hq.1 rfl
    rw [this, hq.2]
    omega
  · cases h
theorem unpF_cases (zs : List Int) (plain : Int) : (unpF zs plain = ([], 1) ∧ (plain < 0 ∨ 8192 < plain)) ∨ (unpF zs plain = ([], 11) ∧ 0 ≤ plain ∧ plain ≤ 8192) ∨ (∃ l, unpF zs plain = (l, 0) ∧ 0 ≤ plain ∧ plain ≤ 8192) := by
  unfold unpF
  split
  · rename_i h; exact .inl ⟨rfl, h⟩
  rename_i hp
  have h0 : 0 ≤ plain ∧ plain ≤ 8192 := by omega
  split
  · exact .inr (.inl ⟨rfl, h0⟩)
  split
  · exact .inr (.inr ⟨_, rfl, h0⟩)
  · exact .inr (.inl ⟨rfl, h0⟩)
end Go.Proofs.Ytnanbnaikmaljaa
