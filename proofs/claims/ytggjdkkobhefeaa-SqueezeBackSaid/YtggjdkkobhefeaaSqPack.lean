/- squeeze.Tokens as a function; the walk of squeeze.Pack. -/
import Derived.Test.YtggjdkkobhefeaaTkRPack
import Derived.Test.YtggjdkkobhefeaaTkPack2
import Derived.Test.YtggjdkkobhefeaaSqBest
namespace Go.Proofs.Ytggjdkkobhefeaa
open Go.RowKit

theorem TokTo.uniq {zs : List Int} {ts ts' : List Tok} {a a' : Nat} (h : TokTo zs ts a) (k : TokTo zs ts' a') (hl : ts.length = ts'.length) : ts = ts' ∧ a = a' := by
  induction h generalizing ts' a' with
  | start =>
    cases k with
    | start => exact ⟨rfl, rfl⟩
    | step _ _ _ => simp at hl
  | step h1 h2 h3 ih =>
    cases k with
    | start => simp at hl
    | step k1 k2 k3 =>
      simp only [List.length_append, List.length_singleton] at hl
      obtain ⟨rfl, rfl⟩ := ih k1 (by omega)
      obtain ⟨rfl, rfl⟩ := h3.uniq k3
      exact ⟨rfl, rfl⟩
theorem TokTo.mono {zs : List Int} {ts ts' : List Tok} {a a' : Nat} (h : TokTo zs ts a) (k : TokTo zs ts' a') (hl : ts.length < ts'.length) : a < a' := by
  induction k with
  | start => simp at hl
  | @step ts2 a2 n d k1 k2 k3 ih =>
    simp only [List.length_append, List.length_singleton] at hl
    have hp : a2 < a2 + (if 0 < n then n else 1) := by split <;> omega
    rcases Nat.lt_or_ge ts.length ts2.length with h1 | h1
    · have := ih h1; omega
    · obtain ⟨_, rfl⟩ := h.uniq k1 (by omega)
      exact hp
theorem TokTo.same {zs : List Int} {ts ts' : List Tok} {a : Nat} (h : TokTo zs ts a) (k : TokTo zs ts' a) : ts = ts' := by
  rcases Nat.lt_trichotomy ts.length ts'.length with h1 | h1 | h1
  · have := h.mono k h1; omega
  · exact (h.uniq k h1).1
  · have := k.mono h h1; omega
theorem TokTo.wf {zs : List Int} {ts : List Tok} {a : Nat} (h : TokTo zs ts a) (hz : ∀ z ∈ zs, 0 ≤ z ∧ z ≤ 255) (hl : zs.length ≤ 1000000) : ∀ t ∈ ts, TokWf t := by
  induction h with
  | start => simp
  | @step ts a n d h1 h2 h3 ih =>
    intro t ht
    rcases List.mem_append.1 ht with ht | ht
    · exact ih t ht
    · rw [List.mem_singleton.1 ht]
      have hn := h3.le
      split
      · have hs := h3.pos
        rename_i hp
        have := hs hp
        exact ⟨by show (-9223372036854775808 : Int) ≤ (n : Int); omega, by show (n : Int) ≤ 9223372036854775807; omega, by show (-9223372036854775808 : Int) ≤ (d : Int); omega, by show (d : Int) ≤ 9223372036854775807; omega, show (0 : Int) ≤ 0 by decide, show (0 : Int) ≤ 255 by decide⟩
      · have hb := byte_getD hz a
        exact ⟨show (-9223372036854775808 : Int) ≤ 0 by decide, show (0 : Int) ≤ 9223372036854775807 by decide, show (-9223372036854775808 : Int) ≤ 0 by decide, show (0 : Int) ≤ 9223372036854775807 by decide, hb.1, hb.2⟩
theorem TokTo.none_iff {zs : List Int} {ts : List Tok} {a : Nat} (h : TokTo zs ts a) : (0 < ts.length ↔ 0 < a) := by
  cases h with
  | start => simp
  | step h1 h2 h3 => simp only [List.length_append, List.length_singleton]; constructor <;> intro _ <;> first | omega | (split <;> omega)
open Classical in
noncomputable def tokF (zs : List Int) : List Tok := if h : ∃ ts, TokTo zs ts zs.length then Classical.choose h else []
theorem tokF_eq {zs : List Int} {ts : List Tok} (h : TokTo zs ts zs.length) : tokF zs = ts := by
  unfold tokF
  rw [dif_pos ⟨ts, h⟩]
  exact (Classical.choose_spec (⟨ts, h⟩ : ∃ ts, TokTo zs ts zs.length)).same h
noncomputable def sqT (zs : List Int) : List Tok := if 8192 < zs.length then [] else tokF zs
noncomputable def sqP (zs : List Int) : List Int × Int := if 8192 < zs.length then ([], 10) else if 4096 < (packL (tokF zs)).length then ([], 10) else (packL (tokF zs), 0)
def Paired (w : World) (r : List Int × Int) (e : Ending) (w' : World) : Prop := ∃ v, e = .returned (.tuple #[v, .int .i64 r.2]) ∧ Own w' w.heap.size v r.1 ∧ Keeps None w w'
def TokTold (w : World) (zs : List Int) (e : Ending) (w' : World) : Prop := ∃ v, e = .returned v ∧ OwnT w' w.heap.size v (sqT zs) ∧ (∀ t ∈ sqT zs, TokWf t) ∧ (zs.length ≤ 8192 → TokTo zs (sqT zs) zs.length) ∧ Keeps None w w'
set_option maxRecDepth 100000 in
theorem qtok_any (A : Option Addr) (L cap : Nat) (zs : List Int) (w : World) (h : Bs w A L cap zs) : Calls Try.prog 36 #[.slice A L cap] w (TokTold w zs) := by
  have hle := h.le
  have hmx := h.max
  have hl := h.len
  by_cases h8 : 8192 < L
  · have d1 : decide (8192 < (L : Int)) = true := decide_eq_true (by omega)
    have E : Hid (sqT zs = []) := if_pos (by omega)
    have HL : Hid (zs.length = L) := hl
    clear h hl
    go_enter Try.func36, Try.ntmps36
    go_wp2
    go_ret
    exact ⟨_, rfl, by rw [E.out]; exact OwnT.nil _ _, by rw [E.out]; simp, fun hh => by have := HL.out; omega, Keeps.refl _ _⟩
  · refine (qtokens_any A L cap zs w h (by omega)).mono ?_
    rintro e w' ⟨v, ts, rfl, hT, hO, hK⟩
    rw [← hl] at hT
    have E : sqT zs = ts := by unfold sqT; rw [if_neg (by omega)]; exact tokF_eq hT
    exact ⟨v, rfl, by rw [E]; exact hO, by rw [E]; exact hT.wf h.byte (by omega), fun _ => by rw [E]; exact hT, hK⟩
set_option maxRecDepth 100000 in
theorem qpack_any (A : Option Addr) (L cap : Nat) (zs : List Int) (w : World) (h : Bs w A L cap zs) : Calls Try.prog 34 #[.slice A L cap] w (Paired w (sqP zs)) := by
  have hle := h.le
  have hmx := h.max
  have hl := h.len
  by_cases h8 : 8192 < L
  · have d1 : decide (8192 < (L : Int)) = true := decide_eq_true (by omega)
    have E : Hid (sqP zs = ([], 10)) := if_pos (by omega)
    clear h hl
    go_enter Try.func34, Try.ntmps34
    go_wp2
    go_ret2
    rw [E.out]
    exact ⟨_, rfl, Own.nil _ _, Keeps.refl _ _⟩
  have d1 : decide (8192 < (L : Int)) = false := decide_eq_false (by omega)
  have QT := Lib.hid (qtok_any A L cap zs w h)
  have ET : Hid (sqT zs = tokF zs) := if_neg (by omega)
  have EP : Hid (sqP zs = if 4096 < (packL (tokF zs)).length then ([], 10) else (packL (tokF zs), 0)) := if_neg (by omega)
  clear h hl
  unfold TokTold at QT
  rw [ET.out] at QT
  obtain ⟨lp, hlp⟩ : ∃ x, (packL (tokF zs)).length = x := ⟨_, rfl⟩
  rw [hlp] at EP
  have LP := Lib.hid hlp
  clear hlp
  go_enter Try.func34, Try.ntmps34
  go_wp2_with fail
  refine QT.out.mono ?_
  rintro e w2 ⟨v2, rfl, o2, wf2, -, k2⟩
  obtain ⟨A2, c2, rfl, t2, -⟩ := o2.shape wf2
  have T2 := Lib.hid t2
  have K2 := Lib.hid k2
  clear o2 wf2 t2 k2
  go_wp2_with fail
  refine (tkpack_any A2 _ c2 _ _ T2.out).mono ?_
  rintro e w3 ⟨v3, rfl, o3, k3⟩
  obtain ⟨A3, c3, rfl, b3, -⟩ := o3.shape
  have b3l := b3.le
  have b3m := b3.max
  rw [LP.out] at b3l o3 ⊢
  have O3 := Lib.hid (o3.lower K2.out.size)
  have K3 := Lib.hid (K2.out.trans k3 (T := None) (fun _ h => h) (fun _ _ h => h))
  clear o3 k3 b3
  by_cases h4 : 4096 < lp
  · have d2 : decide (4096 < (lp : Int)) = true := decide_eq_true (by omega)
    go_wp2
    go_ret2
    rw [EP.out, if_pos h4]
    exact ⟨_, rfl, Own.nil _ _, K3.out⟩
  · have d2 : decide (4096 < (lp : Int)) = false := decide_eq_false (by omega)
    go_wp2
    go_ret2
    rw [EP.out, if_neg h4]
    exact ⟨_, rfl, O3.out, K3.out⟩
end Go.Proofs.Ytggjdkkobhefeaa
