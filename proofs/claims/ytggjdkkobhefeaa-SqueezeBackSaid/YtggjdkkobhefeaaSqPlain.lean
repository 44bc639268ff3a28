/- What tokens make is what they were found in; bytes that go round. -/
import Derived.Test.YtggjdkkobhefeaaSqPack
namespace Go.Proofs.Ytggjdkkobhefeaa
open Go.RowKit

theorem getD_take (zs : List Int) (k i : Nat) (h : i < k) : (zs.take k).getD i 0 = zs.getD i 0 := by
  simp [List.getD, List.getElem?_take, h]
theorem take_one (zs : List Int) (a : Nat) (h : a < zs.length) : zs.take (a + 1) = zs.take a ++ [zs.getD a 0] := by
  rw [getD_get 0 h, List.take_add_one, List.getElem?_eq_getElem h]; rfl
theorem copyT_run {zs : List Int} {a d : Nat} (hd : 1 ≤ d) (ha : d ≤ a) : ∀ n, run zs a d n → a + n ≤ zs.length → copyT d n (zs.take a) = zs.take (a + n)
  | 0, _, _ => rfl
  | n + 1, hr, hl => by
    have e : (zs.take (a + n)).length = a + n := by rw [List.length_take]; omega
    rw [copyT_succ, copyT_run hd ha n (run_mono hr (by omega)) (by omega), e, getD_take _ _ _ (by omega), ← hr n (by omega), show a + (n + 1) = a + n + 1 by omega, take_one zs (a + n) (by omega)]
theorem TokTo.plain {zs : List Int} {ts : List Tok} {a : Nat} (h : TokTo zs ts a) (hl : zs.length ≤ 8192) : rightB ts 0 = true ∧ madeT ts 0 = a ∧ plainT ts [] = zs.take a := by
  induction h with
  | start => exact ⟨rfl, rfl, rfl⟩
  | @step ts a n d h1 h2 h3 ih =>
    obtain ⟨r, m, p⟩ := ih
    have hle := h3.le
    by_cases hn : 0 < n
    · obtain ⟨q1, q2, q3, q4, q5⟩ := h3.pos hn
      rw [if_pos hn, if_pos hn]
      have hm : mayT ⟨n, d, 0⟩ a = true := by
        unfold mayT; rw [if_neg (by show ¬ (n : Int) = 0; omega)]
        simp; omega
      have hL : longT ⟨n, d, 0⟩ = n := if_neg (by show ¬ (n : Int) = 0; omega)
      refine ⟨?_, ?_, ?_⟩
      · rw [rightB_append, r, m]
        unfold rightB
        rw [hm, hL, decide_eq_true (by omega)]
        rfl
      · rw [madeT_append, m]
        show (a : Int) + longT ⟨n, d, 0⟩ = _
        rw [hL]; omega
      · rw [plainT_append, p]
        show stepT ⟨n, d, 0⟩ (zs.take a) = _
        unfold stepT
        rw [if_neg (by show ¬ (n : Int) = 0; omega)]
        exact copyT_run q2 q3 n q5 (by omega)
    · rw [if_neg hn, if_neg hn]
      refine ⟨?_, ?_, ?_⟩
      · rw [rightB_append, r, m]
        show (true && ((decide ((0 : Int) = 0)) && decide (longT ⟨0, 0, zs.getD a 0⟩ ≤ 8192 - (a : Int)) && true)) = true
        have hL : longT ⟨0, 0, zs.getD a 0⟩ = 1 := rfl
        rw [hL, decide_eq_true (show (1 : Int) ≤ 8192 - a by omega)]
        rfl
      · rw [madeT_append, m]
        show (a : Int) + 1 = _
        omega
      · rw [plainT_append, p]
        show zs.take a ++ [zs.getD a 0] = _
        rw [take_one zs a h2]
theorem TokTo.plainL {zs : List Int} {ts : List Tok} (h : TokTo zs ts zs.length) (hl : zs.length ≤ 8192) : Go.Proofs.Ytggjdkkobhefeaa.plainL ts = zs := by
  obtain ⟨r, -, p⟩ := h.plain hl
  rw [right_out r, p, List.take_length]

/-- Bytes that go round. -/
def rz (h : Int) (r N : Nat) : List Int := (List.range N).map fun i => (h + ((i % r : Nat) : Int)) % 256
theorem rz_len (h : Int) (r N : Nat) : (rz h r N).length = N := by simp [rz]
theorem rz_get (h : Int) (r N i : Nat) (hi : i < N) : (rz h r N).getD i 0 = (h + ((i % r : Nat) : Int)) % 256 := by
  simp [rz, List.getD, hi]
theorem rz_one (h : Int) (r N : Nat) : rz h r (N + 1) = rz h r N ++ [(h + ((N % r : Nat) : Int)) % 256] := by
  simp [rz, List.range_succ]
theorem rz_ne (h : Int) (r N a d : Nat) (hr : 1 ≤ r) (hr2 : r ≤ 100) (ha : a < N) (hd : 1 ≤ d) (hda : d ≤ a) (hdr : d < r) : ¬ (rz h r N).getD a 0 = (rz h r N).getD (a - d) 0 := by
  rw [rz_get h r N a ha, rz_get h r N (a - d) (by omega)]
  have h1 := Nat.mod_lt a (show 0 < r by omega)
  have h2 := Nat.mod_lt (a - d) (show 0 < r by omega)
  intro he
  have e : a % r = (a - d) % r := by omega
  have := Nat.sub_mod_eq_zero_of_mod_eq e
  rw [show a - (a - d) = d by omega, Nat.mod_eq_of_lt hdr] at this
  omega
theorem rz_run (h : Int) (r N a m : Nat) (hra : r ≤ a) (hm : a + m ≤ N) : run (rz h r N) a r m := fun i hi => by
  rw [rz_get h r N (a + i) (by omega), rz_get h r N (a + i - r) (by omega), Nat.mod_eq_sub_mod (show r ≤ a + i by omega)]
theorem rz_small (h : Int) (r N a : Nat) (hr : 1 ≤ r) (hr2 : r ≤ 100) (ha : a < N) (har : a < r) : BestOf (rz h r N) a 0 0 :=
  ⟨⟨by omega, by omega⟩, ⟨fun _ => rfl, fun _ => rfl⟩, fun hh => absurd hh (by decide), fun _ d' x1 x2 _ _ hx => rz_ne h r N a d' hr hr2 ha x1 x2 (by omega) (by simpa using hx 0 (by omega)), fun d' _ x2 => by omega⟩
theorem rz_big (h : Int) (r N a m : Nat) (hr : 1 ≤ r) (hr2 : r ≤ 100) (ha : a < N) (har : r ≤ a) (hm : m = min 257 (N - a)) (h3 : 3 ≤ m) : BestOf (rz h r N) a m r := by
  refine ⟨⟨by omega, by rw [rz_len]; omega⟩, ⟨fun e => by omega, fun e => by omega⟩, fun _ => ⟨h3, hr, har, by omega, rz_run h r N a m har (by omega)⟩, fun hl => ?_, fun d' x1 x2 hx => rz_ne h r N a d' hr hr2 ha x1 (by omega) x2 (by simpa using hx 0 (by omega))⟩
  rw [rz_len] at hl
  omega
theorem rz_end (h : Int) (r N a : Nat) (h3 : N - a < 3) : BestOf (rz h r N) a 0 0 :=
  ⟨⟨by omega, by omega⟩, ⟨fun _ => rfl, fun _ => rfl⟩, fun hh => absurd hh (by decide), fun _ d' _ _ _ x4 => by rw [rz_len] at x4; omega, fun d' _ x2 => by omega⟩
theorem rz_count (h : Int) (r n : Nat) (hr : 1 ≤ r) (hr2 : r ≤ 100) {ts : List Tok} {a : Nat} (ht : TokTo (rz h r (r + n)) ts a) :
    (a ≤ r ∧ ts.length = a) ∨ (∃ k, a = r + 257 * k ∧ ts.length = r + k) ∨ (a = r + n ∧ 3 ≤ n % 257 ∧ ts.length = r + n / 257 + 1) ∨ (∃ j, j ≤ n % 257 ∧ n % 257 < 3 ∧ a = r + 257 * (n / 257) + j ∧ ts.length = r + n / 257 + j) := by
  induction ht with
  | start => exact .inl ⟨Nat.zero_le _, rfl⟩
  | @step ts a m d h1 h2 h3 ih =>
    rw [rz_len] at h2
    rw [List.length_append, List.length_singleton]
    have two : ∀ k, a = r + 257 * k → ts.length = r + k → (a + (if 0 < m then m else 1) ≤ r ∧ ts.length + 1 = a + (if 0 < m then m else 1)) ∨ (∃ k, a + (if 0 < m then m else 1) = r + 257 * k ∧ ts.length + 1 = r + k) ∨ (a + (if 0 < m then m else 1) = r + n ∧ 3 ≤ n % 257 ∧ ts.length + 1 = r + n / 257 + 1) ∨ (∃ j, j ≤ n % 257 ∧ n % 257 < 3 ∧ a + (if 0 < m then m else 1) = r + 257 * (n / 257) + j ∧ ts.length + 1 = r + n / 257 + j) := by
      intro k ha hl
      by_cases h3' : 3 ≤ min 257 (r + n - a)
      · obtain ⟨rfl, -⟩ := h3.uniq (rz_big h r (r + n) a _ hr hr2 h2 (by omega) rfl h3')
        rw [if_pos (by omega)]
        by_cases hb : 257 ≤ n - 257 * k
        · exact .inr (.inl ⟨k + 1, by omega, by omega⟩)
        · exact .inr (.inr (.inl ⟨by omega, by omega, by omega⟩))
      · obtain ⟨rfl, -⟩ := h3.uniq (rz_end h r (r + n) a (by omega))
        rw [if_neg (by decide)]
        exact .inr (.inr (.inr ⟨1, by omega, by omega, by omega, by omega⟩))
    rcases ih with ⟨ha, hl⟩ | ⟨k, ha, hl⟩ | ⟨ha, -, -⟩ | ⟨j, hj, hn, ha, hl⟩
    · by_cases har : a < r
      · obtain ⟨rfl, -⟩ := h3.uniq (rz_small h r (r + n) a hr hr2 h2 har)
        rw [if_neg (by decide)]
        exact .inl ⟨by omega, by omega⟩
      · exact two 0 (by omega) (by omega)
    · exact two k ha hl
    · omega
    · obtain ⟨rfl, -⟩ := h3.uniq (rz_end h r (r + n) a (by omega))
      rw [if_neg (by decide)]
      exact .inr (.inr (.inr ⟨j + 1, by omega, hn, by omega, by omega⟩))
theorem rz_all (h : Int) (r n : Nat) (hr : 1 ≤ r) (hr2 : r ≤ 100) {ts : List Tok} (ht : TokTo (rz h r (r + n)) ts (r + n)) :
    ts.length = r + n / 257 + (if 3 ≤ n % 257 then 1 else n % 257) := by
  rcases rz_count h r n hr hr2 ht with ⟨ha, hl⟩ | ⟨k, ha, hl⟩ | ⟨ha, hn, hl⟩ | ⟨j, hj, hn, ha, hl⟩ <;> split <;> omega
end Go.Proofs.Ytggjdkkobhefeaa
