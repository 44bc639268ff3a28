/- What lzlite has read, told by the coder: where it is Done, what was taken is packed from what it told. -/
import Derived.Test.YtggjdkkobhefeaaLzGo
namespace Go.Proofs.Ytggjdkkobhefeaa
open Go.RowKit

/-- Mid by parts. -/
def MidP (i : Nat) (s : RdS) (t : Tok) : Prop :=
  (s.part = 0 ∧ i = 1 ∧ s.node = 1 ∧ TV t) ∨
  (s.part = 1 ∧ 1 ≤ i ∧ i ≤ 8 ∧ s.t = ⟨0, 0, 0⟩ ∧ ∃ b : Nat, b < 256 ∧ t = ⟨0, 0, b⟩ ∧ s.node = ((2 ^ (8 - i) + b / 2 ^ i : Nat) : Int)) ∨
  (s.part = 2 ∧ 1 ≤ i ∧ i ≤ 8 ∧ ∃ a e : Nat, a < 256 ∧ e < 4096 ∧ t = ⟨a + 2, e + 1, 0⟩ ∧ s.t = ⟨0, 0, 0⟩ ∧ s.node = ((2 ^ (8 - i) + a / 2 ^ i : Nat) : Int)) ∨
  (s.part = 3 ∧ 1 ≤ i ∧ i ≤ 6 ∧ ∃ a e : Nat, a < 256 ∧ e < 4096 ∧ t = ⟨a + 2, e + 1, 0⟩ ∧ s.t = ⟨a + 2, 0, 0⟩ ∧ s.node = ((2 ^ (6 - i) + e / 64 / 2 ^ i : Nat) : Int)) ∨
  (s.part = 4 ∧ 1 ≤ i ∧ i ≤ 6 ∧ ∃ a e : Nat, a < 256 ∧ e < 4096 ∧ t = ⟨a + 2, e + 1, 0⟩ ∧ s.t = ⟨a + 2, ((e / 64 * 64 : Nat) : Int), 0⟩ ∧ s.node = ((2 ^ (6 - i) + e % 64 / 2 ^ i : Nat) : Int))
theorem Mid.p {i : Nat} {s : RdS} {t : Tok} (h : Mid i s t) : MidP i s t := by
  cases h with
  | kind m t0 t tv => exact .inl ⟨rfl, rfl, rfl, tv⟩
  | byte m i b x h1 h2 hb hx => exact .inr (.inl ⟨rfl, h1, h2, rfl, b, hb, rfl, hx⟩)
  | len m i a e x h1 h2 ha he hx => exact .inr (.inr (.inl ⟨rfl, h1, h2, a, e, ha, he, rfl, rfl, hx⟩))
  | upper m i a e x h1 h2 ha he hx => exact .inr (.inr (.inr (.inl ⟨rfl, h1, h2, a, e, ha, he, rfl, rfl, hx⟩)))
  | lower m i a e x h1 h2 ha he hx => exact .inr (.inr (.inr (.inr ⟨rfl, h1, h2, a, e, ha, he, rfl, rfl, hx⟩)))
theorem mid_tv {i : Nat} {s : RdS} {t : Tok} (h : Mid i s t) : TV t := by
  cases h with
  | kind m t0 t tv => exact tv
  | byte m i b x h1 h2 hb hx => exact .inl ⟨b, hb, rfl⟩
  | len m i a e x h1 h2 ha he hx => exact .inr ⟨a, e, ha, he, rfl⟩
  | upper m i a e x h1 h2 ha he hx => exact .inr ⟨a, e, ha, he, rfl⟩
  | lower m i a e x h1 h2 ha he hx => exact .inr ⟨a, e, ha, he, rfl⟩
theorem uniq8 {i j v u : Nat} (h1 : 1 ≤ i) (h2 : i ≤ 8) (k1 : 1 ≤ j) (k2 : j ≤ 8) (hv : v < 256) (hu : u < 256) (e : 2 ^ (8 - i) + v / 2 ^ i = 2 ^ (8 - j) + u / 2 ^ j) : i = j := by
  obtain rfl | rfl | rfl | rfl | rfl | rfl | rfl | rfl : i = 1 ∨ i = 2 ∨ i = 3 ∨ i = 4 ∨ i = 5 ∨ i = 6 ∨ i = 7 ∨ i = 8 := by omega
  all_goals obtain rfl | rfl | rfl | rfl | rfl | rfl | rfl | rfl : j = 1 ∨ j = 2 ∨ j = 3 ∨ j = 4 ∨ j = 5 ∨ j = 6 ∨ j = 7 ∨ j = 8 := by omega
  all_goals simp only [Nat.reduceSub, Nat.reducePow] at e
  all_goals omega
theorem uniq6 {i j v u : Nat} (h1 : 1 ≤ i) (h2 : i ≤ 6) (k1 : 1 ≤ j) (k2 : j ≤ 6) (hv : v < 64) (hu : u < 64) (e : 2 ^ (6 - i) + v / 2 ^ i = 2 ^ (6 - j) + u / 2 ^ j) : i = j := by
  obtain rfl | rfl | rfl | rfl | rfl | rfl : i = 1 ∨ i = 2 ∨ i = 3 ∨ i = 4 ∨ i = 5 ∨ i = 6 := by omega
  all_goals obtain rfl | rfl | rfl | rfl | rfl | rfl : j = 1 ∨ j = 2 ∨ j = 3 ∨ j = 4 ∨ j = 5 ∨ j = 6 := by omega
  all_goals simp only [Nat.reduceSub, Nat.reducePow] at e
  all_goals omega
theorem mid_uniq {i j : Nat} {s : RdS} {t u : Tok} (h : Mid i s t) (k : Mid j s u) : i = j := by
  rcases h.p with ⟨p, h1, -⟩ | ⟨p, h1, h2, -, b, hb, -, hx⟩ | ⟨p, h1, h2, a, e, ha, he, -, -, hx⟩ | ⟨p, h1, h2, a, e, ha, he, -, -, hx⟩ | ⟨p, h1, h2, a, e, ha, he, -, -, hx⟩
  all_goals rcases k.p with ⟨p', k1, -⟩ | ⟨p', k1, k2, -, b', hb', -, hx'⟩ | ⟨p', k1, k2, a', e', ha', he', -, -, hx'⟩ | ⟨p', k1, k2, a', e', ha', he', -, -, hx'⟩ | ⟨p', k1, k2, a', e', ha', he', -, -, hx'⟩
  all_goals first | (exfalso; rw [p] at p'; exact absurd p' (by decide)) | skip
  · rw [h1, k1]
  · rw [hx] at hx'; exact uniq8 h1 h2 k1 k2 hb hb' (by omega)
  · rw [hx] at hx'; exact uniq8 h1 h2 k1 k2 ha ha' (by omega)
  · rw [hx] at hx'; exact uniq6 h1 h2 k1 k2 (show e / 64 < 64 by omega) (show e' / 64 < 64 by omega) (by omega)
  · rw [hx] at hx'; exact uniq6 h1 h2 k1 k2 (show e % 64 < 64 by omega) (show e' % 64 < 64 by omega) (by omega)
theorem pick8 {i v : Nat} (h1 : 1 ≤ i) (h2 : i ≤ 8) (hv : v < 256) (b : Nat) (hb : b < 2) : ∃ u, u < 256 ∧ u / 2 ^ i = v / 2 ^ i ∧ vbit u (i - 1) = (b : Int) := by
  refine ⟨v / 2 ^ i * 2 ^ i + b * 2 ^ (i - 1), ?_⟩
  unfold vbit
  obtain rfl | rfl | rfl | rfl | rfl | rfl | rfl | rfl : i = 1 ∨ i = 2 ∨ i = 3 ∨ i = 4 ∨ i = 5 ∨ i = 6 ∨ i = 7 ∨ i = 8 := by omega
  all_goals simp only [Nat.reduceSub, Nat.reducePow]
  all_goals omega
theorem pick6 {i v : Nat} (h1 : 1 ≤ i) (h2 : i ≤ 6) (hv : v < 64) (b : Nat) (hb : b < 2) : ∃ u, u < 64 ∧ u / 2 ^ i = v / 2 ^ i ∧ vbit u (i - 1) = (b : Int) := by
  refine ⟨v / 2 ^ i * 2 ^ i + b * 2 ^ (i - 1), ?_⟩
  unfold vbit
  obtain rfl | rfl | rfl | rfl | rfl | rfl : i = 1 ∨ i = 2 ∨ i = 3 ∨ i = 4 ∨ i = 5 ∨ i = 6 := by omega
  all_goals simp only [Nat.reduceSub, Nat.reducePow]
  all_goals omega
theorem mid_pick {i : Nat} {s : RdS} {t : Tok} (h : Mid i s t) {b : Int} (hb : b = 0 ∨ b = 1) : ∃ u, Mid i s u ∧ nb i s u = b := by
  obtain ⟨n, hn2, rfl⟩ : ∃ n : Nat, n < 2 ∧ b = n := by rcases hb with rfl | rfl; exact ⟨0, by decide, rfl⟩; exact ⟨1, by decide, rfl⟩
  cases h with
  | kind m t0 t tv =>
    obtain rfl | rfl : n = 0 ∨ n = 1 := by omega
    · exact ⟨⟨0, 0, ((0 : Nat) : Int)⟩, Mid.kind m t0 _ (.inl ⟨0, by decide, rfl⟩), rfl⟩
    · exact ⟨⟨((0 : Nat) : Int) + 2, ((0 : Nat) : Int) + 1, 0⟩, Mid.kind m t0 _ (.inr ⟨0, 0, by decide, by decide, rfl⟩), rfl⟩
  | byte m i b x h1 h2 hb hx =>
    obtain ⟨u, u1, u2, u3⟩ := pick8 h1 h2 hb n hn2
    exact ⟨⟨0, 0, u⟩, Mid.byte m i u x h1 h2 u1 (by rw [u2]; exact hx), u3⟩
  | len m i a e x h1 h2 ha he hx =>
    obtain ⟨u, u1, u2, u3⟩ := pick8 h1 h2 ha n hn2
    refine ⟨⟨u + 2, e + 1, 0⟩, Mid.len m i u e x h1 h2 u1 he (by rw [u2]; exact hx), ?_⟩
    show vbit ((u + 2 : Int) - 2).toNat (i - 1) = _
    rw [show ((u + 2 : Int) - 2).toNat = u by omega]
    exact u3
  | upper m i a e x h1 h2 ha he hx =>
    obtain ⟨u, u1, u2, u3⟩ := pick6 h1 h2 (show e / 64 < 64 by omega) n hn2
    have q : (u * 64 + e % 64) / 64 = u := by omega
    refine ⟨⟨a + 2, ((u * 64 + e % 64 : Nat) : Int) + 1, 0⟩, Mid.upper m i a (u * 64 + e % 64) x h1 h2 ha (by omega) (by rw [q, u2]; exact hx), ?_⟩
    show vbit (((((u * 64 + e % 64 : Nat) : Int) + 1) - 1).toNat / 64) (i - 1) = _
    rw [show ((((u * 64 + e % 64 : Nat) : Int) + 1) - 1).toNat = u * 64 + e % 64 by omega, q]
    exact u3
  | lower m i a e x h1 h2 ha he hx =>
    obtain ⟨u, u1, u2, u3⟩ := pick6 h1 h2 (show e % 64 < 64 by omega) n hn2
    have q : (e / 64 * 64 + u) % 64 = u := by omega
    have q2 : (e / 64 * 64 + u) / 64 * 64 = e / 64 * 64 := by omega
    have hm := Mid.lower m i a (e / 64 * 64 + u) x h1 h2 ha (by omega) (by rw [q, u2]; exact hx)
    rw [q2] at hm
    refine ⟨_, hm, ?_⟩
    show vbit ((((e / 64 * 64 + u : Nat) : Int) + 1) - 1).toNat (i - 1) = _
    rw [show ((((e / 64 * 64 + u : Nat) : Int) + 1) - 1).toNat = e / 64 * 64 + u by omega, vbit_low h1 h2, q]
    exact u3
theorem back8 {i v u : Nat} {x : Int} (h1 : 2 ≤ i) (h2 : i ≤ 8) (hv : v < 256) (hu : u < 256) (hx : x = ((2 ^ (8 - i) + v / 2 ^ i : Nat) : Int)) (h : 2 * x + vbit v (i - 1) = ((2 ^ (8 - (i - 1)) + u / 2 ^ (i - 1) : Nat) : Int)) :
    x = ((2 ^ (8 - i) + u / 2 ^ i : Nat) : Int) ∧ vbit u (i - 1) = vbit v (i - 1) := by
  subst hx
  unfold vbit at h ⊢
  obtain rfl | rfl | rfl | rfl | rfl | rfl | rfl : i = 2 ∨ i = 3 ∨ i = 4 ∨ i = 5 ∨ i = 6 ∨ i = 7 ∨ i = 8 := by omega
  all_goals simp only [Nat.reduceSub, Nat.reducePow] at h ⊢
  all_goals omega
theorem back6 {i v u : Nat} {x : Int} (h1 : 2 ≤ i) (h2 : i ≤ 6) (hv : v < 64) (hu : u < 64) (hx : x = ((2 ^ (6 - i) + v / 2 ^ i : Nat) : Int)) (h : 2 * x + vbit v (i - 1) = ((2 ^ (6 - (i - 1)) + u / 2 ^ (i - 1) : Nat) : Int)) :
    x = ((2 ^ (6 - i) + u / 2 ^ i : Nat) : Int) ∧ vbit u (i - 1) = vbit v (i - 1) := by
  subst hx
  unfold vbit at h ⊢
  obtain rfl | rfl | rfl | rfl | rfl : i = 2 ∨ i = 3 ∨ i = 4 ∨ i = 5 ∨ i = 6 := by omega
  all_goals simp only [Nat.reduceSub, Nat.reducePow] at h ⊢
  all_goals omega
/-- Whoever is in the middle behind the bit was in the middle ahead of it, with this bit. -/
theorem mid_all {i j : Nat} {s : RdS} {t u : Tok} (h : Mid i s t) (hn : rTokB s (nb i s t) = false) (k : Mid j (rStep s (nb i s t)) t) (ku : Mid j (rStep s (nb i s t)) u) : Mid i s u ∧ nb i s u = nb i s t := by
  cases h with
  | kind m t0 t tv =>
    have tu := mid_tv ku
    refine ⟨Mid.kind m t0 u tu, ?_⟩
    rcases tv with ⟨b, hb, rfl⟩ | ⟨a, e, ha, he, rfl⟩
    · have e1 : nb 1 ⟨m, 0, 1, t0⟩ ⟨0, 0, b⟩ = 0 := rfl
      have e2 : rStep ⟨m, 0, 1, t0⟩ 0 = ⟨m.kind 0, 1, 1, ⟨0, 0, 0⟩⟩ := by rw [← kind_set]; rfl
      rw [e1, e2] at ku
      rw [e1]
      rcases ku.p with ⟨p, -⟩ | ⟨-, -, -, -, b', -, rfl, -⟩ | ⟨p, -⟩ | ⟨p, -⟩ | ⟨p, -⟩
      · exact absurd (show 1 = 0 from p) (by decide)
      · rfl
      · exact absurd (show 1 = 2 from p) (by decide)
      · exact absurd (show 1 = 3 from p) (by decide)
      · exact absurd (show 1 = 4 from p) (by decide)
    · have e1 : nb 1 ⟨m, 0, 1, t0⟩ ⟨a + 2, e + 1, 0⟩ = 1 := by
        show (if (a + 2 : Int) = 0 then (0 : Int) else 1) = 1
        rw [if_neg (by omega)]
      have e2 : rStep ⟨m, 0, 1, t0⟩ 1 = ⟨m.kind 1, 2, 1, ⟨0, 0, 0⟩⟩ := by rw [← kind_set]; rfl
      rw [e1, e2] at ku
      rw [e1]
      rcases ku.p with ⟨p, -⟩ | ⟨p, -⟩ | ⟨-, -, -, a', e', -, -, rfl, -⟩ | ⟨p, -⟩ | ⟨p, -⟩
      · exact absurd (show 2 = 0 from p) (by decide)
      · exact absurd (show 2 = 1 from p) (by decide)
      · show (if (a' + 2 : Int) = 0 then (0 : Int) else 1) = 1
        rw [if_neg (by omega)]
      · exact absurd (show 2 = 3 from p) (by decide)
      · exact absurd (show 2 = 4 from p) (by decide)
  | byte m i b x h1 h2 hb hx =>
    obtain ⟨k1, k2, k3⟩ := node8 h1 h2 hb hx
    have e1 : nb i ⟨m, 1, x, ⟨0, 0, 0⟩⟩ ⟨0, 0, b⟩ = vbit b (i - 1) := rfl
    have e4 : rFullB ⟨m, 1, x, ⟨0, 0, 0⟩⟩ (vbit b (i - 1)) = decide ((256 : Int) ≤ 2 * x + vbit b (i - 1)) := rfl
    rw [e1] at hn k ku ⊢
    by_cases hi : i = 1
    · exfalso
      have ef : rFullB ⟨m, 1, x, ⟨0, 0, 0⟩⟩ (vbit b (i - 1)) = true := by rw [e4, decide_eq_true (by have := k2 hi; omega)]
      unfold rTokB at hn
      rw [ef] at hn
      exact absurd (show true = false from hn) (by decide)
    · have ef : rFullB ⟨m, 1, x, ⟨0, 0, 0⟩⟩ (vbit b (i - 1)) = false := by rw [e4, decide_eq_false (by have := k3 hi; omega)]
      have es : rStep ⟨m, 1, x, ⟨0, 0, 0⟩⟩ (vbit b (i - 1)) = ⟨{ m with bt := turnN m.bt x (vbit b (i - 1)) }, 1, 2 * x + vbit b (i - 1), ⟨0, 0, 0⟩⟩ := by unfold rStep; rw [if_neg (by rw [ef]; decide)]; rfl
      rw [es] at k ku
      obtain rfl : j = i - 1 := mid_uniq k (Mid.byte _ (i - 1) b _ (by omega) (by omega) hb k1)
      rcases ku.p with ⟨p, -⟩ | ⟨-, -, -, -, b', hb', rfl, hx'⟩ | ⟨p, -⟩ | ⟨p, -⟩ | ⟨p, -⟩
      · exact absurd (show 1 = 0 from p) (by decide)
      · obtain ⟨q1, q2⟩ := back8 (by omega) h2 hb hb' hx hx'
        exact ⟨Mid.byte m i b' x h1 h2 hb' q1, q2⟩
      · exact absurd (show 1 = 2 from p) (by decide)
      · exact absurd (show 1 = 3 from p) (by decide)
      · exact absurd (show 1 = 4 from p) (by decide)
  | len m i a e x h1 h2 ha he hx =>
    obtain ⟨k1, k2, k3⟩ := node8 h1 h2 ha hx
    have nbv : ∀ a' e' : Nat, nb i ⟨m, 2, x, ⟨0, 0, 0⟩⟩ ⟨a' + 2, e' + 1, 0⟩ = vbit a' (i - 1) := fun a' e' => by
      show vbit ((a' + 2 : Int) - 2).toNat (i - 1) = _
      rw [show ((a' + 2 : Int) - 2).toNat = a' by omega]
    have e4 : rFullB ⟨m, 2, x, ⟨0, 0, 0⟩⟩ (vbit a (i - 1)) = decide ((256 : Int) ≤ 2 * x + vbit a (i - 1)) := rfl
    rw [nbv] at hn k ku ⊢
    by_cases hi : i = 1
    · have ef : rFullB ⟨m, 2, x, ⟨0, 0, 0⟩⟩ (vbit a (i - 1)) = true := by rw [e4, decide_eq_true (by have := k2 hi; omega)]
      have es : rStep ⟨m, 2, x, ⟨0, 0, 0⟩⟩ (vbit a (i - 1)) = ⟨{ m with lt := turnN m.lt x (vbit a (i - 1)) }, 3, 1, ⟨2 * x + vbit a (i - 1) - 256 + 2, 0, 0⟩⟩ := by unfold rStep; rw [if_pos ef]; rfl
      have en : 2 * x + vbit a (i - 1) - 256 + 2 = (a : Int) + 2 := by rw [k2 hi]; omega
      rw [en] at es
      rw [es] at ku
      rcases ku.p with ⟨p, -⟩ | ⟨p, -⟩ | ⟨p, -⟩ | ⟨-, -, -, a', e', ha', he', rfl, ht, -⟩ | ⟨p, -⟩
      · exact absurd (show 3 = 0 from p) (by decide)
      · exact absurd (show 3 = 1 from p) (by decide)
      · exact absurd (show 3 = 2 from p) (by decide)
      · have ht : (⟨(a : Int) + 2, 0, 0⟩ : Tok) = ⟨(a' : Int) + 2, 0, 0⟩ := ht
        obtain rfl : a' = a := by have := congrArg Tok.n ht; simp at this; omega
        exact ⟨Mid.len m i a' e' x h1 h2 ha' he' hx, nbv _ _⟩
      · exact absurd (show 3 = 4 from p) (by decide)
    · have ef : rFullB ⟨m, 2, x, ⟨0, 0, 0⟩⟩ (vbit a (i - 1)) = false := by rw [e4, decide_eq_false (by have := k3 hi; omega)]
      have es : rStep ⟨m, 2, x, ⟨0, 0, 0⟩⟩ (vbit a (i - 1)) = ⟨{ m with lt := turnN m.lt x (vbit a (i - 1)) }, 2, 2 * x + vbit a (i - 1), ⟨0, 0, 0⟩⟩ := by unfold rStep; rw [if_neg (by rw [ef]; decide)]; rfl
      rw [es] at k ku
      obtain rfl : j = i - 1 := mid_uniq k (Mid.len _ (i - 1) a e _ (by omega) (by omega) ha he k1)
      rcases ku.p with ⟨p, -⟩ | ⟨p, -⟩ | ⟨-, -, -, a', e', ha', he', rfl, -, hx'⟩ | ⟨p, -⟩ | ⟨p, -⟩
      · exact absurd (show 2 = 0 from p) (by decide)
      · exact absurd (show 2 = 1 from p) (by decide)
      · obtain ⟨q1, q2⟩ := back8 (by omega) h2 ha ha' hx hx'
        exact ⟨Mid.len m i a' e' x h1 h2 ha' he' q1, by rw [nbv]; exact q2⟩
      · exact absurd (show 2 = 3 from p) (by decide)
      · exact absurd (show 2 = 4 from p) (by decide)
  | upper m i a e x h1 h2 ha he hx =>
    obtain ⟨k1, k2, k3⟩ := node6 h1 h2 (show e / 64 < 64 by omega) hx
    have nbv : ∀ a' e' : Nat, nb i ⟨m, 3, x, ⟨a + 2, 0, 0⟩⟩ ⟨a' + 2, e' + 1, 0⟩ = vbit (e' / 64) (i - 1) := fun a' e' => by
      show vbit (((e' + 1 : Int) - 1).toNat / 64) (i - 1) = _
      rw [show ((e' + 1 : Int) - 1).toNat = e' by omega]
    have e4 : rFullB ⟨m, 3, x, ⟨a + 2, 0, 0⟩⟩ (vbit (e / 64) (i - 1)) = decide ((64 : Int) ≤ 2 * x + vbit (e / 64) (i - 1)) := rfl
    rw [nbv] at hn k ku ⊢
    by_cases hi : i = 1
    · have ef : rFullB ⟨m, 3, x, ⟨a + 2, 0, 0⟩⟩ (vbit (e / 64) (i - 1)) = true := by rw [e4, decide_eq_true (by have := k2 hi; omega)]
      have es : rStep ⟨m, 3, x, ⟨a + 2, 0, 0⟩⟩ (vbit (e / 64) (i - 1)) = ⟨{ m with dt := turnN m.dt x (vbit (e / 64) (i - 1)) }, 4, 1, ⟨a + 2, (2 * x + vbit (e / 64) (i - 1) - 64) * 64, 0⟩⟩ := by unfold rStep; rw [if_pos ef]; rfl
      have en : (2 * x + vbit (e / 64) (i - 1) - 64) * 64 = ((e / 64 * 64 : Nat) : Int) := by rw [k2 hi]; omega
      rw [en] at es
      rw [es] at ku
      rcases ku.p with ⟨p, -⟩ | ⟨p, -⟩ | ⟨p, -⟩ | ⟨p, -⟩ | ⟨-, -, -, a', e', ha', he', rfl, ht, -⟩
      · exact absurd (show 4 = 0 from p) (by decide)
      · exact absurd (show 4 = 1 from p) (by decide)
      · exact absurd (show 4 = 2 from p) (by decide)
      · exact absurd (show 4 = 3 from p) (by decide)
      · have ht : (⟨(a : Int) + 2, ((e / 64 * 64 : Nat) : Int), 0⟩ : Tok) = ⟨(a' : Int) + 2, ((e' / 64 * 64 : Nat) : Int), 0⟩ := ht
        obtain rfl : a' = a := by have := congrArg Tok.n ht; simp at this; omega
        have ee : e' / 64 = e / 64 := by
          have h9 : ((e / 64 * 64 : Nat) : Int) = ((e' / 64 * 64 : Nat) : Int) := congrArg Tok.d ht
          omega
        exact ⟨Mid.upper m i a' e' x h1 h2 ha' he' (by rw [ee]; exact hx), by rw [nbv, ee]⟩
    · have ef : rFullB ⟨m, 3, x, ⟨a + 2, 0, 0⟩⟩ (vbit (e / 64) (i - 1)) = false := by rw [e4, decide_eq_false (by have := k3 hi; omega)]
      have es : rStep ⟨m, 3, x, ⟨a + 2, 0, 0⟩⟩ (vbit (e / 64) (i - 1)) = ⟨{ m with dt := turnN m.dt x (vbit (e / 64) (i - 1)) }, 3, 2 * x + vbit (e / 64) (i - 1), ⟨a + 2, 0, 0⟩⟩ := by unfold rStep; rw [if_neg (by rw [ef]; decide)]; rfl
      rw [es] at k ku
      obtain rfl : j = i - 1 := mid_uniq k (Mid.upper _ (i - 1) a e _ (by omega) (by omega) ha he k1)
      rcases ku.p with ⟨p, -⟩ | ⟨p, -⟩ | ⟨p, -⟩ | ⟨-, -, -, a', e', ha', he', rfl, ht, hx'⟩ | ⟨p, -⟩
      · exact absurd (show 3 = 0 from p) (by decide)
      · exact absurd (show 3 = 1 from p) (by decide)
      · exact absurd (show 3 = 2 from p) (by decide)
      · have ht : (⟨(a : Int) + 2, 0, 0⟩ : Tok) = ⟨(a' : Int) + 2, 0, 0⟩ := ht
        obtain rfl : a' = a := by have := congrArg Tok.n ht; simp at this; omega
        obtain ⟨q1, q2⟩ := back6 (by omega) h2 (show e / 64 < 64 by omega) (show e' / 64 < 64 by omega) hx hx'
        exact ⟨Mid.upper m i a' e' x h1 h2 ha' he' q1, by rw [nbv]; exact q2⟩
      · exact absurd (show 3 = 4 from p) (by decide)
  | lower m i a e x h1 h2 ha he hx =>
    obtain ⟨k1, k2, k3⟩ := node6 h1 h2 (show e % 64 < 64 by omega) hx
    rw [← vbit_low h1 h2] at k1 k2 k3
    obtain ⟨td, htd⟩ : ∃ td : Int, ((e / 64 * 64 : Nat) : Int) = td := ⟨_, rfl⟩
    rw [htd] at hn k ku ⊢
    have nbv : ∀ a' e' : Nat, nb i ⟨m, 4, x, ⟨a + 2, td, 0⟩⟩ ⟨a' + 2, e' + 1, 0⟩ = vbit e' (i - 1) := fun a' e' => by
      show vbit ((e' + 1 : Int) - 1).toNat (i - 1) = _
      rw [show ((e' + 1 : Int) - 1).toNat = e' by omega]
    have e4 : rFullB ⟨m, 4, x, ⟨a + 2, td, 0⟩⟩ (vbit e (i - 1)) = decide ((64 : Int) ≤ 2 * x + vbit e (i - 1)) := rfl
    rw [nbv] at hn k ku ⊢
    by_cases hi : i = 1
    · exfalso
      have ef : rFullB ⟨m, 4, x, ⟨a + 2, td, 0⟩⟩ (vbit e (i - 1)) = true := by rw [e4, decide_eq_true (by have := k2 hi; omega)]
      unfold rTokB at hn
      rw [ef] at hn
      exact absurd (show true = false from hn) (by decide)
    · have ef : rFullB ⟨m, 4, x, ⟨a + 2, td, 0⟩⟩ (vbit e (i - 1)) = false := by rw [e4, decide_eq_false (by have := k3 hi; omega)]
      have es : rStep ⟨m, 4, x, ⟨a + 2, td, 0⟩⟩ (vbit e (i - 1)) = ⟨m, 4, 2 * x + vbit e (i - 1), ⟨a + 2, td, 0⟩⟩ := by unfold rStep; rw [if_neg (by rw [ef]; decide)]; rfl
      rw [es] at k ku
      have kk := Mid.lower m (i - 1) a e _ (by omega) (by omega) ha he k1
      rw [htd] at kk
      obtain rfl : j = i - 1 := mid_uniq k kk
      rcases ku.p with ⟨p, -⟩ | ⟨p, -⟩ | ⟨p, -⟩ | ⟨p, -⟩ | ⟨-, -, -, a', e', ha', he', rfl, ht, hx'⟩
      · exact absurd (show 4 = 0 from p) (by decide)
      · exact absurd (show 4 = 1 from p) (by decide)
      · exact absurd (show 4 = 2 from p) (by decide)
      · exact absurd (show 4 = 3 from p) (by decide)
      · have ht : (⟨(a : Int) + 2, td, 0⟩ : Tok) = ⟨(a' : Int) + 2, ((e' / 64 * 64 : Nat) : Int), 0⟩ := ht
        obtain rfl : a' = a := by have := congrArg Tok.n ht; simp at this; omega
        have ee : td = ((e' / 64 * 64 : Nat) : Int) := congrArg Tok.d ht
        rw [vbit_low h1 h2] at hx'
        obtain ⟨q1, q2⟩ := back6 (by omega) h2 (show e % 64 < 64 by omega) (show e' % 64 < 64 by omega) hx hx'
        have hm := Mid.lower m i a' e' x h1 h2 ha' he' q1
        rw [← ee] at hm
        exact ⟨hm, by rw [nbv, vbit_low h1 h2, vbit_low (e := e) h1 h2]; exact q2⟩
end Go.Proofs.Ytggjdkkobhefeaa
