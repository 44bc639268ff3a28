/-
  For every row of bytes, the law SqueezeBack returns true: what Pack packed is unpacked into the very bytes, and the tokens that are found are right and make them. No condition.
-/
import Derived.Test.YtggjdkkobhefeaaSqPlain
import Derived.Test.YtggjdkkobhefeaaTkBack
import Derived.Test.YtggjdkkobhefeaaInit
namespace Go.Proofs.Ytggjdkkobhefeaa
open Go.RowKit Go.ChangeShapes Go.WideShapes Go.ChangeAt

/-- At most 67 to 1 for each bit: k bits come to so many bytes at most. -/
def Cost (c : CSt) (k : Nat) : Prop := 16777216 ≤ c.w ∧ c.w < 4294967296 ∧ 4 ≤ c.l.length ∧ (4294967295 : Int) * 256 ^ (c.l.length - 4) ≤ c.w * 67 ^ k
theorem cost_part {c : CSt} {k : Nat} (h : Cost c k) (l : List Int) (x : Int) (hl : l.length = c.l.length) (h1 : 65536 ≤ x) (h2 : x < 4294967296) (h3 : c.w ≤ 67 * x) : Cost ⟨cStrL l x, strW x⟩ (k + 1) := by
  obtain ⟨a1, a2, a3, a4⟩ := h
  have hs := (cStrL_num l x).2
  have hw := strW_bd x (by omega) h2
  refine ⟨strW_wide _ h1, hw.2.1, by show 4 ≤ (cStrL l x).length; omega, ?_⟩
  show (4294967295 : Int) * 256 ^ ((cStrL l x).length - 4) ≤ strW x * 67 ^ (k + 1)
  have e : (cStrL l x).length - 4 = (c.l.length - 4) + more x := by omega
  rw [e, strW_more, Int.pow_add, ← Int.mul_assoc, Int.pow_succ]
  have hp := Int.le_of_lt (pow_pos' (more x))
  have h67 : (0 : Int) < 67 ^ k := Int.pow_pos (by decide)
  have q : (4294967295 : Int) * 256 ^ (c.l.length - 4) ≤ x * (67 ^ k * 67) := by
    have := Int.mul_le_mul_of_nonneg_right h3 (Int.le_of_lt h67)
    have e2 : x * (67 ^ k * 67) = 67 * x * 67 ^ k := by rw [Int.mul_comm (67 ^ k) 67, ← Int.mul_assoc, Int.mul_comm x 67]
    rw [e2]
    exact Int.le_trans a4 this
  have := Int.mul_le_mul_of_nonneg_right q hp
  have e3 : x * 256 ^ more x * (67 ^ k * 67) = x * (67 ^ k * 67) * 256 ^ more x := by rw [Int.mul_assoc, Int.mul_comm (256 ^ more x), ← Int.mul_assoc]
  rw [e3]
  exact this
theorem cost_bit {c : CSt} {k : Nat} (h : Cost c k) (p b : Int) : Cost (cBitS c p b) (k + 1) := by
  have h' := h
  obtain ⟨a1, a2, a3, a4⟩ := h'
  have b1 := hold_lo p
  have b2 := hold_hi p
  have h3 : 8192 ≤ c.w / 2048 := by omega
  have h4 : c.w / 2048 * hold p ≤ c.w / 2048 * 2017 := Int.mul_le_mul_of_nonneg_left b2 (by omega)
  have h5 : c.w / 2048 * 31 ≤ c.w / 2048 * hold p := Int.mul_le_mul_of_nonneg_left b1 (by omega)
  unfold cBitS cBitL cBitW
  by_cases hb : b = 0
  · rw [if_pos hb, if_pos hb]
    exact cost_part h _ _ rfl (by unfold cBd; omega) (by unfold cBd; omega) (by unfold cBd; omega)
  · rw [if_neg hb, if_neg hb]
    exact cost_part h _ _ (addL_length _ _) (by unfold cBd; omega) (by unfold cBd; omega) (by unfold cBd; omega)
theorem cost_half {c : CSt} {k : Nat} (h : Cost c k) (b : Int) : Cost ⟨cHalfL c.l c.w b, cHalfW c.w⟩ (k + 1) := by
  have h' := h
  obtain ⟨a1, a2, a3, a4⟩ := h'
  unfold cHalfL cHalfW
  by_cases hb : b = 0
  · rw [if_pos hb]
    exact cost_part h _ _ rfl (by omega) (by omega) (by omega)
  · rw [if_neg hb]
    exact cost_part h _ _ (addL_length _ _) (by omega) (by omega) (by omega)
theorem cost_run (v : Nat) : ∀ (n : Nat) (t : TSt) (k : Nat), Cost t.c k → Cost (tRun v n t).c (k + n)
  | 0, _, _, h => h
  | n + 1, t, k, h => by
    have := cost_run v n (tStep v n t) (k + 1) (cost_bit h _ _)
    rw [show k + (n + 1) = k + 1 + n by omega]
    exact this
theorem cost_hrun (v : Nat) : ∀ (n : Nat) (c : CSt) (k : Nat), Cost c k → Cost (hRun v n c) (k + n)
  | 0, _, _, h => h
  | n + 1, c, k, h => by
    have := cost_hrun v n _ (k + 1) (cost_half h (vbit v n))
    rw [show k + (n + 1) = k + 1 + n by omega]
    exact this
theorem Cost.mono {c : CSt} {k k' : Nat} (h : Cost c k) (hk : k ≤ k') : Cost c k' := by
  obtain ⟨a1, a2, a3, a4⟩ := h
  refine ⟨a1, a2, a3, Int.le_trans a4 (Int.mul_le_mul_of_nonneg_left ?_ (by omega))⟩
  obtain ⟨d, rfl⟩ : ∃ d, k' = k + d := ⟨k' - k, by omega⟩
  rw [Int.pow_add]
  have h67 : (0 : Int) < 67 ^ k := Int.pow_pos (by decide)
  have hd : (1 : Int) ≤ 67 ^ d := by have : (0 : Int) < 67 ^ d := Int.pow_pos (by decide); omega
  have := Int.mul_le_mul_of_nonneg_left hd (Int.le_of_lt h67)
  omega
theorem cost_tok {c : CSt} {k : Nat} (h : Cost c k) (m : Ms) (t : Tok) : Cost (eTok c m t).1 (k + if t.n = 0 then 9 else 21) := by
  unfold eTok
  by_cases h0 : t.n = 0
  · rw [if_pos h0, if_pos h0]
    exact cost_run _ 8 ⟨cBitS c m.pr 0, (m.kind 0).bt, 1⟩ (k + 1) (cost_bit h _ _)
  · rw [if_neg h0, if_neg h0]
    exact cost_hrun _ 6 _ (k + 1 + 8 + 6) (cost_run _ 6 _ (k + 1 + 8) (cost_run _ 8 ⟨cBitS c m.pr 1, (m.kind 1).lt, 1⟩ (k + 1) (cost_bit h _ _)))
theorem eRow_append : ∀ (a b : List Tok) (x : CSt × Ms), eRow (a ++ b) x = eRow b (eRow a x)
  | [], _, _ => rfl
  | t :: a, b, x => eRow_append a b (eTok x.1 x.2 t)
theorem TokTo.cost {zs : List Int} {ts : List Tok} {a : Nat} (h : TokTo zs ts a) : Cost (eRow ts (cst0, ms0)).1 (9 * a) := by
  induction h with
  | start => exact ⟨show (16777216 : Int) ≤ 4294967295 by decide, show (4294967295 : Int) < 4294967296 by decide, Nat.le_refl _, by decide⟩
  | @step ts a n d h1 h2 h3 ih =>
    rw [eRow_append]
    have q := fun t => cost_tok ih (eRow ts (cst0, ms0)).2 t
    by_cases hn : 0 < n
    · obtain ⟨q1, -⟩ := h3.pos hn
      rw [if_pos hn, if_pos hn]
      refine (q ⟨n, d, 0⟩).mono ?_
      rw [if_neg (show ¬ (n : Int) = 0 by omega)]
      omega
    · rw [if_neg hn, if_neg hn]
      exact q ⟨0, 0, zs.getD a 0⟩
theorem pow67 (n : Nat) : (67 : Int) ^ (9 * n) ≤ 256 ^ (7 * n) := by
  induction n with
  | zero => decide
  | succ n ih =>
    rw [show 9 * (n + 1) = 9 * n + 9 by omega, show 7 * (n + 1) = 7 * n + 7 by omega, Int.pow_add, Int.pow_add]
    have h9 : (67 : Int) ^ 9 ≤ 256 ^ 7 := by decide
    have h67 : (0 : Int) ≤ 67 ^ 9 := by decide
    exact Int.le_trans (Int.mul_le_mul_of_nonneg_right ih h67) (Int.mul_le_mul_of_nonneg_left h9 (Int.le_of_lt (pow_pos' _)))
theorem pow256_le {a b : Nat} (h : (256 : Int) ^ a ≤ 256 ^ b) : a ≤ b := by
  rcases Nat.lt_or_ge b a with hlt | hge
  · obtain ⟨d, rfl⟩ : ∃ d, a = b + 1 + d := ⟨a - b - 1, by omega⟩
    rw [Int.pow_add, Int.pow_succ] at h
    have hb := pow_pos' b
    have hd := pow_pos' d
    have h1 := Int.mul_le_mul_of_nonneg_left (show (1 : Int) ≤ 256 ^ d by omega) (show (0 : Int) ≤ 256 ^ b * 256 by omega)
    omega
  · exact hge
theorem Cost.len {c : CSt} {n : Nat} (h : Cost c (9 * n)) : c.l.length ≤ 4 + 7 * n := by
  obtain ⟨a1, a2, a3, a4⟩ := h
  have h1 : c.w * 67 ^ (9 * n) ≤ 4294967295 * 256 ^ (7 * n) := Int.le_trans (Int.mul_le_mul_of_nonneg_left (pow67 n) (by omega)) (Int.mul_le_mul_of_nonneg_right (by omega) (Int.le_of_lt (pow_pos' _)))
  have h2 : (256 : Int) ^ (c.l.length - 4) ≤ 256 ^ (7 * n) := by omega
  have := pow256_le h2
  omega
theorem least_is (Q : Nat → Prop) : ∀ k, Q k → ∃ d, Q d ∧ ∀ d', d' < d → ¬ Q d' := by
  intro k
  induction k using Nat.strongRecOn with
  | ind k ih =>
    intro hk
    by_cases h : ∃ d', d' < k ∧ Q d'
    · obtain ⟨d', h1, h2⟩ := h
      exact ih d' h1 h2
    · exact ⟨k, hk, fun d' h1 h2 => h ⟨d', h1, h2⟩⟩
theorem most_is (P : Nat → Prop) (M : Nat) : ∀ j, (∃ n, 3 ≤ n ∧ n ≤ M ∧ P n ∧ ∀ m, n < m → m ≤ M → ¬ P m) ∨ ∀ n, M < n + j → n ≤ M → 3 ≤ n → ¬ P n
  | 0 => .inr fun n h1 h2 _ => absurd h1 (by omega)
  | j + 1 => by
    rcases most_is P M j with h | h
    · exact .inl h
    · by_cases hj : j ≤ M ∧ 3 ≤ M - j ∧ P (M - j)
      · exact .inl ⟨M - j, hj.2.1, by omega, hj.2.2, fun m h1 h2 => h m (by omega) h2 (by omega)⟩
      · refine .inr fun n h1 h2 h3 hp => ?_
        by_cases hlt : M < n + j
        · exact h n hlt h2 h3 hp
        · have e : n = M - j := by omega
          subst e
          exact hj ⟨by omega, h3, hp⟩
theorem best_is (zs : List Int) (a : Nat) (ha : a < zs.length) : ∃ n d, BestOf zs a n d := by
  obtain ⟨M, hM⟩ : ∃ M, min 257 (zs.length - a) = M := ⟨_, rfl⟩
  rcases most_is (fun n => ∃ d, 1 ≤ d ∧ d ≤ a ∧ d ≤ 4096 ∧ run zs a d n) M M with ⟨n, h3, hle, ⟨d0, q⟩, hno⟩ | h
  · obtain ⟨d, ⟨h1, h2, h4, h5⟩, hl⟩ := least_is (fun d => 1 ≤ d ∧ d ≤ a ∧ d ≤ 4096 ∧ run zs a d n) d0 q
    refine ⟨n, d, ⟨by omega, by omega⟩, ⟨fun e => by omega, fun e => by omega⟩, fun _ => ⟨h3, h1, h2, h4, h5⟩, fun hlt d' x1 x2 x3 x4 hx => ?_, fun d' x1 x2 hx => hl d' x2 ⟨x1, by omega, by omega, hx⟩⟩
    rw [show max n 2 = n by omega] at hx
    exact hno (n + 1) (by omega) (by omega) ⟨d', x1, x2, x3, hx⟩
  · refine ⟨0, 0, ⟨by omega, by omega⟩, ⟨fun _ => rfl, fun _ => rfl⟩, fun e => absurd e (by decide), fun hlt d' x1 x2 x3 x4 hx => ?_, fun d' x1 x2 => by omega⟩
    exact h 3 (by omega) (by omega) (by omega) ⟨d', x1, x2, x3, hx⟩
theorem tokTo_from (zs : List Int) : ∀ (k : Nat) (ts : List Tok) (a : Nat), zs.length - a ≤ k → TokTo zs ts a → ∃ ts', TokTo zs ts' zs.length
  | 0, ts, a, hk, h => by
    have := h.len
    obtain rfl : a = zs.length := by omega
    exact ⟨ts, h⟩
  | k + 1, ts, a, hk, h => by
    by_cases ha : a < zs.length
    · obtain ⟨n, d, hb⟩ := best_is zs a ha
      exact tokTo_from zs k _ _ (by split <;> omega) (h.step ha hb)
    · have := h.len
      obtain rfl : a = zs.length := by omega
      exact ⟨ts, h⟩
theorem tokTo_is (zs : List Int) : TokTo zs (tokF zs) zs.length := by
  obtain ⟨ts, h⟩ := tokTo_from zs zs.length [] 0 (by omega) TokTo.start
  rw [tokF_eq h]
  exact h
theorem sq_back {zs : List Int} (hz : ∀ z ∈ zs, 0 ≤ z ∧ z ≤ 255) (hl : zs.length ≤ 500) (ht : TokTo zs (tokF zs) zs.length) :
    sqP zs = (packL (tokF zs), 0) ∧ unpF (packL (tokF zs)) zs.length = (tokF zs, 0) ∧ rightB (tokF zs) 0 = true ∧ plainL (tokF zs) = zs := by
  obtain ⟨r, m, p⟩ := ht.plain (by omega)
  have pl := ht.plainL (by omega)
  have e : packL (tokF zs) = (eRow (tokF zs) (cst0, ms0)).1.l := if_pos r
  have hlen := ht.cost.len
  rw [← e] at hlen
  refine ⟨?_, ?_, r, pl⟩
  · unfold sqP
    rw [if_neg (by omega), if_neg (by omega)]
  · have := unp_pack r (ht.wf hz (by omega))
    rw [pl] at this
    exact this
theorem num21_b (x : Int) (w : World) : Calls Try.prog 35 #[.int .i64 x] w fun e w' => e = .returned (.int .i64 x) ∧ w = w' := by
  go_enter Try.func35, Try.ntmps35
  go_wp2
  go_ret
  exact ⟨rfl, rfl⟩
set_option maxRecDepth 100000 in
set_option maxHeartbeats 3200000 in
theorem back21_any (A : Option Addr) (L cap : Nat) (zs : List Int) (W : World) (h : Bs W A L cap zs) :
    Calls Try.prog 12 #[.slice A L cap] W fun e w' => e = .returned (.bool true) ∧ Below W.heap.size W w' := by
  have hle := h.le
  have hmx := h.max
  have HL := Lib.hid h.len
  have HB := Lib.hid h
  clear h
  by_cases g0 : 500 < L
  · have d0 : decide (500 < (L : Int)) = true := decide_eq_true (by omega)
    go_enter Try.func12, Try.ntmps12
    go_wp2_with fail
    refine (alive21_any W).mono ?_
    rintro e w1 ⟨rfl, k1⟩
    go_wp2
    go_ret
    exact ⟨rfl, k1.below (fun _ _ h => h)⟩
  have d0 : decide (500 < (L : Int)) = false := decide_eq_false (by omega)
  obtain ⟨ts, hts⟩ : ∃ x, tokF zs = x := ⟨_, rfl⟩
  have ET : Hid (sqT zs = ts) := by show _ = _; unfold sqT; rw [if_neg (by have := HL.out; omega)]; exact hts
  have SB : Hid (TokTo zs ts zs.length → sqP zs = (packL ts, 0) ∧ unpF (packL ts) (L : Int) = (ts, 0) ∧ rightB ts 0 = true ∧ plainL ts = zs) := fun ht => by
    have := sq_back HB.out.byte (by have := HL.out; omega) (by rw [hts]; exact ht)
    rw [hts, HL.out] at this
    exact this
  have TO : Hid (TokTo zs ts zs.length) := by show TokTo _ _ _; rw [← hts]; exact tokTo_is zs
  clear hts
  obtain ⟨sz, hsz⟩ : ∃ sz, strOf zs = sz := ⟨_, rfl⟩
  have HSZ := Lib.hid hsz
  have qz : (sz.toList == sz.toList) = true := by simp
  clear hsz
  have QT := Lib.hid (fun w' (h' : Bs w' A L cap zs) => qtok_any A L cap zs w' h')
  unfold TokTold at QT
  rw [ET.out] at QT
  obtain ⟨SPE, UNE, RB0, PL0⟩ := SB.out TO.out
  have SP := Lib.hid SPE
  have UN := Lib.hid UNE
  have RB := Lib.hid RB0
  have PL := Lib.hid PL0
  clear SPE UNE RB0 PL0 SB
  obtain ⟨pk, hpk⟩ : ∃ x, packL ts = x := ⟨_, rfl⟩
  rw [hpk] at SP UN
  clear hpk
  go_enter Try.func12, Try.ntmps12
  go_wp2_with fail
  refine (alive21_any W).mono ?_
  rintro e w1 ⟨rfl, k1⟩
  have K1 := Lib.hid k1
  clear k1
  go_wp2_with fail
  refine (qpack_any A L cap zs _ (HB.out.keeps K1.out (fun _ _ _ _ _ h => h))).mono ?_
  rw [SP.out]
  rintro e w2 ⟨v2, rfl, o2, k2⟩
  obtain ⟨A2, c2, rfl, b2, -⟩ := o2.shape
  have K2 := Lib.hid (K1.out.trans k2 (T := None) (fun _ h => h) (fun _ _ h => h))
  have B2 := Lib.hid b2
  clear o2 k2 b2
  dsimp only at B2 ⊢
  go_wp2_with fail
  refine (tkunpack_any A2 _ c2 _ _ _ B2.out).mono ?_
  rw [UN.out]
  rintro e w3 ⟨v3, rfl, o3, wf3, k3⟩
  obtain ⟨A3, c3, rfl, t3, -⟩ := o3.shape wf3
  have K3 := Lib.hid (K2.out.trans k3 (T := None) (fun _ h => h) (fun _ _ h => h))
  have T3 := Lib.hid t3
  have B3 := Lib.hid (HB.out.keeps K3.out (fun _ _ _ _ _ h => h))
  clear o3 wf3 k3 t3
  dsimp only at T3 ⊢
  obtain ⟨tl, htl⟩ : ∃ x, ts.length = x := ⟨_, rfl⟩
  have TL2 := Lib.hid htl
  rw [htl] at T3 ⊢
  clear htl
  go_wp2
  obtain ⟨mS, mh⟩ : ∃ S : World → Prop, ∀ w', S w' ↔ (((convert 32 9 (.slice A L cap)).run Try.prog w' = .ok (.string sz) w')) := ⟨_, fun _ => Iff.rfl⟩
  have mk0 : ∀ x : Memb mS, (convert 32 9 (.slice A L cap)).run Try.prog x.at_ = .ok (.string sz) x.at_ := fun x => ((mh _).1 x.is)
  have mn : Nonempty (Memb mS) := ⟨⟨(w3).drew, (mh _).2 ((HSZ.out ▸ run_str B3.out.drew))⟩⟩
  have mH := Lib.hid mh
  clear mh
  refine wp_region_mix [1, 5, 10, 11, 18, 19, 23, 24, 25] (InS mS) (by kernel_rfl) (by kernel_rfl) (InS.mk ((mH.out _).2 ((HSZ.out ▸ run_str B3.out.drew)))) ?_
  refine wpMix_seg 1 (by kernel_rfl) (by decide) ?_
  simp only [List.take_succ_cons, List.take_zero, List.drop_succ_cons, List.drop_zero]
  repeat (first | go_big_quiet_step (fail) | (go_big_quiet_want; first | refine quiet_conv mk0 rfl rfl rfl (by simp only [Act.put, List.setIfInBounds_toArray, List.set_cons_succ, List.set_cons_zero]; rfl) ?_; go_big_quiet_on))
  refine wpQuiet_nil ?_
  refine wpMix_eff (by kernel_rfl) ?_
  go_wp2_with fail
  refine (num21_b _ _).mono ?_
  rintro e w' ⟨rfl, rfl⟩
  go_wp2
  refine MixK.on (InS.mk ((mH.out _).2 ((HSZ.out ▸ run_str B3.out.drew)))) ?_
  refine wpMix_seg 3 (by kernel_rfl) (by decide) ?_
  simp only [List.take_succ_cons, List.take_zero, List.drop_succ_cons, List.drop_zero]
  repeat (first | go_big_quiet_step (fail) | (go_big_quiet_want; first | refine quiet_conv mk0 rfl rfl rfl (by simp only [Act.put, List.setIfInBounds_toArray, List.set_cons_succ, List.set_cons_zero]; rfl) ?_; go_big_quiet_on))
  refine wpQuiet_nil ?_
  refine wpMix_eff (by kernel_rfl) ?_
  go_wp2_with fail
  refine (num21_b _ _).mono ?_
  rintro e w' ⟨rfl, rfl⟩
  go_wp2
  refine MixK.on (InS.mk ((mH.out _).2 ((HSZ.out ▸ run_str B3.out.drew)))) ?_
  refine wpMix_seg 4 (by kernel_rfl) (by decide) ?_
  simp only [List.take_succ_cons, List.take_zero, List.drop_succ_cons, List.drop_zero]
  repeat (first | go_big_quiet_step (fail) | (go_big_quiet_want; first | refine quiet_conv mk0 rfl rfl rfl (by simp only [Act.put, List.setIfInBounds_toArray, List.set_cons_succ, List.set_cons_zero]; rfl) ?_; go_big_quiet_on))
  refine wpQuiet_nil ?_
  refine wpMix_eff (by kernel_rfl) ?_
  go_wp2_with fail
  refine (tkplain_any A3 _ c3 _ _ T3.out.drew).mono ?_
  rw [PL.out]
  rintro e w4 ⟨v4, rfl, o4, k4⟩
  obtain ⟨A4, c4, rfl, b4, -⟩ := o4.shape
  rw [HL.out] at b4 ⊢
  have B4 := Lib.hid (B3.out.drew.keeps k4 (fun _ _ _ _ _ h => h))
  have K4 := Lib.hid (K3.out.drew.trans k4 (T := None) (fun _ h => h) (fun _ _ h => h))
  have sd := run_str b4
  rw [HSZ.out] at sd
  clear o4 k4 b4
  go_wp2
  refine MixK.on (InS.mk ((mH.out _).2 ((HSZ.out ▸ run_str B4.out)))) ?_
  refine wpMix_eff (by kernel_rfl) ?_
  go_wp2
  refine MixK.on (InS.mk ((mH.out _).2 ((HSZ.out ▸ run_str B4.out)))) ?_
  refine wpMix_seg 6 (by kernel_rfl) (by decide) ?_
  simp only [List.take_succ_cons, List.take_zero, List.drop_succ_cons, List.drop_zero]
  repeat (first | go_big_quiet_step (fail) | (go_big_quiet_want; first | refine quiet_conv mk0 rfl rfl rfl (by simp only [Act.put, List.setIfInBounds_toArray, List.set_cons_succ, List.set_cons_zero]; rfl) ?_; go_big_quiet_on))
  refine wpQuiet_nil ?_
  refine wpMix_eff (by kernel_rfl) ?_
  go_wp2_with fail
  refine (QT.out _ B4.out).mono ?_
  rintro e w5 ⟨v5, rfl, o5, wf5, -, k5⟩
  obtain ⟨A5, c5, rfl, t5, -⟩ := o5.shape wf5
  rw [TL2.out] at t5 ⊢
  have T5 := Lib.hid t5
  have B5 := Lib.hid (B4.out.keeps k5 (fun _ _ _ _ _ h => h))
  have K5 := Lib.hid (K4.out.trans k5 (T := None) (fun _ h => h) (fun _ _ h => h))
  clear o5 wf5 k5 t5 sd
  go_wp2
  refine MixK.on (InS.mk ((mH.out _).2 ((HSZ.out ▸ run_str B5.out)))) ?_
  refine wpMix_eff (by kernel_rfl) ?_
  go_wp2_with fail
  refine (tkright_any A5 _ c5 _ _ T5.out).mono ?_
  rw [RB.out]
  rintro e w6 ⟨rfl, k6⟩
  have B6 := Lib.hid (B5.out.keeps k6 (fun _ _ _ _ _ h => h))
  have K6 := Lib.hid (K5.out.trans k6 (T := None) (fun _ h => h) (fun _ _ h => h))
  clear k6
  go_wp2
  refine MixK.on (InS.mk ((mH.out _).2 ((HSZ.out ▸ run_str B6.out)))) ?_
  refine wpMix_seg 3 (by kernel_rfl) (by decide) ?_
  simp only [List.take_succ_cons, List.take_zero, List.drop_succ_cons, List.drop_zero]
  repeat (first | go_big_quiet_step (fail) | (go_big_quiet_want; first | refine quiet_conv mk0 rfl rfl rfl (by simp only [Act.put, List.setIfInBounds_toArray, List.set_cons_succ, List.set_cons_zero]; rfl) ?_; go_big_quiet_on))
  refine wpQuiet_nil ?_
  refine wpMix_eff (by kernel_rfl) ?_
  go_wp2_with fail
  refine (QT.out _ B6.out).mono ?_
  rintro e w7 ⟨v7, rfl, o7, wf7, -, k7⟩
  obtain ⟨A7, c7, rfl, t7, -⟩ := o7.shape wf7
  rw [TL2.out] at t7 ⊢
  have T7 := Lib.hid t7
  have B7 := Lib.hid (B6.out.keeps k7 (fun _ _ _ _ _ h => h))
  have K7 := Lib.hid (K6.out.trans k7 (T := None) (fun _ h => h) (fun _ _ h => h))
  clear o7 wf7 k7 t7
  go_wp2
  refine MixK.on (InS.mk ((mH.out _).2 ((HSZ.out ▸ run_str B7.out)))) ?_
  refine wpMix_eff (by kernel_rfl) ?_
  go_wp2_with fail
  refine (tkplain_any A7 _ c7 _ _ T7.out).mono ?_
  rw [PL.out]
  rintro e w8 ⟨v8, rfl, o8, k8⟩
  obtain ⟨A8, c8, rfl, b8, -⟩ := o8.shape
  rw [HL.out] at b8 ⊢
  have B8 := Lib.hid (B7.out.keeps k8 (fun _ _ _ _ _ h => h))
  have K8 := Lib.hid (K7.out.trans k8 (T := None) (fun _ h => h) (fun _ _ h => h))
  have sd := run_str b8
  rw [HSZ.out] at sd
  clear o8 k8 b8
  go_wp2
  refine MixK.on (InS.mk ((mH.out _).2 ((HSZ.out ▸ run_str B8.out)))) ?_
  refine wpMix_eff (by kernel_rfl) ?_
  go_wp2
  refine MixK.on (InS.mk ((mH.out _).2 ((HSZ.out ▸ run_str B8.out)))) ?_
  refine wpMix_seg 5 (by kernel_rfl) (by decide) ?_
  simp only [List.take_succ_cons, List.take_zero, List.drop_succ_cons, List.drop_zero]
  repeat (first | go_big_quiet_step (fail) | (go_big_quiet_want; first | refine quiet_conv mk0 rfl rfl rfl (by simp only [Act.put, List.setIfInBounds_toArray, List.set_cons_succ, List.set_cons_zero]; rfl) ?_; go_big_quiet_on))
  refine wpQuiet_nil ?_
  refine wpMix_nil ?_
  clear mk0 mn mH
  go_wp2
  go_ret
  exact ⟨by simp, K8.out.below (fun _ _ h => h)⟩
set_option maxRecDepth 100000 in
theorem SqueezeBack_lifted (os : Os) (started : os.Started) (H : Type) (enc : TypeId × Value → H) :
    ReturnsInHanded {} Try.checked os 12 .any (Rows.squeezeBackSpec.pre6 enc Try.prog Try.f12 Rows.squeezeBackRow.domain false) (Rows.squeezeBackSpec.post enc Try.prog Try.f12 false true false false) := by
  refine returnsInHanded_of_change (C := Try.checked) Try.own started (by kernel_rfl) Try.func12
    (ChangeSpec.witness6 (enc := enc) (C := Try.checked) false ⟨#[], #[.slice none 0 0], []⟩ 8 (by kernel_rfl) (by kernel_rfl) (by kernel_rfl) (by kernel_rfl)) ?_
  intro W base args ds gs before hval0 hW hcnd _
  have hval : ∀ (j : Nat) t v, Try.f12.params[j]? = some t → args[j]? = some v → Value.okWide Try.prog W .any base t v := hval0
  have hW' := hW
  obtain ⟨p, q, hA0, hV, rfl, hfz, hnd⟩ := hW
  have hA : DataW.TrodAll enc Try.prog W 0 (fun _ => true) true Try.f12.params.toList args.toList ds p := hA0
  rw [Try.params12] at hA hval
  obtain ⟨v0, vs0, d0, ds0, p0, q0, hargs, rfl, rfl, h0, r0⟩ := trodAll_cons hA
  obtain ⟨rfl, rfl, rfl⟩ := trodAll_nil r0
  obtain rfl : args = #[v0] := by cases args; simp_all
  obtain ⟨rfl, rfl⟩ := trodVars_none hV
  have k0 := h0
  have lt0 : ∀ x ∈ p0, x.block < W.heap.size := by obtain ⟨m, hm⟩ := k0; exact DataW.trod_lt m _ _ _ hm
  obtain ⟨a0, len0, cap0, rfl⟩ := okWide_slice Try.underlying32 (hval 0 32 v0 rfl rfl)
  obtain ⟨z0, s0⟩ := open_bs h0
  clear hA0 hval0
  refine (back21_any a0 len0 cap0 z0 W s0).mono fun e W' ⟨he, bel⟩ => ?_
  subst he
  exact ⟨_, rfl, _, _, _, [], _, [], hW', trodAll_mk1 (shut_bool Try.underlying4 _), (trodAll_cons_mk (Below.trod Try.laidOut (by kernel_rfl) (of_decide_eq_true (by kernel_rfl)) k0 bel lt0) trodAll_mk0), rfl, bel.frame _, fun h => by cases h⟩

set_option maxRecDepth 100000 in
theorem SqueezeBack_closed : joinedFacts Try.checked.prog 12 Try.f12 Rows.squeezeBackSpec Rows.squeezeBackRow = true := by
  unfold joinedFacts
  rw [closed_laid, closed_maps, closed_heard, closed_plain, closed_mayEnter, closed_lifts, closed_make]
  kernel_rfl

theorem SqueezeBack_holds : Rows.SqueezeBackSaid :=
  OpenClaim.holds_of_wide 12 Try.f12 rfl rfl rfl rfl rfl rfl rfl ⟨rfl, rfl, rfl, rfl, rfl⟩ rfl rfl rfl rfl rfl (by kernel_rfl) Try.func12 SqueezeBack_closed
    (of_decide_eq_true (by kernel_rfl)) (by unfold Func.isWrapper; first | (rw [if_pos (by decide +kernel)]; kernel_rfl) | (rw [if_neg (by decide +kernel)]; exact ⟨rfl, rfl⟩))
    (fun os started H enc _ => SqueezeBack_lifted os started H enc)
#print axioms SqueezeBack_holds
end Go.Proofs.Ytggjdkkobhefeaa
