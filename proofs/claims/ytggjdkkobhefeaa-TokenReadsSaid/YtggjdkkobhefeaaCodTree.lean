/- The walks of a coder's Tree, of both the program's and the reference's; what a tree's number comes to. -/
import Derived.Test.YtggjdkkobhefeaaCodMath
import Derived.Test.YtggjdkkobhefeaaBits2
namespace Go.Proofs.Ytggjdkkobhefeaa
open Go.RowKit

def cBitS (s : CSt) (p bit : Int) : CSt := ⟨cBitL s.l s.w p bit, cBitW s.w p bit⟩
structure TSt where
  c : CSt
  ps : List Int
  node : Int
def vbit (v : Nat) (i : Nat) : Int := ((v / 2 ^ i % 2 : Nat) : Int)
def tStep (v : Nat) (i : Nat) (t : TSt) : TSt := ⟨cBitS t.c (atN t.ps t.node) (vbit v i), turnN t.ps t.node (vbit v i), 2 * t.node + vbit v i⟩
/-- The bits of v from the j-th on down. -/
def tRun (v : Nat) : Nat → TSt → TSt
  | 0, t => t
  | i + 1, t => tRun v i (tStep v i t)
theorem cBitS_w (s : CSt) (p bit : Int) (h0 : 16777216 ≤ s.w) (h1 : s.w < 4294967296) : 16777216 ≤ (cBitS s p bit).w ∧ (cBitS s p bit).w < 4294967296 := by
  have a1 := hold_lo p
  have a2 := hold_hi p
  have h3 : 8192 ≤ s.w / 2048 := by omega
  have h4 : s.w / 2048 * hold p ≤ s.w / 2048 * 2017 := Int.mul_le_mul_of_nonneg_left a2 (by omega)
  have h5 : s.w / 2048 * 31 ≤ s.w / 2048 * hold p := Int.mul_le_mul_of_nonneg_left a1 (by omega)
  have g3 := strW_wide (cBd s.w p) (by unfold cBd; omega)
  have g4 := strW_bd (cBd s.w p) (by unfold cBd; omega) (by unfold cBd; omega)
  have g5 := strW_wide (s.w - cBd s.w p) (by unfold cBd; omega)
  have g6 := strW_bd (s.w - cBd s.w p) (by unfold cBd; omega) (by unfold cBd; omega)
  unfold cBitS cBitW
  simp only
  split
  · exact ⟨g3, g4.2.1⟩
  · exact ⟨g5, g6.2.1⟩
theorem cBitS_len (s : CSt) (p bit : Int) : (cBitS s p bit).l.length ≤ s.l.length + 1 := by
  unfold cBitS cBitL
  have h3 := cStrL_le s.l (cBd s.w p)
  have h4 := cStrL_le (addL s.l (cBd s.w p)) (s.w - cBd s.w p)
  rw [addL_length] at h4
  simp only
  split <;> omega
/-- A tree's chances as they always are. -/
def TOk (ps : List Int) (n : Nat) : Prop := ps.length = 2 ^ n ∧ 1 ≤ n ∧ n ≤ 8 ∧ (∀ i, 1 ≤ i → i < ps.length → 31 ≤ ps.getD i 0) ∧ InRange ps
theorem TOk.turn {ps : List Int} {n : Nat} (h : TOk ps n) (node bit : Int) : TOk (turnN ps node bit) n := by
  obtain ⟨h1, h2, h3, h4, h5⟩ := h
  refine ⟨by rw [turnN_length]; exact h1, h2, h3, fun i hi hl => ?_, h5.turn node bit⟩
  rw [turnN_length] at hl
  unfold turnN
  split
  · rw [getD_set]
    split
    · exact adapt_lo _ _
    · exact h4 i hi hl
  · exact h4 i hi hl
theorem TOk.le {ps : List Int} {n : Nat} (h : TOk ps n) : ps.length ≤ 256 := by rw [h.1]; exact pow_le_256 h.2.2.1
theorem TOk.new (bits : Int) : TOk (List.replicate (2 ^ szN bits) 1024) (szN bits) :=
  ⟨by simp, szN_lo _, szN_hi _, fun i _ hl => by
    rw [List.length_replicate] at hl
    simp [List.getD, List.getElem?_replicate, hl], rep_range _⟩

set_option maxRecDepth 100000 in
set_option maxHeartbeats 400000 in
theorem csize_any (bt bp : Nat) (ps : List Int) (n : Nat) (w : World) (h : MTree w bt bp ps) (ok : TOk ps n) :
    Calls Try.prog 116 #[.pointer (some ⟨bt, 0, none⟩)] w fun e w' => e = .returned (.int .i64 n) ∧ w = w' := by
  obtain ⟨h1, h2, h3, h4, h5⟩ := ok
  have hle := pow_le_256 h3
  have yes : Hid (∀ k, k < n → (atN ps ((2 ^ k : Nat) : Int) != 0) = true) := fun k hk => by
    have hp : 2 ^ k < 2 ^ n := Nat.pow_lt_pow_right (by decide) hk
    have h0 : 1 ≤ 2 ^ k := Nat.one_le_two_pow
    have := h4 (2 ^ k) h0 (by omega)
    unfold atN
    rw [if_pos (by omega)]
    simp only [Int.toNat_natCast, bne_iff_ne, ne_eq]; omega
  have no : Hid (atN ps ((2 ^ n : Nat) : Int) = 0) := by
    show atN ps ((2 ^ n : Nat) : Int) = 0
    unfold atN; rw [if_neg (by omega)]
  have HAT := Lib.hid (fun node => at_any bt bp ps node w h (by omega) h5)
  clear h1 h4 h5 hle h
  go_enter Try.func116, Try.ntmps116
  go_wp2
  go_loop [3] (fun i => ∃ k : Nat, k ≤ n ∧ i = .int .i64 k) (fun i => n - (intOf i).toNat)
  case atStart => exact ⟨0, Nat.zero_le _, rfl⟩
  case round =>
    obtain ⟨k, hk, rfl⟩ := hrel
    have hk8 : k ≤ 8 := by omega
    have hw : wrap64 ((2 : Int) ^ k) = ((2 ^ k : Nat) : Int) := pow_wrap hk8
    have A := Lib.hid (HAT.out ((2 ^ k : Nat) : Int))
    by_cases hlt : k < n
    · have Y := yes.out k hlt
      generalize ((2 ^ k : Nat) : Int) = m at *
      go_wp2_with (go_at_call 117; refine A.out.mono ?_; rintro e w' ⟨rfl, rfl⟩)
      go_round
      case rel => exact ⟨k + 1, by omega, by go_num⟩
      case measure => simp [intOf]; omega
    · obtain rfl : k = n := by omega
      have N := no.out
      rw [N] at A
      clear N
      generalize ((2 ^ k : Nat) : Int) = m at *
      go_wp2_with (go_at_call 117; refine A.out.mono ?_; rintro e w' ⟨rfl, rfl⟩)
      go_ret
      exact ⟨rfl, rfl⟩

/-- A coder and a tree behind a call: the coder's bytes lie where they lay, or in a new block. -/
def TMoved (w : World) (b g bt bp : Nat) (c : CSt) (ps : List Int) (w' : World) : Prop :=
  ∃ g', (g' = g ∨ w.heap.size ≤ g') ∧ CAt w' b g' 146 c.l c.w ∧ MTree w' bt bp ps ∧ Keeps (fun k => k = b ∨ k = g ∨ k = bp) w w'
def RTMoved (w : World) (b g bt bp : Nat) (bits : Int) (c : CSt) (ps : List Int) (w' : World) : Prop :=
  ∃ g', (g' = g ∨ w.heap.size ≤ g') ∧ CAt w' b g' 144 c.l c.w ∧ RTree w' bt bp bits ps ∧ Keeps (fun k => k = b ∨ k = g ∨ k = bp) w w'
/-- What holds of the coder and the tree within Tree's loop: j bits are left. -/
structure TLoop (v n j : Nat) (t fin : TSt) (len : Nat) : Prop where
  run : tRun v j t = fin
  le : j ≤ n
  node0 : 1 ≤ t.node
  node1 : t.node < ((2 ^ (n + 1 - j) : Nat) : Int)
  ok : TOk t.ps n
  w0 : 16777216 ≤ t.c.w
  w1 : t.c.w < 4294967296
  len : t.c.l.length + j ≤ len
theorem vbit_bd (v i : Nat) : 0 ≤ vbit v i ∧ vbit v i ≤ 1 := by unfold vbit; omega
theorem TLoop.step {v n i : Nat} {t fin : TSt} {len : Nat} (h : TLoop v n (i + 1) t fin len) : TLoop v n i (tStep v i t) fin len := by
  have hb := vbit_bd v i
  have hle := h.le
  refine ⟨h.run, by omega, ?_, ?_, h.ok.turn _ _, (cBitS_w _ _ _ h.w0 h.w1).1, (cBitS_w _ _ _ h.w0 h.w1).2, ?_⟩
  · have := h.node0
    show 1 ≤ 2 * t.node + vbit v i
    omega
  · have h1 := h.node1
    show 2 * t.node + vbit v i < ((2 ^ (n + 1 - i) : Nat) : Int)
    have e : n + 1 - i = (n + 1 - (i + 1)) + 1 := by omega
    rw [e, Nat.pow_succ]
    omega
  · have := h.len
    have := cBitS_len t.c (atN t.ps t.node) (vbit v i)
    show (cBitS t.c (atN t.ps t.node) (vbit v i)).l.length + i ≤ len
    omega
theorem TLoop.node {v n i : Nat} {t fin : TSt} {len : Nat} (h : TLoop v n (i + 1) t fin len) : t.node < t.ps.length ∧ t.node < 256 := by
  have h1 := h.node1
  have h2 : 2 ^ (n + 1 - (i + 1)) ≤ 2 ^ n := Nat.pow_le_pow_right (by decide) (by omega)
  have h3 := pow_le_256 h.ok.2.2.1
  rw [h.ok.1]
  omega
theorem TLoop.start {s : CSt} {ps : List Int} {n : Nat} (v : Nat) (ok : TOk ps n) (h0 : 16777216 ≤ s.w) (h1 : s.w < 4294967296) : TLoop v n n ⟨s, ps, 1⟩ (tRun v n ⟨s, ps, 1⟩) (s.l.length + n) :=
  ⟨rfl, Nat.le_refl _, by simp, by simp only; rw [show n + 1 - n = 1 by omega]; decide, ok, h0, h1, by simp⟩
theorem bit_of (v i : Nat) (hv : v < 256) : bits .and .i64 ((v : Int) / 2 ^ i) 1 = vbit v i := by
  have e : (v : Int) / 2 ^ i = ((v / 2 ^ i : Nat) : Int) := by simp
  have hle : v / 2 ^ i ≤ v := Nat.div_le_self _ _
  rw [e]
  unfold vbit
  exact i64_and_one _ (by omega)

set_option maxRecDepth 100000 in
set_option maxHeartbeats 1600000 in
theorem ctree_in (b g bt bp : Nat) (s : CSt) (ps : List Int) (n v : Nat) (w : World) (hc : CAt w b g 146 s.l s.w) (ht : MTree w bt bp ps) (ok : TOk ps n) (h0 : 16777216 ≤ s.w) (h1 : s.w < 4294967296) (hl : s.l.length ≤ 1000000000)
    (a1 : b ≠ bt) (a2 : b ≠ bp) (a3 : g ≠ bt) (a4 : g ≠ bp) (hv : v < 2 ^ n) :
    Calls Try.prog 97 #[.pointer (some ⟨b, 0, none⟩), .pointer (some ⟨bt, 0, none⟩), .int .i64 v] w fun e w' => e = .returned (.tuple #[]) ∧ TMoved w b g bt bp (tRun v n ⟨s, ps, 1⟩).c (tRun v n ⟨s, ps, 1⟩).ps w' := by
  have hn8 := ok.2.2.1
  have SZ := Lib.hid (csize_any bt bp ps n w ht ok)
  have hw : wrap64 ((2 : Int) ^ n) = ((2 ^ n : Nat) : Int) := pow_wrap hn8
  have q0 : decide ((v : Int) < 0) = false := decide_eq_false (by omega)
  have q1 : decide ((2 : Int) ^ n ≤ v) = false := decide_eq_false (by have e : ((2 ^ n : Nat) : Int) = (2 : Int) ^ n := by simp
                                                                      omega)
  have hv8 : v < 256 := by have := pow_le_256 hn8; omega
  have START := Lib.hid (TLoop.start v ok h0 h1)
  generalize tRun v n ⟨s, ps, 1⟩ = FIN at *
  have BT := ht.1.lt
  have BP := ht.2.1.lt
  have HC := Lib.hid hc
  have HT := Lib.hid ht
  clear hc ht ok h0
  go_enter Try.func97, Try.ntmps97
  go_wp2_with (go_at_call 116; refine SZ.out.mono ?_; rintro e w' ⟨rfl, rfl⟩)
  go_loopw [7, 8] (fun nd iv wr => ∃ (j g' : Nat) (t : TSt), iv = .int .i64 ((j : Int) - 1) ∧ nd = .int .i64 t.node ∧ TLoop v n j t FIN (s.l.length + n) ∧ (g' = g ∨ w.heap.size ≤ g') ∧ CAt wr b g' 146 t.c.l t.c.w ∧ MTree wr bt bp t.ps ∧ Keeps (fun k => k = b ∨ k = g ∨ k = bp) w wr) (fun _ iv _ => (intOf iv + 1).toNat)
  case atStart => exact ⟨n, g, ⟨s, ps, 1⟩, rfl, rfl, START.out, .inl rfl, HC.out, HT.out, Keeps.refl _ _⟩
  case round =>
    obtain ⟨j, g', t, hi, rfl, HL, hg', hcc, htt, hk⟩ := hrel
    clear HC HT START q0 q1 hw
    cases j with
    | zero =>
      have e0 : ((0 : Nat) : Int) - 1 = -1 := rfl
      rw [e0] at hi
      subst hi
      have e1 : t = FIN := HL.run
      subst e1
      have HF : Hid (TMoved w b g bt bp t.c t.ps wr) := ⟨g', hg', hcc, htt, hk⟩
      clear hcc htt hk hg' HL e0
      go_wp2
      go_end0
      exact ⟨rfl, HF.out⟩
    | succ i =>
      have e0 : ((i + 1 : Nat) : Int) - 1 = i := by omega
      rw [e0] at hi
      subst hi
      have ev := bit_of v i hv8
      obtain ⟨v0, v1⟩ := vbit_bd v i
      have n0 := HL.node0
      obtain ⟨-, n1⟩ := HL.node
      have le8 := HL.le
      have AT := Lib.hid (at_any bt bp t.ps t.node wr htt HL.ok.le HL.ok.2.2.2.2)
      have BI := Lib.hid (cbit_any b g' t.c.l t.c.w (atN t.ps t.node) (vbit v i) wr hcc (by have := HL.w0; omega) HL.w1 (by have := HL.len; omega))
      have NX := Lib.hid HL.step
      have HL2 := Lib.hid HL
      have HT := Lib.hid htt
      have HK := Lib.hid hk
      have hsz := hk.size
      have x1 : g' ≠ bt := by rcases hg' with h | h <;> omega
      have x2 : g' ≠ bp := by rcases hg' with h | h <;> omega
      clear e0 HL hcc htt hk
      have NE : Hid (2 * t.node + vbit v i = (tStep v i t).node) := rfl
      have PE : Hid (turnN t.ps t.node (vbit v i) = (tStep v i t).ps) := rfl
      have CE : Hid (cBitL t.c.l t.c.w (atN t.ps t.node) (vbit v i) = (tStep v i t).c.l ∧ cBitW t.c.w (atN t.ps t.node) (vbit v i) = (tStep v i t).c.w) := ⟨rfl, rfl⟩
      generalize tStep v i t = t2 at *
      generalize vbit v i = bit at *
      rw [CE.out.1, CE.out.2] at BI
      generalize atN t.ps t.node = p at *
      have TU := Lib.hid (fun w h => turn_any bt bp t.ps t.node bit w h HL2.out.ok.le HL2.out.ok.2.2.2.2)
      rw [PE.out] at TU
      obtain ⟨nd, hnd⟩ : ∃ nd, nd = t.node := ⟨_, rfl⟩
      rw [← hnd] at AT TU n0 n1 NE ⊢
      clear hnd
      go_wp2_with fail
      refine AT.out.mono ?_
      rintro e w1 ⟨rfl, rfl⟩
      go_wp2_with fail
      refine BI.out.mono ?_
      rintro e w2 ⟨rfl, g2, hg2, c2, k2⟩
      have T2 := Lib.hid (HT.out.keeps k2 (by omega) (by omega))
      have C2 := Lib.hid c2
      have K2 := Lib.hid k2
      have hsz2 := k2.size
      clear c2 k2
      go_wp2_with fail
      refine (TU.out _ T2.out).mono ?_
      rintro e w3 ⟨rfl, t3, k3⟩
      have C3 := Lib.hid (C2.out.keeps k3 (by omega) (by rcases hg2 with h | h <;> omega))
      have T3 := Lib.hid t3
      have K3 := Lib.hid ((HK.out.trans K2.out (T := fun k => k = b ∨ k = g ∨ k = bp) (fun _ h => h) (fun x hx h => by rcases h with h | h <;> omega)).trans k3 (fun _ h => h) (fun _ _ h => by omega))
      clear t3 k3
      go_wp2
      go_roundw
      case rel => exact ⟨i, g2, t2, rfl, by rw [NE.out], NX.out, by omega, C3.out, T3.out, K3.out⟩
      case measure => simp [intOf]

set_option maxRecDepth 100000 in
set_option maxHeartbeats 800000 in
theorem ctree_out (b bt bp : Nat) (ps : List Int) (n : Nat) (v : Int) (w : World) (ht : MTree w bt bp ps) (ok : TOk ps n) (hv : v < 0 ∨ ((2 ^ n : Nat) : Int) ≤ v) :
    Calls Try.prog 97 #[.pointer (some ⟨b, 0, none⟩), .pointer (some ⟨bt, 0, none⟩), .int .i64 v] w fun e w' => e = .returned (.tuple #[]) ∧ w = w' := by
  have hn8 := ok.2.2.1
  have SZ := Lib.hid (csize_any bt bp ps n w ht ok)
  have hw : wrap64 ((2 : Int) ^ n) = ((2 ^ n : Nat) : Int) := pow_wrap hn8
  have e : ((2 ^ n : Nat) : Int) = (2 : Int) ^ n := by simp
  clear ht ok
  by_cases h0 : v < 0
  · have q0 : decide (v < 0) = true := decide_eq_true h0
    clear e hv
    go_enter Try.func97, Try.ntmps97
    go_wp2_with (go_at_call 116; refine SZ.out.mono ?_; rintro e w' ⟨rfl, rfl⟩)
    refine bodyPost_ret (results_none rfl _ _ _) rfl ?_
    exact ⟨rfl, rfl⟩
  · have q0 : decide (v < 0) = false := decide_eq_false h0
    have q1 : decide ((2 : Int) ^ n ≤ v) = true := decide_eq_true (by omega)
    clear e hv h0
    go_enter Try.func97, Try.ntmps97
    go_wp2_with (go_at_call 116; refine SZ.out.mono ?_; rintro e w' ⟨rfl, rfl⟩)
    refine bodyPost_ret (results_none rfl _ _ _) rfl ?_
    exact ⟨rfl, rfl⟩
set_option maxRecDepth 100000 in
theorem at_none (node : Int) (w : World) : Calls Try.prog 117 #[.pointer none, .int .i64 node] w fun e w' => e = .returned (.int .i64 0) ∧ w = w' := by
  have HH : Hid (Calls Try.prog 124 #[.pointer none, .int .i64 node] w fun e w' => e = .returned (.bool false) ∧ w = w') := by
    show Calls _ _ _ _ _
    go_enter Try.func124, Try.ntmps124
    go_wp2
    go_ret
    exact ⟨rfl, rfl⟩
  go_enter Try.func117, Try.ntmps117
  go_wp2_with (go_at_call 124; refine HH.out.mono ?_; rintro e w' ⟨rfl, rfl⟩)
  go_ret
  exact ⟨rfl, rfl⟩
set_option maxRecDepth 100000 in
theorem csize_none (w : World) : Calls Try.prog 116 #[.pointer none] w fun e w' => e = .returned (.int .i64 0) ∧ w = w' := by
  go_enter Try.func116, Try.ntmps116
  go_wp2
  go_loop [3] (fun i => i = .int .i64 0) (fun _ => 0)
  case atStart => rfl
  case round =>
    obtain rfl := hrel
    go_wp2_with (go_at_call 117; refine (at_none _ _).mono ?_; rintro e w' ⟨rfl, rfl⟩)
    go_ret
    exact ⟨rfl, rfl⟩
set_option maxRecDepth 100000 in
theorem ctree_notree (b : Nat) (v : Int) (w : World) : Calls Try.prog 97 #[.pointer (some ⟨b, 0, none⟩), .pointer none, .int .i64 v] w fun e w' => e = .returned (.tuple #[]) ∧ w = w' := by
  go_enter Try.func97, Try.ntmps97
  go_wp2_with (go_at_call 116; refine (csize_none _).mono ?_; rintro e w' ⟨rfl, rfl⟩)
  refine bodyPost_ret (results_none rfl _ _ _) rfl ?_
  exact ⟨rfl, rfl⟩
set_option maxRecDepth 100000 in
theorem ctree_nocoder (bt bp : Nat) (ps : List Int) (n : Nat) (v : Int) (w : World) (ht : MTree w bt bp ps) (ok : TOk ps n) :
    Calls Try.prog 97 #[.pointer none, .pointer (some ⟨bt, 0, none⟩), .int .i64 v] w fun e w' => e = .returned (.tuple #[]) ∧ w = w' := by
  have SZ := Lib.hid (csize_any bt bp ps n w ht ok)
  clear ht ok
  go_enter Try.func97, Try.ntmps97
  go_wp2_with (go_at_call 116; refine SZ.out.mono ?_; rintro e w' ⟨rfl, rfl⟩)
  refine bodyPost_ret (results_none rfl _ _ _) rfl ?_
  exact ⟨rfl, rfl⟩
end Go.Proofs.Ytggjdkkobhefeaa
