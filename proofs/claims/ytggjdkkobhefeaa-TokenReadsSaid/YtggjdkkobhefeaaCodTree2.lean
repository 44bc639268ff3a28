/- The walk of the reference's Tree; trees that agree. -/
import Derived.Test.YtggjdkkobhefeaaCodTree
namespace Go.Proofs.Ytggjdkkobhefeaa
open Go.RowKit

theorem TLoop.fin {v n : Nat} {fin : TSt} {len : Nat} : ∀ {j : Nat} {t : TSt}, TLoop v n j t fin len → TLoop v n 0 fin fin len
  | 0, t, h => by have e : t = fin := h.run; subst e; exact h
  | i + 1, t, h => h.step.fin
theorem TOk.rnew (bits : Int) : TOk (rnewN (2 ^ szN bits)) (szN bits) := by
  have h1 : 1 ≤ 2 ^ szN bits := Nat.one_le_two_pow
  have hl : (rnewN (2 ^ szN bits)).length = 2 ^ szN bits := by simp [rnewN]; omega
  refine ⟨hl, szN_lo _, szN_hi _, fun i hi hl2 => ?_, fun p hp => ?_⟩
  · rw [hl] at hl2
    obtain ⟨j, rfl⟩ : ∃ j, i = j + 1 := ⟨i - 1, by omega⟩
    simp [rnewN, List.getD, List.getElem?_replicate, show j < 2 ^ szN bits - 1 by omega]
  · unfold rnewN at hp
    rcases List.mem_cons.1 hp with rfl | hp
    · decide
    · rw [(List.mem_replicate.1 hp).2]; decide
/-- The reference's tree goes along with the program's. -/
theorem tRun_agree (v : Nat) : ∀ (j : Nat) (t r : TSt), t.c = r.c → t.node = r.node → Agree t.ps r.ps → (tRun v j t).c = (tRun v j r).c ∧ Agree (tRun v j t).ps (tRun v j r).ps := by
  intro j
  induction j with
  | zero => intro t r h1 _ h3; exact ⟨h1, h3⟩
  | succ i ih =>
    intro t r h1 h2 h3
    refine ih (tStep v i t) (tStep v i r) ?_ ?_ ?_
    · show cBitS t.c (atN t.ps t.node) (vbit v i) = cBitS r.c (atN r.ps r.node) (vbit v i)
      rw [h1, h2, h3.at_]
    · show 2 * t.node + vbit v i = 2 * r.node + vbit v i
      rw [h2]
    · show Agree (turnN t.ps t.node (vbit v i)) (turnN r.ps r.node (vbit v i))
      rw [h2]; exact h3.turn _ _

set_option maxRecDepth 100000 in
set_option maxHeartbeats 1600000 in
theorem rctree_in (b g bt bp : Nat) (s : CSt) (ps : List Int) (n v : Nat) (w : World) (hc : CAt w b g 144 s.l s.w) (ht : RTree w bt bp n ps) (ok : TOk ps n) (h0 : 16777216 ≤ s.w) (h1 : s.w < 4294967296) (hl : s.l.length ≤ 1000000000)
    (a1 : b ≠ bt) (a2 : b ≠ bp) (a3 : g ≠ bt) (a4 : g ≠ bp) (hv : v < 2 ^ n) :
    Calls Try.prog 93 #[.pointer (some ⟨b, 0, none⟩), .pointer (some ⟨bt, 0, none⟩), .int .i64 v] w fun e w' => e = .returned (.tuple #[]) ∧ RTMoved w b g bt bp n (tRun v n ⟨s, ps, 1⟩).c (tRun v n ⟨s, ps, 1⟩).ps w' := by
  have hn8 := ok.2.2.1
  have hln := ok.1
  have q0 : decide ((v : Int) < 0) = false := decide_eq_false (by omega)
  have q1 : decide (ps.length ≤ v) = false := decide_eq_false (by omega)
  have hv8 : v < 256 := by have := pow_le_256 hn8; omega
  have hl8 := ok.le
  have d0 := ht.1.cellD 0 _ rfl
  have d1 := ht.1.cellD 1 _ rfl
  have START := Lib.hid (TLoop.start v ok h0 h1)
  generalize tRun v n ⟨s, ps, 1⟩ = FIN at *
  have BT := ht.1.lt
  have BP := ht.2.1.lt
  have HC := Lib.hid hc
  have HT := Lib.hid ht
  clear hc ht ok h0 hln
  go_enter Try.func93, Try.ntmps93
  go_wp2
  go_loopw [6, 7] (fun nd iv wr => ∃ (j g' : Nat) (t : TSt), iv = .int .i64 ((j : Int) - 1) ∧ nd = .int .i64 t.node ∧ TLoop v n j t FIN (s.l.length + n) ∧ (g' = g ∨ w.heap.size ≤ g') ∧ CAt wr b g' 144 t.c.l t.c.w ∧ RTree wr bt bp n t.ps ∧ Keeps (fun k => k = b ∨ k = g ∨ k = bp) w wr) (fun _ iv _ => (intOf iv + 1).toNat)
  case atStart => exact ⟨n, g, ⟨s, ps, 1⟩, rfl, rfl, START.out, .inl rfl, HC.out, HT.out, Keeps.refl _ _⟩
  case round =>
    obtain ⟨j, g', t, hi, rfl, HL, hg', hcc, htt, hk⟩ := hrel
    clear HC HT START q0 q1 d0 d1
    cases j with
    | zero =>
      have e0 : ((0 : Nat) : Int) - 1 = -1 := rfl
      rw [e0] at hi
      subst hi
      have e1 : t = FIN := HL.run
      subst e1
      have HF : Hid (RTMoved w b g bt bp n t.c t.ps wr) := ⟨g', hg', hcc, htt, hk⟩
      clear hcc htt hk hg' HL e0
      go_wp2
      go_end0
      exact ⟨rfl, HF.out⟩
    | succ i =>
      have e0 : ((i + 1 : Nat) : Int) - 1 = i := by omega
      rw [e0] at hi
      subst hi
      have ev := bit_of v i hv8
      obtain ⟨v0, v1⟩ := vbit_bd v i
      have n0 := HL.node0
      obtain ⟨n2, n1⟩ := HL.node
      have le8 := HL.le
      have d1 := htt.1.cellD 1 _ rfl
      have d2 := htt.2.1.cellD t.node.toNat (.int .i64 (t.ps.getD t.node.toNat 0)) (map_getD 0 (by omega))
      have ea : t.ps.getD t.node.toNat 0 = atN t.ps t.node := by unfold atN; rw [if_pos ⟨n0, n2⟩]
      rw [ea] at d2
      have BI := Lib.hid (rcbit_any b g' t.c.l t.c.w (atN t.ps t.node) (vbit v i) wr hcc (by have := HL.w0; omega) HL.w1 (by have := HL.len; omega))
      have NX := Lib.hid HL.step
      have HL2 := Lib.hid HL
      have HT := Lib.hid htt
      have HK := Lib.hid hk
      have hsz := hk.size
      have x1 : g' ≠ bt := by rcases hg' with h | h <;> omega
      have x2 : g' ≠ bp := by rcases hg' with h | h <;> omega
      clear e0 HL hcc htt hk ea
      have NE : Hid (2 * t.node + vbit v i = (tStep v i t).node) := rfl
      have PE : Hid (turnN t.ps t.node (vbit v i) = (tStep v i t).ps) := rfl
      have CE : Hid (cBitL t.c.l t.c.w (atN t.ps t.node) (vbit v i) = (tStep v i t).c.l ∧ cBitW t.c.w (atN t.ps t.node) (vbit v i) = (tStep v i t).c.w) := ⟨rfl, rfl⟩
      generalize tStep v i t = t2 at *
      generalize vbit v i = bit at *
      rw [CE.out.1, CE.out.2] at BI
      generalize atN t.ps t.node = p at *
      have TU := Lib.hid (fun w h => rturn_any bt bp n t.ps t.node bit w h HL2.out.ok.le)
      rw [PE.out] at TU
      obtain ⟨nd, hnd⟩ : ∃ nd, nd = t.node := ⟨_, rfl⟩
      rw [← hnd] at TU n0 n1 n2 NE d2 ⊢
      clear hnd
      go_wp2_with fail
      refine BI.out.mono ?_
      rintro e w2 ⟨rfl, g2, hg2, c2, k2⟩
      have T2 := Lib.hid (HT.out.keeps k2 (by omega) (by omega))
      have C2 := Lib.hid c2
      have K2 := Lib.hid k2
      have hsz2 := k2.size
      clear c2 k2 d1 d2
      go_wp2_with fail
      refine (TU.out _ T2.out).mono ?_
      rintro e w3 ⟨rfl, t3, k3⟩
      have C3 := Lib.hid (C2.out.keeps k3 (by omega) (by rcases hg2 with h | h <;> omega))
      have T3 := Lib.hid t3
      have K3 := Lib.hid ((HK.out.trans K2.out (T := fun k => k = b ∨ k = g ∨ k = bp) (fun _ h => h) (fun x hx h => by rcases h with h | h <;> omega)).trans k3 (fun _ h => h) (fun _ _ h => by omega))
      clear t3 k3
      go_wp2
      go_roundw
      case rel => exact ⟨i, g2, t2, rfl, by rw [NE.out], NX.out, by omega, C3.out, T3.out, K3.out⟩
      case measure => simp [intOf]

set_option maxRecDepth 100000 in
set_option maxHeartbeats 800000 in
theorem rctree_out (b bt bp : Nat) (ps : List Int) (n : Nat) (v : Int) (w : World) (ht : RTree w bt bp n ps) (ok : TOk ps n) (hv : v < 0 ∨ ((2 ^ n : Nat) : Int) ≤ v) :
    Calls Try.prog 93 #[.pointer (some ⟨b, 0, none⟩), .pointer (some ⟨bt, 0, none⟩), .int .i64 v] w fun e w' => e = .returned (.tuple #[]) ∧ w = w' := by
  have d1 := ht.1.cellD 1 _ rfl
  have hln := ok.1
  have hl8 := ok.le
  by_cases h0 : v < 0
  · have q0 : decide (v < 0) = true := decide_eq_true h0
    clear hv ht ok hln
    go_enter Try.func93, Try.ntmps93
    go_wp2
    refine bodyPost_ret (results_none rfl _ _ _) rfl ?_
    exact ⟨rfl, rfl⟩
  · have q0 : decide (v < 0) = false := decide_eq_false h0
    have q1 : decide ((ps.length : Int) ≤ v) = true := decide_eq_true (by rw [hln]; omega)
    clear hv ht ok hln h0
    go_enter Try.func93, Try.ntmps93
    go_wp2
    refine bodyPost_ret (results_none rfl _ _ _) rfl ?_
    exact ⟨rfl, rfl⟩
end Go.Proofs.Ytggjdkkobhefeaa
