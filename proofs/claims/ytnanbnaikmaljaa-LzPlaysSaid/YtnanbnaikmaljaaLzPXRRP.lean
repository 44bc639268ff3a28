
/- The plain law of the reference's reader: packed tokens are read as they were. -/
import Derived.Test.YtnanbnaikmaljaaLzPXRR3
import Derived.Test.YtnanbnaikmaljaaLzPXTkBack
namespace Go.Proofs.Ytnanbnaikmaljaa
open Go.RowKit

theorem atN_pos {ps : List Int} {n : Nat} (ok : TOk ps n) {node : Int} (h1 : 1 ≤ node) (h2 : node < ps.length) : atN ps node ≠ 0 := by
  have := ok.2.2.2.1 node.toNat (by omega) (by omega)
  unfold atN
  rw [if_pos ⟨h1, h2⟩]
  omega
theorem tl_within {v n : Nat} {fin : TSt} {len : Nat} : ∀ (i : Nat) (t : TSt), TLoop v n i t fin len → COk t.c → COk fin.c ∧ Within t.c fin.c
  | 0, t, h, hc => by have e : t = fin := h.run; rw [← e]; exact ⟨hc, Within.refl _⟩
  | i + 1, t, h, hc => by
    have nz := atN_pos h.ok h.node0 h.node.1
    have b := vbit_bd v i
    obtain ⟨bb, hbb⟩ := bI_01 (x := vbit v i) (by omega)
    have e : (tStep v i t).c = cStep t.c (atN t.ps t.node) (bI bb) := by show cBitS _ _ _ = _; rw [cBitS_step _ _ _ nz, hbb]
    have c1 := (cStep_steps hc (atN t.ps t.node) bb).1
    have w1 := within_step hc (atN t.ps t.node) bb
    rw [← e] at c1 w1
    obtain ⟨q1, q2⟩ := tl_within i _ h.step c1
    exact ⟨q1, w1.trans q2⟩
theorem h_within (v : Nat) : ∀ (i : Nat) (c : CSt), COk c → COk (hRun v i c) ∧ Within c (hRun v i c)
  | 0, c, hc => ⟨hc, Within.refl _⟩
  | i + 1, c, hc => by
    have b := vbit_bd v i
    obtain ⟨bb, hbb⟩ := bI_01 (x := vbit v i) (by omega)
    have e : (⟨cHalfL c.l c.w (vbit v i), cHalfW c.w⟩ : CSt) = cStep c 0 (bI bb) := by rw [← hbb]; rfl
    have c1 := (cStep_steps hc 0 bb).1
    have w1 := within_step hc 0 bb
    rw [← e] at c1 w1
    obtain ⟨q1, q2⟩ := h_within v i _ c1
    exact ⟨q1, w1.trans q2⟩
theorem fed_ok2 {d : DSt} (hn : d.n = 0) (hc : d.c < d.w) : dLostB d = false := decide_eq_false (by omega)
/-- Fed with the front of F, as far as the coder c. -/
structure Fed2 (F c : CSt) (s : RS) : Prop where
  rel : DRel c s.d (F.l.take c.l.length)
  le : c.l.length ≤ F.l.length
  n0 : s.d.n = 0
  lt : s.d.c < s.d.w
  zs : s.zs = F.l.drop c.l.length
  bad : s.bad = false
theorem more_good {F c : CSt} {j : Nat} {s : RS} (okF : COk F) (h : BG F c j s.d) (wi : Within c F) (hz : s.zs = F.l.drop j) (hb : s.bad = false) :
    ∃ d' zs', moreF s = { s with d := d', zs := zs' } ∧ Fed2 F c { s with d := d', zs := zs' } := by
  obtain ⟨J, hJ, fed, hle, rel, n0, clt, hj⟩ := h.feed okF wi
  rw [hJ] at rel n0 clt hj hle
  have hl : s.d.n.toNat ≤ s.zs.length := by rw [hz, List.length_drop]; omega
  have hlost : dLostB (dEat s.d (s.zs.take s.d.n.toNat)) = false := by
    rw [hz]
    exact (fed_ok2 n0 clt)
  refine ⟨dEat s.d (s.zs.take s.d.n.toNat), s.zs.drop s.d.n.toNat, ?_, ?_⟩
  · unfold moreF
    rw [if_neg (by rw [hb]; decide), if_pos hl, hlost, ← hb]
  · rw [hj] at rel hle
    refine ⟨?_, hle, ?_, ?_, ?_, hb⟩
    · show DRel c (dEat s.d (s.zs.take s.d.n.toNat)) _
      rw [hz]; exact rel
    · show (dEat s.d (s.zs.take s.d.n.toNat)).n = 0
      rw [hz]; exact n0
    · show (dEat s.d (s.zs.take s.d.n.toNat)).c < (dEat s.d (s.zs.take s.d.n.toNat)).w
      rw [hz]; exact clt
    · show s.zs.drop s.d.n.toNat = _
      rw [hz, List.drop_drop, hj]
/-- A bit that is to come: the decoder tells it. -/
theorem Fed2.bit {F c : CSt} {s : RS} (okF : COk F) (h : Fed2 F c s) (p : Int) (b : Bool) (wi : Within (cStep c p (bI b)) F) :
    dStepB s.d p = bI b ∧ BG F (cStep c p (bI b)) c.l.length (dStepS s.d p) :=
  BG.bit okF p b wi rfl h.le h.rel h.n0 h.lt
theorem dStep_bit (d : DSt) {p : Int} (hp : p ≠ 0) : dStepB d p = dBitB d p ∧ dStepS d p = dBitS d p := by
  unfold dStepB dStepS; rw [if_neg hp, if_neg hp]; exact ⟨rfl, rfl⟩
theorem dStep_half (d : DSt) : dStepB d 0 = dHalfB d ∧ dStepS d 0 = dHalfS d := ⟨rfl, rfl⟩
/-- Nothing but what is read has changed. -/
def Else (j : Nat) (s s' : RS) : Prop := (∀ k, k = 1 ∨ k = 2 ∨ k = 3 → k ≠ j → s'.q k = s.q k) ∧ s'.p0 = s.p0 ∧ s'.p1 = s.p1 ∧ s'.was = s.was
theorem tree_good (j : Nat) (hj : j = 1 ∨ j = 2 ∨ j = 3) (F : CSt) (okF : COk F) {v n : Nat} {fin : TSt} {len : Nat} : ∀ (i : Nat) (t : TSt) (s : RS), TLoop v n i t fin len → Fed2 F t.c s → Agree t.ps (s.q j) → Within fin.c F →
    Fed2 F fin.c (trF j i s t.node).1 ∧ Agree fin.ps ((trF j i s t.node).1.q j) ∧ (trF j i s t.node).2 = fin.node ∧ Else j s (trF j i s t.node).1
  | 0, t, s, h, hf, ha, wi => by
    have e : t = fin := h.run
    subst e
    exact ⟨hf, ha, rfl, fun _ _ _ => rfl, rfl, rfl, rfl⟩
  | i + 1, t, s, h, hf, ha, wi => by
    have nz := atN_pos h.ok h.node0 h.node.1
    have b := vbit_bd v i
    obtain ⟨bb, hbb⟩ := bI_01 (x := vbit v i) (by omega)
    have ec : (tStep v i t).c = cStep t.c (atN t.ps t.node) (bI bb) := by show cBitS _ _ _ = _; rw [cBitS_step _ _ _ nz, hbb]
    have c1 := (cStep_steps hf.rel.ok (atN t.ps t.node) bb).1
    have wn := (tl_within i _ h.step (by rw [ec]; exact c1)).2
    rw [ec] at wn
    obtain ⟨b1, b2⟩ := hf.bit okF (atN t.ps t.node) bb (wn.trans wi)
    obtain ⟨d1, d2⟩ := dStep_bit s.d nz
    rw [d1] at b1
    rw [d2] at b2
    have hp : trPR s j t.node = atN t.ps t.node := by
      have := ha.at_ t.node
      have h0 := h.node0
      have h1 := h.node.1
      rw [← this]
      unfold trPR atN
      rw [if_pos ⟨h0, by rw [← ha.1]; exact h1⟩]
    have wn2 := wn.trans wi
    rw [← ec] at b2 wn2
    obtain ⟨d', zs', e1, e2⟩ := more_good (s := { (s.sq (turnN (s.q j) t.node (bI bb)) j) with d := dBitS s.d (atN t.ps t.node) }) okF b2 wn2 (by rcases hj with rfl | rfl | rfl <;> exact hf.zs) (by rcases hj with rfl | rfl | rfl <;> exact hf.bad)
    have es : trS j s t.node = { ({ (s.sq (turnN (s.q j) t.node (bI bb)) j) with d := dBitS s.d (atN t.ps t.node) } : RS) with d := d', zs := zs' } := by
      unfold trS
      rw [hp, b1, e1]
    have en : 2 * t.node + dBitB s.d (trPR s j t.node) = (tStep v i t).node := by rw [hp, b1, ← hbb]; rfl
    have ha2 : Agree (tStep v i t).ps ((trS j s t.node).q j) := by
      have := ha.turn t.node (vbit v i)
      rw [es]
      rw [hbb] at this
      rcases hj with rfl | rfl | rfl <;> (show Agree (turnN t.ps t.node (vbit v i)) _; rw [hbb]; exact this)
    have hf2 : Fed2 F (tStep v i t).c (trS j s t.node) := by rw [es]; exact e2
    obtain ⟨q1, q2, q3, q4, q5, q6, q7⟩ := tree_good j hj F okF i (tStep v i t) (trS j s t.node) h.step hf2 ha2 wi
    have ef : trF j (i + 1) s t.node = trF j i (trS j s t.node) (tStep v i t).node := by
      show trF j i (trS j s t.node) (2 * t.node + dBitB s.d (trPR s j t.node)) = _
      rw [en]
    rw [ef]
    refine ⟨q1, q2, q3, fun k hk hkj => (q4 k hk hkj).trans ?_, q5.trans ?_, q6.trans ?_, q7.trans ?_⟩
    · rw [es]
      rcases hj with rfl | rfl | rfl <;> rcases hk with rfl | rfl | rfl <;> first | rfl | exact absurd rfl hkj
    · rw [es]; rcases hj with rfl | rfl | rfl <;> rfl
    · rw [es]; rcases hj with rfl | rfl | rfl <;> rfl
    · rw [es]; rcases hj with rfl | rfl | rfl <;> rfl
theorem half_goodR (F : CSt) (okF : COk F) (v : Nat) : ∀ (i : Nat) (c : CSt) (s : RS) (dist : Int), COk c → Fed2 F c s → Within (hRun v i c) F →
    Fed2 F (hRun v i c) (hfF i s dist).1 ∧ (hfF i s dist).2 = dist * 2 ^ i + ((v % 2 ^ i : Nat) : Int) ∧ Else 0 s (hfF i s dist).1
  | 0, c, s, dist, _, hf, wi => ⟨hf, by show dist = dist * 1 + ((v % 1 : Nat) : Int); rw [Nat.mod_one]; simp, fun _ _ _ => rfl, rfl, rfl, rfl⟩
  | i + 1, c, s, dist, hc, hf, wi => by
    have b := vbit_bd v i
    obtain ⟨bb, hbb⟩ := bI_01 (x := vbit v i) (by omega)
    have e : (⟨cHalfL c.l c.w (vbit v i), cHalfW c.w⟩ : CSt) = cStep c 0 (bI bb) := by rw [← hbb]; rfl
    have c1 := (cStep_steps hc 0 bb).1
    have er : hRun v (i + 1) c = hRun v i (cStep c 0 (bI bb)) := by rw [← e]; rfl
    rw [er] at wi ⊢
    have wn := (h_within v i _ c1).2
    obtain ⟨b1, b2⟩ := hf.bit okF 0 bb (wn.trans wi)
    have b1 : dHalfB s.d = bI bb := b1
    have b2 : BG F (cStep c 0 (bI bb)) c.l.length (dHalfS s.d) := b2
    obtain ⟨d', zs', e1, e2⟩ := more_good (s := { s with d := dHalfS s.d }) okF b2 (wn.trans wi) hf.zs hf.bad
    obtain ⟨q1, q2, q3, q4, q5, q6⟩ := half_goodR F okF v i (cStep c 0 (bI bb)) (moreF { s with d := dHalfS s.d }) (2 * dist + dHalfB s.d) c1 (by rw [e1]; exact e2) wi
    have ef : hfF (i + 1) s dist = hfF i (moreF { s with d := dHalfS s.d }) (2 * dist + dHalfB s.d) := rfl
    rw [ef]
    refine ⟨q1, ?_, fun k hk hkj => (q3 k hk hkj).trans (by rw [e1]; rcases hk with rfl | rfl | rfl <;> rfl), q4.trans (by rw [e1]), q5.trans (by rw [e1]), q6.trans (by rw [e1])⟩
    rw [q2, b1, ← hbb]
    unfold vbit
    have h1 : v % 2 ^ (i + 1) = v % 2 ^ i + 2 ^ i * (v / 2 ^ i % 2) := Nat.mod_pow_succ
    rw [h1, Int.pow_succ]
    push_cast
    have h2 : (2 * dist + (v : Int) / 2 ^ i % 2) * 2 ^ i = dist * (2 ^ i * 2) + 2 ^ i * ((v : Int) / 2 ^ i % 2) := by
      rw [Int.add_mul, Int.mul_comm 2 dist, Int.mul_assoc, Int.mul_comm 2 (2 ^ i), Int.mul_comm _ ((2 : Int) ^ i)]
    omega
end Go.Proofs.Ytnanbnaikmaljaa
