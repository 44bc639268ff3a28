
/- The plain law of the reference's reader: a row of tokens, and what Unpack tells. -/
import Derived.Test.YtnanbnaikmaljaaLzPXRRP
import Derived.Test.YtnanbnaikmaljaaLzPXRR4
import Derived.Test.YtnanbnaikmaljaaLzPXTkRPack
import Derived.Test.YtnanbnaikmaljaaLzPXTkUnp2
namespace Go.Proofs.Ytnanbnaikmaljaa
open Go.RowKit

def RS.ms (s : RS) : Ms := ⟨s.p0, s.p1, s.was, s.q1, s.q2, s.q3⟩
theorem tRun_node (v : Nat) : ∀ (i : Nat) (t : TSt), (tRun v i t).node = t.node * 2 ^ i + ((v % 2 ^ i : Nat) : Int)
  | 0, t => by show t.node = t.node * 1 + ((v % 1 : Nat) : Int); rw [Nat.mod_one]; simp
  | i + 1, t => by
    have h0 : tRun v (i + 1) t = tRun v i (tStep v i t) := rfl
    have e : (tStep v i t).node = 2 * t.node + vbit v i := rfl
    rw [h0, tRun_node v i, e]
    unfold vbit
    have h1 : v % 2 ^ (i + 1) = v % 2 ^ i + 2 ^ i * (v / 2 ^ i % 2) := Nat.mod_pow_succ
    rw [h1, Int.pow_succ]
    push_cast
    have h2 : (2 * t.node + (v : Int) / 2 ^ i % 2) * 2 ^ i = t.node * (2 ^ i * 2) + 2 ^ i * ((v : Int) / 2 ^ i % 2) := by
      rw [Int.add_mul, Int.mul_comm 2 t.node, Int.mul_assoc, Int.mul_comm 2 (2 ^ i), Int.mul_comm _ ((2 : Int) ^ i)]
    omega
theorem kdP_ms (s : RS) : kdP s = s.ms.pr := rfl
theorem PP.nz {m : Ms} (h : PP m) : m.pr ≠ 0 := by
  obtain ⟨h1, h2⟩ := h
  unfold Ms.pr
  split <;> omega
theorem may2 {F c : CSt} {s : RS} (h : Fed2 F c s) : dMayB s.d = true := decide_eq_true ⟨h.n0, h.lt⟩
theorem kd_good {F c : CSt} {m : Ms} {s : RS} (okF : COk F) (hp : PP m) (ha : MAgree m s.ms) (hf : Fed2 F c s) (b : Bool) (wi : Within (cStep c m.pr (bI b)) F) :
    dBitB s.d (kdP s) = bI b ∧ Fed2 F (cStep c m.pr (bI b)) (kdS s) ∧ MAgree (m.kind (bI b)) (kdS s).ms := by
  have nz := hp.nz
  obtain ⟨b1, b2⟩ := hf.bit okF m.pr b wi
  obtain ⟨d1, d2⟩ := dStep_bit s.d nz
  rw [d1] at b1
  rw [d2] at b2
  have ep : kdP s = m.pr := by rw [kdP_ms, ha.pr]
  have pb : dBitP s.d m.pr = adapt m.pr (bI b) := by
    have h1 : dBitB s.d m.pr = splB s.d (dBound s.d m.pr) := if_pos (may2 hf)
    have h2 : dBitP s.d m.pr = adapt m.pr (splB s.d (dBound s.d m.pr)) := if_pos (may2 hf)
    rw [h2, ← h1, b1]
  have e0 : s.was = m.beh := ha.beh
  have q0 : s.p0 = m.p0 := ha.p0
  have q1 : s.p1 = m.p1 := ha.p1
  refine ⟨by rw [ep]; exact b1, ?_⟩
  unfold kdS
  rw [ep, b1, pb]
  by_cases hw : s.was = 0
  · have hb : m.beh = 0 := by rw [← e0]; exact hw
    rw [if_pos hw]
    obtain ⟨d', zs', e1, e2⟩ := more_good (s := { s with d := dBitS s.d m.pr, p0 := adapt m.pr (bI b), was := bI b }) okF b2 wi hf.zs hf.bad
    rw [e1]
    refine ⟨e2, ?_⟩
    have ek : m.kind (bI b) = { m with p0 := adapt m.p0 (bI b), beh := bI b } := if_pos hb
    have epr : m.pr = m.p0 := if_pos hb
    rw [ek]
    exact ⟨by show adapt m.pr (bI b) = _; rw [epr], q1, rfl, ha.bt, ha.lt, ha.dt⟩
  · have hb : m.beh ≠ 0 := by rw [← e0]; exact hw
    rw [if_neg hw]
    obtain ⟨d', zs', e1, e2⟩ := more_good (s := { s with d := dBitS s.d m.pr, p1 := adapt m.pr (bI b), was := bI b }) okF b2 wi hf.zs hf.bad
    rw [e1]
    refine ⟨e2, ?_⟩
    have ek : m.kind (bI b) = { m with p1 := adapt m.p1 (bI b), beh := bI b } := if_neg hb
    have epr : m.pr = m.p1 := if_neg hb
    rw [ek]
    exact ⟨q0, by show adapt m.pr (bI b) = _; rw [epr], rfl, ha.bt, ha.lt, ha.dt⟩
theorem kind_trees (m : Ms) (b : Int) : (m.kind b).bt = m.bt ∧ (m.kind b).lt = m.lt ∧ (m.kind b).dt = m.dt := by
  unfold Ms.kind; split <;> exact ⟨rfl, rfl, rfl⟩
theorem Else.ms {j : Nat} {s s' : RS} (h : Else j s s') : s'.p0 = s.p0 ∧ s'.p1 = s.p1 ∧ s'.was = s.was := ⟨h.2.1, h.2.2.1, h.2.2.2⟩
theorem tok_good {F c : CSt} {m : Ms} {s : RS} {t : Tok} (okF : COk F) (hv : TV t) (ok : MOk m) (hp : PP m) (ha : MAgree m s.ms) (hf : Fed2 F c s) (wi : Within (eTok c m t).1 F) :
    (tokR s).1 = t ∧ Fed2 F (eTok c m t).1 (tokR s).2 ∧ MAgree (eTok c m t).2 (tokR s).2.ms := by
  have nz := hp.nz
  have hc := hf.rel.ok
  rcases hv with ⟨v, hv8, rfl⟩ | ⟨a, e, ha8, he8, rfl⟩
  · have kt := kind_trees m 0
    have e1 : eTok c m ⟨0, 0, (v : Int)⟩ = ((tRun v 8 ⟨cStep c m.pr (bI false), m.bt, 1⟩).c, { m.kind 0 with bt := (tRun v 8 ⟨cStep c m.pr (bI false), m.bt, 1⟩).ps }) := by
      show (if (0 : Int) = 0 then _ else _) = _
      rw [if_pos rfl]
      dsimp only
      rw [Int.toNat_natCast, kt.1, cBitS_step _ _ _ nz]
      rfl
    rw [e1] at wi ⊢
    have c1 := (cStep_steps hc m.pr false).1
    have tl := TLoop.start v ok.o1 (s := cStep c m.pr (bI false)) c1.w0 c1.w1
    have w1 := (tl_within 8 _ tl c1).2
    obtain ⟨b1, f1, a1⟩ := kd_good okF hp ha hf false (w1.trans wi)
    have ab : Agree m.bt ((kdS s).q 1) := by have := a1.bt; rw [show m.kind (bI false) = m.kind 0 from rfl, kt.1] at this; exact this
    obtain ⟨g1, g2, g3, g4⟩ := tree_good 1 (.inl rfl) F okF 8 _ (kdS s) tl f1 ab wi
    have et : tokR s = (⟨0, 0, (trF 1 8 (kdS s) 1).2 - 256⟩, (trF 1 8 (kdS s) 1).1) := if_pos b1
    have g3 : (trF 1 8 (kdS s) 1).2 = (tRun v 8 ⟨cStep c m.pr (bI false), m.bt, 1⟩).node := g3
    have gn := tRun_node v 8 ⟨cStep c m.pr (bI false), m.bt, 1⟩
    have hvm : v % 2 ^ 8 = v := Nat.mod_eq_of_lt hv8
    rw [hvm] at gn
    rw [et]
    refine ⟨?_, g1, ?_⟩
    · show (⟨0, 0, _⟩ : Tok) = _
      rw [g3, gn]
      congr 1
      show 1 * 2 ^ 8 + (v : Int) - 256 = v
      omega
    · obtain ⟨m1, m2, m3⟩ := g4.ms
      obtain ⟨x1, x2, x3, x4, x5, x6⟩ := a1
      refine ⟨m1.trans x1, m2.trans x2, m3.trans x3, g2, ?_, ?_⟩
      · have := g4.1 2 (.inr (.inl rfl)) (by decide)
        show Agree _ ((trF 1 8 (kdS s) 1).1.q 2)
        rw [show (trF 1 8 (kdS s) 1).1.q 2 = (kdS s).q 2 from this]; exact x5
      · have := g4.1 3 (.inr (.inr rfl)) (by decide)
        show Agree _ ((trF 1 8 (kdS s) 1).1.q 3)
        rw [show (trF 1 8 (kdS s) 1).1.q 3 = (kdS s).q 3 from this]; exact x6
  · have kt := kind_trees m 1
    have e1 : eTok c m ⟨(a : Int) + 2, (e : Int) + 1, 0⟩ = (hRun e 6 (tRun (e / 64) 6 ⟨(tRun a 8 ⟨cStep c m.pr (bI true), m.lt, 1⟩).c, m.dt, 1⟩).c, { m.kind 1 with lt := (tRun a 8 ⟨cStep c m.pr (bI true), m.lt, 1⟩).ps, dt := (tRun (e / 64) 6 ⟨(tRun a 8 ⟨cStep c m.pr (bI true), m.lt, 1⟩).c, m.dt, 1⟩).ps }) := by
      show (if (a : Int) + 2 = 0 then _ else _) = _
      rw [if_neg (by omega)]
      dsimp only
      rw [show ((a : Int) + 2 - 2).toNat = a by omega, show ((e : Int) + 1 - 1).toNat = e by omega, kt.2.1, kt.2.2, cBitS_step _ _ _ nz]
      rfl
    rw [e1] at wi ⊢
    have c1 := (cStep_steps hc m.pr true).1
    have tl := TLoop.start a ok.o2 (s := cStep c m.pr (bI true)) c1.w0 c1.w1
    obtain ⟨c2, w1⟩ := tl_within 8 _ tl c1
    have tl2 := TLoop.start (e / 64) ok.o3 (s := (tRun a 8 ⟨cStep c m.pr (bI true), m.lt, 1⟩).c) c2.w0 c2.w1
    obtain ⟨c3, w2⟩ := tl_within 6 _ tl2 c2
    obtain ⟨c4, w3⟩ := h_within e 6 _ c3
    have wi : Within (hRun e 6 (tRun (e / 64) 6 ⟨(tRun a 8 ⟨cStep c m.pr (bI true), m.lt, 1⟩).c, m.dt, 1⟩).c) F := wi
    have wi3 := w3.trans wi
    have wi2 := Within.trans w2 wi3
    have wi1 := Within.trans w1 wi2
    obtain ⟨b1, f1, a1⟩ := kd_good okF hp ha hf true wi1
    have ab : Agree m.lt ((kdS s).q 2) := by have := a1.lt; rw [show m.kind (bI true) = m.kind 1 from rfl, kt.2.1] at this; exact this
    obtain ⟨g1, g2, g3, g4⟩ := tree_good 2 (.inr (.inl rfl)) F okF 8 _ (kdS s) tl f1 ab wi2
    obtain ⟨m1, m2, m3⟩ := g4.ms
    obtain ⟨x1, x2, x3, x4, x5, x6⟩ := a1
    obtain ⟨⟨s5, v5⟩, h5⟩ : ∃ x, trF 2 8 (kdS s) 1 = x := ⟨_, rfl⟩
    have g1 : Fed2 F (tRun a 8 ⟨cStep c m.pr (bI true), m.lt, 1⟩).c (trF 2 8 (kdS s) 1).1 := g1
    have g3 : (trF 2 8 (kdS s) 1).2 = (tRun a 8 ⟨cStep c m.pr (bI true), m.lt, 1⟩).node := g3
    have y1 : s5.q 1 = (kdS s).q 1 := by have := g4.1 1 (.inl rfl) (by decide); rw [show trF 2 8 (kdS s) ({ c := cStep c m.pr (bI true), ps := m.lt, node := 1 } : TSt).node = (s5, v5) from h5] at this; exact this
    have y3 : s5.q 3 = (kdS s).q 3 := by have := g4.1 3 (.inr (.inr rfl)) (by decide); rw [show trF 2 8 (kdS s) ({ c := cStep c m.pr (bI true), ps := m.lt, node := 1 } : TSt).node = (s5, v5) from h5] at this; exact this
    rw [show trF 2 8 (kdS s) ({ c := cStep c m.pr (bI true), ps := m.lt, node := 1 } : TSt).node = (s5, v5) from h5] at g2 m1 m2 m3
    rw [h5] at g1 g3
    have g1 : Fed2 F (tRun a 8 ⟨cStep c m.pr (bI true), m.lt, 1⟩).c s5 := g1
    have g2 : Agree (tRun a 8 ⟨cStep c m.pr (bI true), m.lt, 1⟩).ps (s5.q 2) := g2
    have ab2 : Agree m.dt (s5.q 3) := by rw [y3]; have := x6; rw [show m.kind (bI true) = m.kind 1 from rfl, kt.2.2] at this; exact this
    obtain ⟨k1, k2, k3, k4⟩ := tree_good 3 (.inr (.inr rfl)) F okF 6 _ s5 tl2 g1 ab2 wi3
    obtain ⟨n1, n2, n3⟩ := k4.ms
    obtain ⟨⟨s7, v7⟩, h7⟩ : ∃ x, trF 3 6 s5 1 = x := ⟨_, rfl⟩
    have hh : trF 3 6 s5 ({ c := (tRun a 8 ⟨cStep c m.pr (bI true), m.lt, 1⟩).c, ps := m.dt, node := 1 } : TSt).node = (s7, v7) := h7
    have z1 : s7.q 1 = s5.q 1 := by have := k4.1 1 (.inl rfl) (by decide); rw [hh] at this; exact this
    have z2 : s7.q 2 = s5.q 2 := by have := k4.1 2 (.inr (.inl rfl)) (by decide); rw [hh] at this; exact this
    rw [hh] at k1 k2 k3 n1 n2 n3
    have k1 : Fed2 F (tRun (e / 64) 6 ⟨(tRun a 8 ⟨cStep c m.pr (bI true), m.lt, 1⟩).c, m.dt, 1⟩).c s7 := k1
    have k2 : Agree (tRun (e / 64) 6 ⟨(tRun a 8 ⟨cStep c m.pr (bI true), m.lt, 1⟩).c, m.dt, 1⟩).ps (s7.q 3) := k2
    have k3 : v7 = (tRun (e / 64) 6 ⟨(tRun a 8 ⟨cStep c m.pr (bI true), m.lt, 1⟩).c, m.dt, 1⟩).node := k3
    obtain ⟨l1, l2, l3⟩ := half_goodR F okF e 6 _ s7 (v7 - 64) c3 k1 wi
    obtain ⟨o1, o2, o3⟩ := l3.ms
    have gn := tRun_node a 8 ⟨cStep c m.pr (bI true), m.lt, 1⟩
    have hvm : a % 2 ^ 8 = a := Nat.mod_eq_of_lt ha8
    rw [hvm] at gn
    have kn := tRun_node (e / 64) 6 ⟨(tRun a 8 ⟨cStep c m.pr (bI true), m.lt, 1⟩).c, m.dt, 1⟩
    have hem : e / 64 % 2 ^ 6 = e / 64 := Nat.mod_eq_of_lt (by show e / 64 < 64; omega)
    rw [hem] at kn
    have et : tokR s = (⟨v5 - 256 + 2, (hfF 6 s7 (v7 - 64)).2 + 1, 0⟩, (hfF 6 s7 (v7 - 64)).1) := by
      unfold tokR
      rw [if_neg (by rw [b1]; decide), h5]
      dsimp only
      rw [h7]
    rw [et]
    have g3 : v5 = (tRun a 8 ⟨cStep c m.pr (bI true), m.lt, 1⟩).node := g3
    have gn : (tRun a 8 ⟨cStep c m.pr (bI true), m.lt, 1⟩).node = 1 * 2 ^ 8 + (a : Int) := gn
    have kn : (tRun (e / 64) 6 ⟨(tRun a 8 ⟨cStep c m.pr (bI true), m.lt, 1⟩).c, m.dt, 1⟩).node = 1 * 2 ^ 6 + ((e / 64 : Nat) : Int) := kn
    refine ⟨?_, l1, ?_⟩
    · show (⟨v5 - 256 + 2, (hfF 6 s7 (v7 - 64)).2 + 1, 0⟩ : Tok) = _
      have he : ((e % 2 ^ 6 : Nat) : Int) = ((e % 64 : Nat) : Int) := rfl
      have h64 : (v7 - 64) * 2 ^ 6 = (v7 - 64) * 64 := rfl
      congr 1
      · omega
      · rw [l2, he, h64]; omega
    · refine ⟨?_, ?_, ?_, ?_, ?_, ?_⟩
      · exact o1.trans (n1.trans (m1.trans x1))
      · exact o2.trans (n2.trans (m2.trans x2))
      · exact o3.trans (n3.trans (m3.trans x3))
      · have := l3.1 1 (.inl rfl) (by decide)
        show Agree _ ((hfF 6 s7 (v7 - 64)).1.q 1)
        rw [this, z1, y1]; exact x4
      · have := l3.1 2 (.inr (.inl rfl)) (by decide)
        show Agree _ ((hfF 6 s7 (v7 - 64)).1.q 2)
        rw [this, z2]; exact g2
      · have := l3.1 3 (.inr (.inr rfl)) (by decide)
        show Agree _ ((hfF 6 s7 (v7 - 64)).1.q 3)
        rw [this]; exact k2
/-- The tokens that Unpack reads: as long as bytes are due. -/
def uF (plain : Int) : Nat → RS → Int → List Tok → List Tok × Bool
  | 0, s, _, out => (out, s.bad)
  | f + 1, s, n, out => if n < plain ∧ s.bad = false then uF plain f (tokR s).2 (n + longT (tokR s).1) (out ++ [(tokR s).1]) else (out, s.bad)
def rs00 (zs : List Int) : RS := ⟨dst0, zs, rnewN (2 ^ 8), rnewN (2 ^ 8), rnewN (2 ^ 6), 1024, 1024, 0, false⟩
def unpRF (zs : List Int) (plain : Int) : List Tok × Int :=
  if plain < 0 ∨ 8192 < plain then ([], 1)
  else if (uF plain plain.toNat (moreF (rs00 zs)) 0 []).2 = true ∨ rightB (uF plain plain.toNat (moreF (rs00 zs)) 0 []).1 0 = false ∨ ((plainL (uF plain plain.toNat (moreF (rs00 zs)) 0 []).1).length : Int) ≠ plain ∨ packL (uF plain plain.toNat (moreF (rs00 zs)) 0 []).1 ≠ zs then ([], 11)
  else ((uF plain plain.toNat (moreF (rs00 zs)) 0 []).1, 0)
theorem tokR_wf (s : RS) : TokWf (tokR s).1 := by
  rcases tokR_bd s with ⟨h1, h2, h3, h4⟩ | ⟨h1, h2, h3, h4, h5⟩ <;> constructor <;> omega
theorem tokR_long (s : RS) : 1 ≤ longT (tokR s).1 ∧ longT (tokR s).1 ≤ 257 := by
  unfold longT
  rcases tokR_bd s with ⟨h1, h2, h3, h4⟩ | ⟨h1, h2, h3, h4, h5⟩ <;> split <;> omega
theorem uF_wf (plain : Int) : ∀ (f : Nat) (s : RS) (n : Int) (out : List Tok), (∀ t ∈ out, TokWf t) → ∀ t ∈ (uF plain f s n out).1, TokWf t
  | 0, _, _, _, h => h
  | f + 1, s, n, out, h => by
    unfold uF
    split
    · refine uF_wf plain f _ _ _ fun t ht => ?_
      rcases List.mem_append.1 ht with ht | ht
      · exact h t ht
      · rw [List.mem_singleton.1 ht]; exact tokR_wf s
    · exact h
theorem row_good (plain : Int) (F : CSt) (okF : COk F) : ∀ (ts : List Tok) (c : CSt) (m : Ms) (t0 : Tok) (s : RS) (n : Int) (out : List Tok), (∀ t ∈ ts, TokWf t) → rightB ts n = true → madeT ts n = plain → plain ≤ 8192 → ROk ⟨m, 0, 1, t0⟩ → PP m → MAgree m s.ms → Fed2 F c s → (eRow ts (c, m)).1 = F →
    ∀ f, ts.length ≤ f → uF plain f s n out = (out ++ ts, false)
  | [], c, m, t0, s, n, out, _, _, h2, _, _, _, _, hf, _, f, _ => by
    have h2 : n = plain := h2
    have hb := hf.bad
    cases f with
    | zero => show (out, s.bad) = _; rw [hb, List.append_nil]
    | succ f => unfold uF; rw [if_neg (by omega), hb, List.append_nil]
  | t :: ts, c, m, t0, s, n, out, hw, h1, h2, h8, hr, hp, ha, hf, hF, f, hl => by
    have tv := right_tv _ _ h1 hw
    obtain ⟨r1, r2, r3⟩ := rightB_cons h1
    obtain ⟨l1, l2⟩ := longT_pos r1
    obtain ⟨f, rfl⟩ : ∃ g, f = g + 1 := ⟨f - 1, by have : ts.length + 1 ≤ f := hl; omega⟩
    have hl : ts.length + 1 ≤ f + 1 := hl
    have hm : Mid 1 ⟨m, 0, 1, t0⟩ t := Mid.kind m t0 t (tv t List.mem_cons_self)
    obtain ⟨c1, c2, c3, c4⟩ := cont_ok 21 1 ⟨m, 0, 1, t0⟩ t c (Nat.le_refl _) hm hr hp hf.rel.ok
    rw [cont_start] at c1 c2 c3 c4
    have hr2 : ROk ⟨(eTok c m t).2, 0, 1, t0⟩ := ⟨c3, hr.part, hr.n1, hr.n2, hr.d0, hr.d4, hr.wf⟩
    have wi : Within (eTok c m t).1 F := by rw [← hF]; exact (row_ok ts _ _ t0 (fun u hu => tv u (List.mem_cons_of_mem _ hu)) hr2 c4 c1).2
    have h2 : madeT ts (n + longT t) = plain := h2
    have hge : n + longT t ≤ plain := by rw [← h2]; exact (madeT_le ts _ r3 (by omega)).1
    obtain ⟨k1, k2, k3⟩ := tok_good okF (tv t List.mem_cons_self) hr.mok hp ha hf wi
    unfold uF
    rw [if_pos ⟨by omega, hf.bad⟩, k1, row_good plain F okF ts (eTok c m t).1 (eTok c m t).2 t0 (tokR s).2 (n + longT t) (out ++ [t]) (fun x hx => hw x (List.mem_cons_of_mem _ hx)) r3 h2 h8 hr2 c4 k3 k2 hF f (by omega), List.append_assoc, List.singleton_append]
theorem uF_pack {ts : List Tok} (h : rightB ts 0 = true) (hw : ∀ t ∈ ts, TokWf t) : uF (madeT ts 0) (madeT ts 0).toNat (moreF (rs00 (packL ts))) 0 [] = (ts, false) := by
  have h8 := madeT_le ts 0 h (by decide)
  have hge := made_ge ts 0 h
  have e : packL ts = (eRow ts (cst0, ms0)).1.l := if_pos h
  obtain ⟨F, hF⟩ : ∃ F, (eRow ts (cst0, ms0)).1 = F := ⟨_, rfl⟩
  have r0 : ROk ⟨ms0, 0, 1, ⟨0, 0, 0⟩⟩ := ROk.start
  obtain ⟨okF, wF⟩ := row_ok ts cst0 ms0 ⟨0, 0, 0⟩ (right_tv ts 0 h hw) r0 PP.start COk.start
  rw [hF] at okF wF
  rw [e, hF]
  have g : BG F cst0 0 dst0 := ⟨DRel.start, Nat.zero_le _, by have := okF.len; show (4 : Int) ≤ _; omega⟩
  obtain ⟨d', zs', e1, e2⟩ := more_good (s := rs00 F.l) okF g wF rfl rfl
  rw [e1]
  have ma : MAgree ms0 ({ rs00 F.l with d := d', zs := zs' } : RS).ms := MAgree.start
  have := row_good (madeT ts 0) F okF ts cst0 ms0 ⟨0, 0, 0⟩ _ 0 [] hw h rfl h8.2 r0 PP.start ma e2 hF (madeT ts 0).toNat (by omega)
  rw [this, List.nil_append]
theorem readN_wf (plain : Nat) : ∀ (f : Nat) (s : RdS) (d : DSt) (zs : List Int) (md : Nat) (out l : List Tok), ROk s → (∀ t ∈ out, TokWf t) → readN plain f s d zs md out = some l → ∀ t ∈ l, TokWf t
  | 0, _, _, _, _, _, _, _, _, h => by cases h
  | f + 1, s, d, zs, md, out, l, hr, ho, h => by
    unfold readN at h
    split at h
    · cases h
    split at h
    · cases h; exact ho
    have hn := hr.next (dEat d (zs.take d.n.toNat))
    split at h
    · split at h
      · refine readN_wf plain f _ _ _ _ _ _ hn (fun t ht => ?_) h
        rcases List.mem_append.1 ht with ht | ht
        · exact ho t ht
        · rw [List.mem_singleton.1 ht]; exact hn.wf
      · cases h
    · exact readN_wf plain f _ _ _ _ _ _ hn ho h
theorem unpF_wf {zs : List Int} {plain : Int} {l : List Tok} (h : unpF zs plain = (l, 0)) : ∀ t ∈ l, TokWf t := by
  unfold unpF at h
  split at h
  · cases h
  split at h
  · cases h
  rename_i l' hl
  split at h
  · cases h; exact readN_wf _ _ _ _ _ _ _ _ ROk.start (fun t ht => by cases ht) hl
  · cases h
theorem unpRF_eq (zs : List Int) (plain : Int) : unpRF zs plain = unpF zs plain := by
  rcases unpF_cases zs plain with ⟨h1, h2⟩ | ⟨h1, h2, h3⟩ | ⟨l, h1, h2, h3⟩
  · rw [h1]; exact if_pos h2
  · rw [h1]
    unfold unpRF
    rw [if_neg (by omega)]
    obtain ⟨r, hr⟩ : ∃ x, uF plain plain.toNat (moreF (rs00 zs)) 0 [] = x := ⟨_, rfl⟩
    have wf := uF_wf plain plain.toNat (moreF (rs00 zs)) 0 [] (fun t ht => by cases ht)
    rw [hr] at wf ⊢
    refine if_pos ?_
    by_cases c1 : r.2 = true
    · exact .inl c1
    by_cases c2 : rightB r.1 0 = false
    · exact .inr (.inl c2)
    by_cases c3 : ((plainL r.1).length : Int) ≠ plain
    · exact .inr (.inr (.inl c3))
    by_cases c4 : packL r.1 ≠ zs
    · exact .inr (.inr (.inr c4))
    exfalso
    have c2 : rightB r.1 0 = true := by cases h : rightB r.1 0 with | true => rfl | false => exact absurd h c2
    have c3 : ((plainL r.1).length : Int) = plain := Decidable.of_not_not c3
    have c4 : packL r.1 = zs := Decidable.of_not_not c4
    have := unp_pack c2 wf
    rw [c3, c4, h1] at this
    have := congrArg Prod.snd this
    cases this
  · rw [h1]
    obtain ⟨-, -, q1, q2, q3⟩ := unpF_ok h1
    have wf := unpF_wf h1
    have h := uF_pack q1 wf
    rw [← plainL_len q1, q3, q2] at h
    unfold unpRF
    rw [if_neg (by omega), h]
    refine if_neg ?_
    rintro (h | h | h | h)
    · cases h
    · rw [q1] at h; cases h
    · exact h q3
    · exact h q2
end Go.Proofs.Ytnanbnaikmaljaa
