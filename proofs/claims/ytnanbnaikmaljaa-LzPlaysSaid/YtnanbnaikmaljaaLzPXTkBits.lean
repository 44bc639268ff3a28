
/- The plain law of packing and reading: a bit of the reader and the same bit of the coder; packed tokens are read as they were. -/
import Derived.Test.YtnanbnaikmaljaaLzPXTkUnp2
namespace Go.Proofs.Ytnanbnaikmaljaa
open Go.RowKit

/-- The front of a packed row lies in the interval. -/
theorem front_in {c F : CSt} (okF : COk F) (wi : Within c F) (T : List Int) (hT : T = F.l.take c.l.length) :
    T.length = c.l.length ∧ num c.l ≤ num T ∧ num T < num c.l + c.w := by
  obtain ⟨e, h1, h2, h3⟩ := wi
  have hF : num F.l = num T * 256 ^ e + num (F.l.drop c.l.length) := by
    have : F.l = T ++ F.l.drop c.l.length := by rw [hT, List.take_append_drop]
    conv => lhs; rw [this]
    rw [num_append, List.length_drop, h1]
    congr 3
    omega
  have hb := num_bd (F.l.drop c.l.length) (fun z hz => okF.byte z (List.mem_of_mem_drop hz))
  rw [List.length_drop, h1] at hb
  have e3 : c.l.length + e - c.l.length = e := by omega
  rw [e3] at hb
  have hw := okF.w0
  have hp := pow_pos' e
  rw [hF] at h2 h3
  refine ⟨by rw [hT, List.length_take, h1]; omega, ?_, ?_⟩
  · rcases Int.lt_or_le (num T) (num c.l) with h | h
    · have := Int.mul_le_mul_of_nonneg_right (show num T + 1 ≤ num c.l by omega) (Int.le_of_lt hp)
      rw [Int.add_mul, Int.one_mul] at this; omega
    · exact h
  · rcases Int.lt_or_le (num T) (num c.l + c.w) with h | h
    · exact h
    · have := Int.mul_le_mul_of_nonneg_right h (Int.le_of_lt hp)
      omega
/-- Which bit comes next. -/
theorem front_bit {c F : CSt} (okc : COk c) (okF : COk F) (p : Int) (b : Bool) (wi : Within (cStep c p (bI b)) F) (T : List Int) (hT : T = F.l.take c.l.length) :
    b = false ↔ num T - num c.l < loW c p := by
  obtain ⟨e, h1, h2, h3⟩ := wi
  obtain ⟨_, st⟩ := cStep_steps okc p b
  obtain ⟨mr, hmr⟩ : ∃ mr, mr = more (if b = true then hiW c p else loW c p) := ⟨_, rfl⟩
  have hlen : F.l.length = c.l.length + (mr + e) := by rw [h1, st.len, ← hmr]; omega
  have hF : num F.l = num T * 256 ^ (mr + e) + num (F.l.drop c.l.length) := by
    have : F.l = T ++ F.l.drop c.l.length := by rw [hT, List.take_append_drop]
    conv => lhs; rw [this]
    rw [num_append, List.length_drop, hlen]
    congr 3
    omega
  have hb := num_bd (F.l.drop c.l.length) (fun z hz => okF.byte z (List.mem_of_mem_drop hz))
  rw [List.length_drop, hlen] at hb
  have e3 : c.l.length + (mr + e) - c.l.length = mr + e := by omega
  rw [e3] at hb
  have hw := okF.w0
  have hp := pow_pos' (mr + e)
  rw [hF] at h2 h3
  rw [st.num, ← hmr, Int.mul_assoc, ← Int.pow_add] at h2
  rw [st.num, st.width, ← hmr, ← Int.add_mul, Int.mul_assoc, ← Int.pow_add] at h3
  generalize (256 : Int) ^ (mr + e) = P at *
  cases hf : b with
  | false =>
    rw [hf] at h3
    simp only [Bool.false_eq_true, if_false, Int.add_zero] at h3
    refine ⟨fun _ => ?_, fun _ => rfl⟩
    rcases Int.lt_or_le (num T) (num c.l + loW c p) with h | h
    · omega
    · have := Int.mul_le_mul_of_nonneg_right h (Int.le_of_lt hp)
      omega
  | true =>
    rw [hf] at h2
    simp only [if_true] at h2
    refine ⟨(fun h => by cases h), fun h => ?_⟩
    have := Int.mul_le_mul_of_nonneg_right (show num T + 1 ≤ num c.l + loW c p by omega) (Int.le_of_lt hp)
    rw [Int.add_mul, Int.one_mul] at this
    omega

/-- A decoder that has taken j bytes of what the coder F made, and as many bits as made c. -/
structure BG (F c : CSt) (j : Nat) (d : DSt) : Prop where
  rel : DRel c d (F.l.take j)
  le : j ≤ F.l.length
  need : d.n ≤ (F.l.length : Int) - j
theorem BG.feed {F c : CSt} {j : Nat} {d : DSt} (h : BG F c j d) (okF : COk F) (wi : Within c F) :
    ∃ J, J = d.n.toNat ∧ fedB d (F.l.drop j) = true ∧ j + J ≤ F.l.length ∧ DRel c (dEat d ((F.l.drop j).take J)) (F.l.take (j + J)) ∧ (dEat d ((F.l.drop j).take J)).n = 0 ∧ (dEat d ((F.l.drop j).take J)).c < (dEat d ((F.l.drop j).take J)).w ∧ j + J = c.l.length := by
  obtain ⟨rel, le, need⟩ := h
  have hn0 := rel.n0
  refine ⟨d.n.toNat, rfl, ?_⟩
  obtain ⟨J, hJ⟩ : ∃ J, d.n.toNat = J := ⟨_, rfl⟩
  have hJn : d.n = J := by omega
  have hdl : ((F.l.drop j).take J).length = J := by rw [List.length_take, List.length_drop]; omega
  obtain ⟨h1, h2⟩ := rel.eat ((F.l.drop j).take J) (fun z hz' => okF.byte z (List.mem_of_mem_drop (List.mem_of_mem_take hz'))) (by rw [hdl]; omega)
  rw [← List.take_add] at h1
  rw [hdl] at h2
  rw [hJ]
  obtain ⟨d2, hd2⟩ : ∃ x, dEat d ((F.l.drop j).take J) = x := ⟨_, rfl⟩
  have n2 : d2.n = 0 := by rw [← hd2]; omega
  rw [hd2] at h1
  have hl := h1.len
  have htl : (F.l.take (j + J)).length = j + J := by rw [List.length_take]; omega
  rw [htl, n2] at hl
  have hj : j + J = c.l.length := by omega
  obtain ⟨_, k2, k3⟩ := front_in okF wi (F.l.take (j + J)) (by rw [hj])
  have hn := h1.nm
  rw [n2] at hn
  have hn2 : num c.l = num (F.l.take (j + J)) - d2.c := by simpa using hn
  have hw := h1.w
  have lt : d2.c < d2.w := by omega
  refine ⟨?_, by omega, by rw [hd2]; exact h1, by rw [hd2]; exact n2, by rw [hd2]; exact lt, hj⟩
  unfold fedB
  rw [hJ, hd2, decide_eq_true (by rw [List.length_drop]; omega)]
  unfold dLostB
  rw [decide_eq_false (by omega)]
  rfl
theorem BG.bit {F c : CSt} {j : Nat} {d : DSt} (okF : COk F) (p : Int) (b : Bool) (wi : Within (cStep c p (bI b)) F) (hj : j = c.l.length) (le : j ≤ F.l.length) (rel : DRel c d (F.l.take j)) (hn : d.n = 0) (hc : d.c < d.w) :
    dStepB d p = bI b ∧ BG F (cStep c p (bI b)) j (dStepS d p) := by
  obtain ⟨b', hb, hbl, hr⟩ := rel.step p hn hc
  have hbb := front_bit rel.ok okF p b wi (F.l.take j) (by rw [hj])
  have eb : b' = b := by
    cases hb2 : b' with
    | false => exact (hbb.2 (hbl.1 hb2)).symm
    | true =>
      cases hf : b with
      | true => rfl
      | false => have := hbl.2 (hbb.1 hf); rw [hb2] at this; cases this
  subst eb
  refine ⟨hb, hr, le, ?_⟩
  have hl := hr.len
  have htl : (F.l.take j).length = j := by rw [List.length_take]; omega
  rw [htl] at hl
  obtain ⟨e2, h1, _, _⟩ := wi
  omega

/-- The reader's step, by the bit alone. -/
def rQ (s : RdS) : Int := if s.part = 4 then 0 else rP s
def rLrn (s : RdS) (b : Int) : Ms :=
  if s.part = 0 then s.m.setp (adapt (rP s) b)
  else if s.part = 1 then { s.m with bt := turnN s.m.bt s.node b }
  else if s.part = 2 then { s.m with lt := turnN s.m.lt s.node b }
  else if s.part = 3 then { s.m with dt := turnN s.m.dt s.node b }
  else s.m
def rFullB (s : RdS) (b : Int) : Bool := decide ((2 : Int) ^ szP s.part ≤ 2 * s.node + b)
def rStep (s : RdS) (b : Int) : RdS := if rFullB s b = true then rWhole { s with m := rLrn s b, node := 1 } (2 * s.node + b - 2 ^ szP s.part) else { s with m := rLrn s b, node := 2 * s.node + b }
def rTokB (s : RdS) (b : Int) : Bool := rFullB s b && rDone s
theorem rNext_step (s : RdS) (d : DSt) (hm : dMayB d = true) (hp : s.part ≠ 4 → rP s ≠ 0) :
    rBit s d = dStepB d (rQ s) ∧ rDec s d = dStepS d (rQ s) ∧ rNext s d = rStep s (rBit s d) ∧ rTok s d = rTokB s (rBit s d) := by
  have hl : rLearn s d = rLrn s (rBit s d) := by
    unfold rLearn rLrn
    by_cases h0 : s.part = 0
    · rw [if_pos h0, if_pos h0]
      congr 1
      unfold rBit
      rw [if_neg (by omega)]
      unfold dBitP dBitB
      rw [if_pos hm, if_pos hm]
    · rw [if_neg h0, if_neg h0]
      unfold rBit
      by_cases h4 : s.part = 4
      · rw [if_neg (by omega), if_neg (by omega), if_neg (by omega), if_neg (by omega), if_neg (by omega), if_neg (by omega)]
      · rw [if_neg h4]
  refine ⟨?_, ?_, ?_, rfl⟩
  · unfold rBit dStepB rQ
    by_cases h4 : s.part = 4
    · rw [if_pos h4, if_pos h4, if_pos rfl]
    · rw [if_neg h4, if_neg h4, if_neg (hp h4)]
  · unfold rDec dStepS rQ
    by_cases h4 : s.part = 4
    · rw [if_pos h4, if_pos h4, if_pos rfl]
    · rw [if_neg h4, if_neg h4, if_neg (hp h4)]
  · unfold rNext rStep
    rw [hl]
    rfl
theorem bI_01 {x : Int} (h : x = 0 ∨ x = 1) : ∃ b, x = bI b := by
  rcases h with h | h
  · exact ⟨false, h⟩
  · exact ⟨true, h⟩
/-- The chances of the kind are none's. -/
def PP (m : Ms) : Prop := 31 ≤ m.p0 ∧ 31 ≤ m.p1
theorem PP.start : PP ms0 := ⟨show (31 : Int) ≤ 1024 by decide, show (31 : Int) ≤ 1024 by decide⟩
theorem PP.lrn {s : RdS} (b : Int) (h : PP s.m) : PP (rLrn s b) := by
  unfold rLrn
  split
  · unfold Ms.setp; split
    · exact ⟨adapt_lo _ _, h.2⟩
    · exact ⟨h.1, adapt_lo _ _⟩
  split; exact h
  split; exact h
  split; exact h
  exact h
theorem PP.step {s : RdS} (b : Int) (h : PP s.m) : PP (rStep s b).m := by
  have hl := h.lrn (s := s) b
  unfold rStep
  split
  · unfold rWhole
    split; exact hl
    split; exact hl
    split; exact hl
    split <;> exact hl
  · exact hl
theorem rP_nz {s : RdS} (h : ROk s) (hp : PP s.m) : s.part ≠ 4 → rP s ≠ 0 := by
  intro h4
  obtain ⟨⟨o1, o2, o3, be⟩, hpt, n1, n2, -, -, -⟩ := h
  have tr : ∀ ps n, TOk ps n → s.node < (2 : Int) ^ n → atN ps s.node ≠ 0 := fun ps n ok hn => by
    have hl : ps.length = 2 ^ n := ok.1
    have e : ((2 ^ n : Nat) : Int) = (2 : Int) ^ n := by simp
    have hlt : s.node < (ps.length : Int) := by rw [hl, e]; exact hn
    have := ok.2.2.2.1 s.node.toNat (by omega) (by omega)
    unfold atN
    rw [if_pos ⟨n1, hlt⟩]
    omega
  unfold rP
  split
  · unfold Ms.pr
    have := hp.1
    have := hp.2
    split <;> omega
  unfold trP
  split
  · rename_i e; rw [e] at n2; exact tr _ 8 o1 n2
  split
  · rename_i e; rw [e] at n2; exact tr _ 8 o2 n2
  · have e : s.part = 3 := by omega
    rw [e] at n2; exact tr _ 6 o3 n2
theorem ROk.stepB {s : RdS} {b : Int} (hb : b = 0 ∨ b = 1) (h : ROk s) (hp : PP s.m) : ROk (rStep s b) := by
  have hz := rP_nz h hp
  obtain ⟨d, hm, hbit⟩ : ∃ d, dMayB d = true ∧ rBit s d = b := by
    have hh := hold_hi (rP s)
    have hl := hold_lo (rP s)
    rcases hb with rfl | rfl
    · refine ⟨⟨0, 2147483648, 0⟩, by decide, ?_⟩
      unfold rBit
      split
      · decide
      · unfold dBitB
        rw [if_pos (by decide)]
        unfold splB dBound
        rw [if_pos (by show (0 : Int) < 2147483648 / 2048 * hold (rP s); omega)]
    · refine ⟨⟨2147483647, 2147483648, 0⟩, by decide, ?_⟩
      unfold rBit
      split
      · decide
      · unfold dBitB
        rw [if_pos (by decide)]
        unfold splB dBound
        rw [if_neg (by show ¬ (2147483647 : Int) < 2147483648 / 2048 * hold (rP s); omega)]
  have := (rNext_step s d hm hz).2.2.1
  rw [hbit] at this
  rw [← this]
  exact h.next d

/-- Tokens that may be packed. -/
def TV (t : Tok) : Prop := (∃ b : Nat, b < 256 ∧ t = ⟨0, 0, b⟩) ∨ ∃ a e : Nat, a < 256 ∧ e < 4096 ∧ t = ⟨a + 2, e + 1, 0⟩
theorem TV.of {t : Tok} {m : Int} (h : mayT t m = true) (hw : TokWf t) : TV t := by
  obtain ⟨n, d, b⟩ := t
  by_cases h0 : n = 0
  · have hd : d = 0 := mayT_lit h h0
    subst h0 hd
    have h1 : 0 ≤ b := hw.b0
    have h2 : b ≤ 255 := hw.b1
    exact .inl ⟨b.toNat, by omega, by rw [Int.toNat_of_nonneg h1]⟩
  · obtain ⟨hb, h2, h3, h4, h5, _⟩ := mayT_copy h h0
    have hb : b = 0 := hb
    have h2 : 2 ≤ n := h2
    have h3 : n ≤ 257 := h3
    have h4 : 1 ≤ d := h4
    have h5 : d ≤ 4096 := h5
    subst hb
    refine .inr ⟨(n - 2).toNat, (d - 1).toNat, by omega, by omega, ?_⟩
    congr 1 <;> omega
/-- A reader within a token: i bits of the part are to come. -/
inductive Mid : Nat → RdS → Tok → Prop
  | kind (m : Ms) (t0 t : Tok) : TV t → Mid 1 ⟨m, 0, 1, t0⟩ t
  | byte (m : Ms) (i b : Nat) (x : Int) : 1 ≤ i → i ≤ 8 → b < 256 → x = ((2 ^ (8 - i) + b / 2 ^ i : Nat) : Int) → Mid i ⟨m, 1, x, ⟨0, 0, 0⟩⟩ ⟨0, 0, b⟩
  | len (m : Ms) (i a e : Nat) (x : Int) : 1 ≤ i → i ≤ 8 → a < 256 → e < 4096 → x = ((2 ^ (8 - i) + a / 2 ^ i : Nat) : Int) → Mid i ⟨m, 2, x, ⟨0, 0, 0⟩⟩ ⟨a + 2, e + 1, 0⟩
  | upper (m : Ms) (i a e : Nat) (x : Int) : 1 ≤ i → i ≤ 6 → a < 256 → e < 4096 → x = ((2 ^ (6 - i) + e / 64 / 2 ^ i : Nat) : Int) → Mid i ⟨m, 3, x, ⟨a + 2, 0, 0⟩⟩ ⟨a + 2, e + 1, 0⟩
  | lower (m : Ms) (i a e : Nat) (x : Int) : 1 ≤ i → i ≤ 6 → a < 256 → e < 4096 → x = ((2 ^ (6 - i) + e % 64 / 2 ^ i : Nat) : Int) → Mid i ⟨m, 4, x, ⟨a + 2, ((e / 64 * 64 : Nat) : Int), 0⟩⟩ ⟨a + 2, e + 1, 0⟩
/-- The next bit of it. -/
def nb (i : Nat) (s : RdS) (t : Tok) : Int :=
  if s.part = 0 then (if t.n = 0 then 0 else 1)
  else if s.part = 1 then vbit t.b.toNat (i - 1)
  else if s.part = 2 then vbit (t.n - 2).toNat (i - 1)
  else if s.part = 3 then vbit ((t.d - 1).toNat / 64) (i - 1)
  else vbit (t.d - 1).toNat (i - 1)
/-- What the coder comes to with the rest of it. -/
def cont (i : Nat) (s : RdS) (c : CSt) (t : Tok) : CSt × Ms :=
  if s.part = 0 then eTok c s.m t
  else if s.part = 1 then ((tRun t.b.toNat i ⟨c, s.m.bt, s.node⟩).c, { s.m with bt := (tRun t.b.toNat i ⟨c, s.m.bt, s.node⟩).ps })
  else if s.part = 2 then (hRun (t.d - 1).toNat 6 (tRun ((t.d - 1).toNat / 64) 6 ⟨(tRun (t.n - 2).toNat i ⟨c, s.m.lt, s.node⟩).c, s.m.dt, 1⟩).c, { s.m with lt := (tRun (t.n - 2).toNat i ⟨c, s.m.lt, s.node⟩).ps, dt := (tRun ((t.d - 1).toNat / 64) 6 ⟨(tRun (t.n - 2).toNat i ⟨c, s.m.lt, s.node⟩).c, s.m.dt, 1⟩).ps })
  else if s.part = 3 then (hRun (t.d - 1).toNat 6 (tRun ((t.d - 1).toNat / 64) i ⟨c, s.m.dt, s.node⟩).c, { s.m with dt := (tRun ((t.d - 1).toNat / 64) i ⟨c, s.m.dt, s.node⟩).ps })
  else (hRun (t.d - 1).toNat i c, s.m)
/-- Bits to come at most. -/
def lft (i : Nat) (s : RdS) : Nat := if s.part = 0 then 21 else if s.part = 1 then i else if s.part = 2 then 12 + i else if s.part = 3 then 6 + i else i
theorem nb_01 (i : Nat) (s : RdS) (t : Tok) : nb i s t = 0 ∨ nb i s t = 1 := by
  have := fun v k => vbit_bd v k
  unfold nb
  split
  · split <;> simp
  split
  · have := vbit_bd t.b.toNat (i - 1); omega
  split
  · have := vbit_bd (t.n - 2).toNat (i - 1); omega
  split
  · have := vbit_bd ((t.d - 1).toNat / 64) (i - 1); omega
  · have := vbit_bd (t.d - 1).toNat (i - 1); omega
theorem node8 {i v : Nat} {x : Int} (h1 : 1 ≤ i) (h2 : i ≤ 8) (hv : v < 256) (hx : x = ((2 ^ (8 - i) + v / 2 ^ i : Nat) : Int)) :
    (2 * x + vbit v (i - 1) = ((2 ^ (8 - (i - 1)) + v / 2 ^ (i - 1) : Nat) : Int)) ∧ (i = 1 → 2 * x + vbit v (i - 1) = 256 + v) ∧ (i ≠ 1 → 2 * x + vbit v (i - 1) < 256) := by
  subst hx
  unfold vbit
  obtain rfl | rfl | rfl | rfl | rfl | rfl | rfl | rfl : i = 1 ∨ i = 2 ∨ i = 3 ∨ i = 4 ∨ i = 5 ∨ i = 6 ∨ i = 7 ∨ i = 8 := by omega
  all_goals simp only [Nat.reduceSub, Nat.reducePow]
  all_goals omega
theorem node6 {i v : Nat} {x : Int} (h1 : 1 ≤ i) (h2 : i ≤ 6) (hv : v < 64) (hx : x = ((2 ^ (6 - i) + v / 2 ^ i : Nat) : Int)) :
    (2 * x + vbit v (i - 1) = ((2 ^ (6 - (i - 1)) + v / 2 ^ (i - 1) : Nat) : Int)) ∧ (i = 1 → 2 * x + vbit v (i - 1) = 64 + v) ∧ (i ≠ 1 → 2 * x + vbit v (i - 1) < 64) := by
  subst hx
  unfold vbit
  obtain rfl | rfl | rfl | rfl | rfl | rfl : i = 1 ∨ i = 2 ∨ i = 3 ∨ i = 4 ∨ i = 5 ∨ i = 6 := by omega
  all_goals simp only [Nat.reduceSub, Nat.reducePow]
  all_goals omega
theorem vbit_low {e i : Nat} (h1 : 1 ≤ i) (h2 : i ≤ 6) : vbit e (i - 1) = vbit (e % 64) (i - 1) := by
  unfold vbit
  obtain rfl | rfl | rfl | rfl | rfl | rfl : i = 1 ∨ i = 2 ∨ i = 3 ∨ i = 4 ∨ i = 5 ∨ i = 6 := by omega
  all_goals simp only [Nat.reduceSub, Nat.reducePow]
  all_goals omega
theorem cBitS_step (c : CSt) (p b : Int) (hp : p ≠ 0) : cBitS c p b = cStep c p b := by
  unfold cBitS cStep; rw [if_neg hp]
theorem kind_set (m : Ms) (x : Int) : ({ m.setp (adapt m.pr x) with beh := x } : Ms) = m.kind x := by
  unfold Ms.setp Ms.kind Ms.pr
  split <;> rfl
/-- What becomes of a reader within a token with the token's next bit. -/
def MidNext (i : Nat) (s : RdS) (t : Tok) (c : CSt) : Prop :=
  (rTokB s (nb i s t) = false ∧ ∃ i', Mid i' (rStep s (nb i s t)) t ∧ cont i s c t = cont i' (rStep s (nb i s t)) (cStep c (rQ s) (nb i s t)) t ∧ lft i' (rStep s (nb i s t)) < lft i s) ∨
  (rTokB s (nb i s t) = true ∧ rStep s (nb i s t) = ⟨(cont i s c t).2, 0, 1, t⟩ ∧ (cont i s c t).1 = cStep c (rQ s) (nb i s t) ∧ 1 ≤ lft i s)
set_option maxHeartbeats 1600000 in
theorem mid_next {i : Nat} {s : RdS} {t : Tok} (h : Mid i s t) (c : CSt) (hp : s.part ≠ 4 → rP s ≠ 0) : MidNext i s t c := by
  cases h with
  | kind m t0 t tv =>
    have hp : m.pr ≠ 0 := hp (show (0 : Nat) ≠ 4 by decide)
    left
    rcases tv with ⟨b, hb, rfl⟩ | ⟨a, e, ha, he, rfl⟩
    · have e1 : nb 1 ⟨m, 0, 1, t0⟩ ⟨0, 0, b⟩ = 0 := rfl
      have e2 : rStep ⟨m, 0, 1, t0⟩ 0 = ⟨m.kind 0, 1, 1, ⟨0, 0, 0⟩⟩ := by rw [← kind_set]; rfl
      have e3 : rQ ⟨m, 0, 1, t0⟩ = m.pr := rfl
      rw [e1, e2, e3]
      refine ⟨rfl, 8, Mid.byte _ 8 b 1 (by decide) (by decide) hb (by simp only [Nat.reduceSub, Nat.reducePow]; omega), ?_, show (8 : Nat) < 21 by decide⟩
      rw [← cBitS_step _ _ _ hp]
      rfl
    · have e1 : nb 1 ⟨m, 0, 1, t0⟩ ⟨a + 2, e + 1, 0⟩ = 1 := by
        show (if (a + 2 : Int) = 0 then (0 : Int) else 1) = 1
        rw [if_neg (by omega)]
      have e2 : rStep ⟨m, 0, 1, t0⟩ 1 = ⟨m.kind 1, 2, 1, ⟨0, 0, 0⟩⟩ := by rw [← kind_set]; rfl
      have e3 : rQ ⟨m, 0, 1, t0⟩ = m.pr := rfl
      rw [e1, e2, e3]
      refine ⟨rfl, 8, Mid.len _ 8 a e 1 (by decide) (by decide) ha he (by simp only [Nat.reduceSub, Nat.reducePow]; omega), ?_, show (12 + 8 : Nat) < 21 by decide⟩
      rw [← cBitS_step _ _ _ hp]
      have : cont 1 ⟨m, 0, 1, t0⟩ c ⟨a + 2, e + 1, 0⟩ = eTok c m ⟨a + 2, e + 1, 0⟩ := rfl
      rw [this]
      unfold eTok
      rw [if_neg (show ¬ (a + 2 : Int) = 0 by omega)]
      rfl
  | byte m i b x h1 h2 hb hx =>
    obtain ⟨k1, k2, k3⟩ := node8 h1 h2 hb hx
    obtain ⟨k, rfl⟩ : ∃ k, i = k + 1 := ⟨i - 1, by omega⟩
    have hp : atN m.bt x ≠ 0 := hp (show (1 : Nat) ≠ 4 by decide)
    have e1 : nb (k + 1) ⟨m, 1, x, ⟨0, 0, 0⟩⟩ ⟨0, 0, b⟩ = vbit b k := rfl
    have e3 : rQ ⟨m, 1, x, ⟨0, 0, 0⟩⟩ = atN m.bt x := rfl
    have e4 : rFullB ⟨m, 1, x, ⟨0, 0, 0⟩⟩ (vbit b k) = decide ((256 : Int) ≤ 2 * x + vbit b k) := rfl
    simp only [Nat.add_sub_cancel] at k1 k2 k3
    unfold MidNext
    rw [e1, e3, ← cBitS_step _ _ _ hp]
    by_cases hk : k = 0
    · subst hk
      right
      have ef : rFullB ⟨m, 1, x, ⟨0, 0, 0⟩⟩ (vbit b 0) = true := by rw [e4, decide_eq_true (by have := k2 rfl; omega)]
      refine ⟨by unfold rTokB; rw [ef]; rfl, ?_, rfl, show (1 : Nat) ≤ 0 + 1 by decide⟩
      have : rStep ⟨m, 1, x, ⟨0, 0, 0⟩⟩ (vbit b 0) = ⟨{ m with bt := turnN m.bt x (vbit b 0) }, 0, 1, ⟨0, 0, 2 * x + vbit b 0 - 256⟩⟩ := by unfold rStep; rw [if_pos ef]; rfl
      rw [this, k2 rfl]
      have e : (256 + (b : Int) - 256) = b := by omega
      rw [e]
      rfl
    · left
      have ef : rFullB ⟨m, 1, x, ⟨0, 0, 0⟩⟩ (vbit b k) = false := by rw [e4, decide_eq_false (by have := k3 (by omega); omega)]
      have es : rStep ⟨m, 1, x, ⟨0, 0, 0⟩⟩ (vbit b k) = ⟨{ m with bt := turnN m.bt x (vbit b k) }, 1, 2 * x + vbit b k, ⟨0, 0, 0⟩⟩ := by unfold rStep; rw [if_neg (by rw [ef]; decide)]; rfl
      rw [es]
      refine ⟨by unfold rTokB; rw [ef]; rfl, k, Mid.byte _ k b _ (by omega) (by omega) hb k1, ?_, by show k < k + 1; omega⟩
      unfold cont
      dsimp only
      rw [if_neg (by decide), if_pos rfl, if_neg (by decide), if_pos rfl]
      rfl
  | len m i a e x h1 h2 ha he hx =>
    obtain ⟨k1, k2, k3⟩ := node8 h1 h2 ha hx
    obtain ⟨k, rfl⟩ : ∃ k, i = k + 1 := ⟨i - 1, by omega⟩
    have hp : atN m.lt x ≠ 0 := hp (show (2 : Nat) ≠ 4 by decide)
    have ea : ((a + 2 : Int) - 2).toNat = a := by omega
    have e1 : nb (k + 1) ⟨m, 2, x, ⟨0, 0, 0⟩⟩ ⟨a + 2, e + 1, 0⟩ = vbit a k := by show vbit ((a + 2 : Int) - 2).toNat k = _; rw [ea]
    have e3 : rQ ⟨m, 2, x, ⟨0, 0, 0⟩⟩ = atN m.lt x := rfl
    have e4 : rFullB ⟨m, 2, x, ⟨0, 0, 0⟩⟩ (vbit a k) = decide ((256 : Int) ≤ 2 * x + vbit a k) := rfl
    simp only [Nat.add_sub_cancel] at k1 k2 k3
    unfold MidNext
    rw [e1, e3, ← cBitS_step _ _ _ hp]
    left
    by_cases hk : k = 0
    · subst hk
      have ef : rFullB ⟨m, 2, x, ⟨0, 0, 0⟩⟩ (vbit a 0) = true := by rw [e4, decide_eq_true (by have := k2 rfl; omega)]
      have es : rStep ⟨m, 2, x, ⟨0, 0, 0⟩⟩ (vbit a 0) = ⟨{ m with lt := turnN m.lt x (vbit a 0) }, 3, 1, ⟨2 * x + vbit a 0 - 256 + 2, 0, 0⟩⟩ := by unfold rStep; rw [if_pos ef]; rfl
      have en : 2 * x + vbit a 0 - 256 + 2 = (a : Int) + 2 := by rw [k2 rfl]; omega
      rw [en] at es
      rw [es]
      refine ⟨by unfold rTokB; rw [ef]; rfl, 6, Mid.upper _ 6 a e 1 (by decide) (by decide) ha he (by simp only [Nat.reduceSub, Nat.reducePow]; omega), ?_, by show 6 + 6 < 12 + 1; decide⟩
      unfold cont
      dsimp only
      rw [if_neg (by decide), if_neg (by decide), if_pos rfl, if_neg (by decide), if_neg (by decide), if_neg (by decide), if_pos rfl, ea]
      rfl
    · have ef : rFullB ⟨m, 2, x, ⟨0, 0, 0⟩⟩ (vbit a k) = false := by rw [e4, decide_eq_false (by have := k3 (by omega); omega)]
      have es : rStep ⟨m, 2, x, ⟨0, 0, 0⟩⟩ (vbit a k) = ⟨{ m with lt := turnN m.lt x (vbit a k) }, 2, 2 * x + vbit a k, ⟨0, 0, 0⟩⟩ := by unfold rStep; rw [if_neg (by rw [ef]; decide)]; rfl
      rw [es]
      refine ⟨by unfold rTokB; rw [ef]; rfl, k, Mid.len _ k a e _ (by omega) (by omega) ha he k1, ?_, by show 12 + k < 12 + (k + 1); omega⟩
      unfold cont
      dsimp only
      rw [if_neg (by decide), if_neg (by decide), if_pos rfl, if_neg (by decide), if_neg (by decide), if_pos rfl, ea]
      rfl
  | upper m i a e x h1 h2 ha he hx =>
    obtain ⟨k1, k2, k3⟩ := node6 h1 h2 (show e / 64 < 64 by omega) hx
    obtain ⟨k, rfl⟩ : ∃ k, i = k + 1 := ⟨i - 1, by omega⟩
    have hp : atN m.dt x ≠ 0 := hp (show (3 : Nat) ≠ 4 by decide)
    have ee : ((e + 1 : Int) - 1).toNat = e := by omega
    have e1 : nb (k + 1) ⟨m, 3, x, ⟨a + 2, 0, 0⟩⟩ ⟨a + 2, e + 1, 0⟩ = vbit (e / 64) k := by show vbit (((e + 1 : Int) - 1).toNat / 64) k = _; rw [ee]
    have e3 : rQ ⟨m, 3, x, ⟨a + 2, 0, 0⟩⟩ = atN m.dt x := rfl
    have e4 : rFullB ⟨m, 3, x, ⟨a + 2, 0, 0⟩⟩ (vbit (e / 64) k) = decide ((64 : Int) ≤ 2 * x + vbit (e / 64) k) := rfl
    simp only [Nat.add_sub_cancel] at k1 k2 k3
    unfold MidNext
    rw [e1, e3, ← cBitS_step _ _ _ hp]
    left
    by_cases hk : k = 0
    · subst hk
      have ef : rFullB ⟨m, 3, x, ⟨a + 2, 0, 0⟩⟩ (vbit (e / 64) 0) = true := by rw [e4, decide_eq_true (by have := k2 rfl; omega)]
      have es : rStep ⟨m, 3, x, ⟨a + 2, 0, 0⟩⟩ (vbit (e / 64) 0) = ⟨{ m with dt := turnN m.dt x (vbit (e / 64) 0) }, 4, 1, ⟨a + 2, (2 * x + vbit (e / 64) 0 - 64) * 64, 0⟩⟩ := by unfold rStep; rw [if_pos ef]; rfl
      have en : (2 * x + vbit (e / 64) 0 - 64) * 64 = ((e / 64 * 64 : Nat) : Int) := by rw [k2 rfl]; omega
      rw [en] at es
      rw [es]
      refine ⟨by unfold rTokB; rw [ef]; rfl, 6, Mid.lower _ 6 a e 1 (by decide) (by decide) ha he (by simp only [Nat.reduceSub, Nat.reducePow]; omega), ?_, by show 6 < 6 + 1; decide⟩
      unfold cont
      dsimp only
      rw [if_neg (by decide), if_neg (by decide), if_neg (by decide), if_pos rfl, if_neg (by decide), if_neg (by decide), if_neg (by decide), if_neg (by decide), ee]
      rfl
    · have ef : rFullB ⟨m, 3, x, ⟨a + 2, 0, 0⟩⟩ (vbit (e / 64) k) = false := by rw [e4, decide_eq_false (by have := k3 (by omega); omega)]
      have es : rStep ⟨m, 3, x, ⟨a + 2, 0, 0⟩⟩ (vbit (e / 64) k) = ⟨{ m with dt := turnN m.dt x (vbit (e / 64) k) }, 3, 2 * x + vbit (e / 64) k, ⟨a + 2, 0, 0⟩⟩ := by unfold rStep; rw [if_neg (by rw [ef]; decide)]; rfl
      rw [es]
      refine ⟨by unfold rTokB; rw [ef]; rfl, k, Mid.upper _ k a e _ (by omega) (by omega) ha he k1, ?_, by show 6 + k < 6 + (k + 1); omega⟩
      unfold cont
      dsimp only
      rw [if_neg (by decide), if_neg (by decide), if_neg (by decide), if_pos rfl, if_neg (by decide), if_neg (by decide), if_neg (by decide), if_pos rfl, ee]
      rfl
  | lower m i a e x h1 h2 ha he hx =>
    obtain ⟨k1, k2, k3⟩ := node6 h1 h2 (show e % 64 < 64 by omega) hx
    rw [← vbit_low h1 h2] at k1 k2 k3
    obtain ⟨k, rfl⟩ : ∃ k, i = k + 1 := ⟨i - 1, by omega⟩
    obtain ⟨td, htd⟩ : ∃ td : Int, ((e / 64 * 64 : Nat) : Int) = td := ⟨_, rfl⟩
    rw [htd]
    have ee : ((e + 1 : Int) - 1).toNat = e := by omega
    have e1 : nb (k + 1) ⟨m, 4, x, ⟨a + 2, td, 0⟩⟩ ⟨a + 2, e + 1, 0⟩ = vbit e k := by show vbit ((e + 1 : Int) - 1).toNat k = _; rw [ee]
    have e3 : rQ ⟨m, 4, x, ⟨a + 2, td, 0⟩⟩ = 0 := rfl
    have e4 : rFullB ⟨m, 4, x, ⟨a + 2, td, 0⟩⟩ (vbit e k) = decide ((64 : Int) ≤ 2 * x + vbit e k) := rfl
    simp only [Nat.add_sub_cancel] at k1 k2 k3
    have ec : cont (k + 1) ⟨m, 4, x, ⟨a + 2, td, 0⟩⟩ c ⟨a + 2, e + 1, 0⟩ = (hRun e k (cStep c 0 (vbit e k)), m) := by
      show (hRun ((e + 1 : Int) - 1).toNat (k + 1) c, m) = _
      rw [ee]
      rfl
    unfold MidNext
    rw [e1, e3, ec]
    by_cases hk : k = 0
    · subst hk
      right
      have ef : rFullB ⟨m, 4, x, ⟨a + 2, td, 0⟩⟩ (vbit e 0) = true := by rw [e4, decide_eq_true (by have := k2 rfl; omega)]
      refine ⟨by unfold rTokB; rw [ef]; rfl, ?_, rfl, show (1 : Nat) ≤ 0 + 1 by decide⟩
      have : rStep ⟨m, 4, x, ⟨a + 2, td, 0⟩⟩ (vbit e 0) = ⟨m, 0, 1, ⟨a + 2, td + (2 * x + vbit e 0 - 64 + 1), 0⟩⟩ := by unfold rStep; rw [if_pos ef]; rfl
      rw [this, k2 rfl]
      have e : td + (64 + ((e % 64 : Nat) : Int) - 64 + 1) = (e : Int) + 1 := by omega
      rw [e]
    · left
      have ef : rFullB ⟨m, 4, x, ⟨a + 2, td, 0⟩⟩ (vbit e k) = false := by rw [e4, decide_eq_false (by have := k3 (by omega); omega)]
      have es : rStep ⟨m, 4, x, ⟨a + 2, td, 0⟩⟩ (vbit e k) = ⟨m, 4, 2 * x + vbit e k, ⟨a + 2, td, 0⟩⟩ := by unfold rStep; rw [if_neg (by rw [ef]; decide)]; rfl
      rw [es]
      refine ⟨by unfold rTokB; rw [ef]; rfl, k, ?_, ?_, by show k < k + 1; omega⟩
      · rw [← htd]; exact Mid.lower _ k a e _ (by omega) (by omega) ha he k1
      · show _ = (hRun ((e + 1 : Int) - 1).toNat k (cStep c 0 (vbit e k)), m)
        rw [ee]
end Go.Proofs.Ytnanbnaikmaljaa
