
/- The plain law of the decoder: what it has taken is the coder's number and its own code. -/
import Derived.Test.YtnanbnaikmaljaaLzPXCodMath
import Derived.Test.YtnanbnaikmaljaaLzPXDec
namespace Go.Proofs.Ytnanbnaikmaljaa

/-- Bytes taken one by one. -/
def dEat (s : DSt) (zs : List Int) : DSt := zs.foldl dByteS s
/-- A bit is told, with its chance (0: none). -/
def dStepS (s : DSt) (p : Int) : DSt := if p = 0 then dHalfS s else dBitS s p
def dStepB (s : DSt) (p : Int) : Int := if p = 0 then dHalfB s else dBitB s p

/-- Coder and decoder side by side: all that was taken, less code, is low; what is needed stands for low's last bytes. -/
structure DRel (c : CSt) (d : DSt) (taken : List Int) : Prop where
  ok : COk c
  dok : DOk d
  w : d.w = c.w
  n0 : 0 ≤ d.n
  len : (taken.length : Int) + d.n = c.l.length
  nm : num c.l = (num taken - d.c) * 256 ^ d.n.toNat

theorem DRel.start : DRel ⟨[0, 0, 0, 0], 4294967295⟩ ⟨0, 4294967295, 4⟩ [] := ⟨COk.start, DOk.new, rfl, by decide, rfl, by decide⟩
theorem DRel.byte {c : CSt} {d : DSt} {t : List Int} (h : DRel c d t) (z : Int) (hz : 0 ≤ z ∧ z ≤ 255) (hn : 0 < d.n) : DRel c (dByteS d z) (t ++ [z]) := by
  have hd := h.dok.byte z hz
  have e : dByteS d z = ⟨d.c * 256 + z, d.w, d.n - 1⟩ := if_pos hn
  rw [e] at hd ⊢
  refine ⟨h.ok, hd, h.w, by simp only; omega, by have := h.len; simp only [List.length_append, List.length_singleton]; omega, ?_⟩
  simp only
  rw [h.nm, num_snoc]
  obtain ⟨k, hk⟩ : ∃ k : Nat, d.n = (k : Int) + 1 := ⟨(d.n - 1).toNat, by omega⟩
  have e1 : d.n.toNat = k + 1 := by omega
  have e2 : (d.n - 1).toNat = k := by omega
  rw [e1, e2, Int.pow_succ]
  have e3 : num t * 256 + z - (d.c * 256 + z) = (num t - d.c) * 256 := by omega
  rw [e3, Int.mul_assoc, Int.mul_comm 256 (256 ^ k)]
theorem DRel.eat {c : CSt} : ∀ (zs : List Int) {d : DSt} {t : List Int}, DRel c d t → (∀ z ∈ zs, 0 ≤ z ∧ z ≤ 255) → (zs.length : Int) ≤ d.n → DRel c (dEat d zs) (t ++ zs) ∧ (dEat d zs).n = d.n - zs.length
  | [], d, t, h, _, _ => ⟨by rw [List.append_nil]; exact h, by simp [dEat]⟩
  | z :: zs, d, t, h, hz, hl => by
    simp only [List.length_cons] at hl
    have h1 := h.byte z (hz z List.mem_cons_self) (by omega)
    have e : (dByteS d z).n = d.n - 1 := by unfold dByteS; rw [if_pos (by omega)]
    obtain ⟨h2, h3⟩ := DRel.eat zs h1 (fun y hy => hz y (List.mem_cons_of_mem _ hy)) (by rw [e]; omega)
    refine ⟨?_, ?_⟩
    · have : dEat d (z :: zs) = dEat (dByteS d z) zs := rfl
      rw [this, List.append_cons]; exact h2
    · have : dEat d (z :: zs) = dEat (dByteS d z) zs := rfl
      rw [this, h3, e, List.length_cons]; omega
theorem strN_more (w : Int) : strN w 0 = (more w : Int) := by unfold strN more; split <;> rfl
/-- A bit is told: the coder takes the same. -/
theorem DRel.step {c : CSt} {d : DSt} {t : List Int} (h : DRel c d t) (p : Int) (hn : d.n = 0) (hl : d.c < d.w) :
    ∃ b : Bool, dStepB d p = bI b ∧ (b = false ↔ num t - num c.l < loW c p) ∧ DRel (cStep c p (bI b)) (dStepS d p) t := by
  have hm : dMayB d = true := by simp [dMayB, hn, hl]
  have hnum : num c.l = num t - d.c := by have := h.nm; rw [hn] at this; simpa using this
  have dok : DOk (dStepS d p) := by unfold dStepS; split; exact h.dok.half; exact h.dok.bit p
  have eS : dStepS d p = splS d (loW c p) (hiW c p) ∧ dStepB d p = splB d (loW c p) := by
    unfold dStepS dStepB loW hiW dHalfS dHalfB dBitS dBitB dBound cBd
    by_cases hp : p = 0
    · simp [hp, hm, h.w]
    · simp [hp, hm, h.w]
  have hw := h.w
  by_cases hb : d.c < loW c p
  · obtain ⟨ok, st⟩ := cStep_steps h.ok p false
    refine ⟨false, by rw [eS.2]; unfold splB; rw [if_pos hb]; rfl, ⟨fun _ => by omega, fun _ => rfl⟩, ?_⟩
    simp only [Bool.false_eq_true, if_false] at st
    have e : dStepS d p = ⟨d.c, strW (loW c p), strN (loW c p) d.n⟩ := by rw [eS.1]; exact if_pos hb
    rw [e] at dok ⊢
    rw [hn, strN_more] at dok ⊢
    refine ⟨ok, dok, by simp only; rw [st.width, strW_more], by simp only; omega, by simp only; rw [st.len]; have := h.len; omega, ?_⟩
    simp only [Int.toNat_natCast]
    rw [st.num, hnum]; simp
  · obtain ⟨ok, st⟩ := cStep_steps h.ok p true
    refine ⟨true, by rw [eS.2]; unfold splB; rw [if_neg hb]; rfl, ⟨(fun h => by cases h), (fun h => by omega)⟩, ?_⟩
    simp only [if_true] at st
    have e : dStepS d p = ⟨d.c - loW c p, strW (hiW c p), strN (hiW c p) d.n⟩ := by rw [eS.1]; exact if_neg hb
    rw [e] at dok ⊢
    rw [hn, strN_more] at dok ⊢
    refine ⟨ok, dok, by simp only; rw [st.width, strW_more], by simp only; omega, by simp only; rw [st.len]; have := h.len; omega, ?_⟩
    simp only [Int.toNat_natCast]
    rw [st.num, hnum]
    congr 1
    omega
/-- Rows of one length with one number are one. -/
theorem num_inj : ∀ (a b : List Int), (∀ z ∈ a, 0 ≤ z ∧ z ≤ 255) → (∀ z ∈ b, 0 ≤ z ∧ z ≤ 255) → a.length = b.length → num a = num b → a = b
  | [], [], _, _, _, _ => rfl
  | x :: a, y :: b, ha, hb, hl, hn => by
    have hl' : a.length = b.length := by simpa using hl
    have d1 := num_bd a (fun z hz => ha z (List.mem_cons_of_mem _ hz))
    have d2 := num_bd b (fun z hz => hb z (List.mem_cons_of_mem _ hz))
    rw [num_cons, num_cons, ← hl'] at hn
    rw [← hl'] at d2
    have hp := pow_pos' a.length
    have exy : x = y := by
      rcases Int.lt_trichotomy x y with h | h | h
      · have := Int.mul_le_mul_of_nonneg_right (show x + 1 ≤ y by omega) (Int.le_of_lt hp)
        rw [Int.add_mul, Int.one_mul] at this; omega
      · exact h
      · have := Int.mul_le_mul_of_nonneg_right (show y + 1 ≤ x by omega) (Int.le_of_lt hp)
        rw [Int.add_mul, Int.one_mul] at this; omega
    subst exy
    rw [num_inj a b (fun z hz => ha z (List.mem_cons_of_mem _ hz)) (fun z hz => hb z (List.mem_cons_of_mem _ hz)) hl' (by omega)]
/-- Where nothing is needed: what was taken is the output exactly if nothing is left. -/
theorem DRel.clean {c : CSt} {d : DSt} {t : List Int} (h : DRel c d t) (hn : d.n = 0) (ht : ∀ z ∈ t, 0 ≤ z ∧ z ≤ 255) : t.length = c.l.length ∧ (d.c = 0 ↔ c.l = t) := by
  have hl := h.len
  have hnum : num c.l = num t - d.c := by have := h.nm; rw [hn] at this; simpa using this
  refine ⟨by omega, fun e => ?_, fun e => ?_⟩
  · exact num_inj _ _ h.ok.byte ht (by omega) (by omega)
  · rw [e] at hnum; omega

/-- The front of a packed row lies in the interval. -/
theorem back_in (f : Nat → Bool) (q : Nat → Int) (k d : Nat) (T : List Int) (hT : T = (cS f q (k + d)).l.take (cS f q k).l.length) :
    T.length = (cS f q k).l.length ∧ num (cS f q k).l ≤ num T ∧ num T < num (cS f q k).l + (cS f q k).w := by
  obtain ⟨e, h1, h2, h3⟩ := within_cS f q k d
  have ok := cS_ok f q (k + d)
  have hF : num (cS f q (k + d)).l = num T * 256 ^ e + num ((cS f q (k + d)).l.drop (cS f q k).l.length) := by
    have : (cS f q (k + d)).l = T ++ (cS f q (k + d)).l.drop (cS f q k).l.length := by rw [hT, List.take_append_drop]
    conv => lhs; rw [this]
    rw [num_append, List.length_drop, h1]
    congr 3
    omega
  have hb := num_bd ((cS f q (k + d)).l.drop (cS f q k).l.length) (fun z hz => ok.byte z (List.mem_of_mem_drop hz))
  rw [List.length_drop, h1] at hb
  have e3 : (cS f q k).l.length + e - (cS f q k).l.length = e := by omega
  rw [e3] at hb
  have hw := ok.w0
  have hp := pow_pos' e
  rw [hF] at h2 h3
  refine ⟨by rw [hT, List.length_take, h1]; omega, ?_, ?_⟩
  · rcases Int.lt_or_le (num T) (num (cS f q k).l) with h | h
    · have := Int.mul_le_mul_of_nonneg_right (show num T + 1 ≤ num (cS f q k).l by omega) (Int.le_of_lt hp)
      rw [Int.add_mul, Int.one_mul] at this; omega
    · exact h
  · rcases Int.lt_or_le (num T) (num (cS f q k).l + (cS f q k).w) with h | h
    · exact h
    · have := Int.mul_le_mul_of_nonneg_right h (Int.le_of_lt hp)
      omega
/-- Which bit comes next. -/
theorem back_bit (f : Nat → Bool) (q : Nat → Int) (k d : Nat) (T : List Int) (hT : T = (cS f q (k + 1 + d)).l.take (cS f q k).l.length) :
    f k = false ↔ num T - num (cS f q k).l < loW (cS f q k) (q k) := by
  obtain ⟨e, h1, h2, h3⟩ := within_cS f q (k + 1) d
  have ok := cS_ok f q (k + 1 + d)
  have okk := cS_ok f q k
  obtain ⟨_, st⟩ := cStep_steps okk (q k) (f k)
  change Steps (cS f q k) (cS f q (k + 1)) _ _ at st
  obtain ⟨mr, hmr⟩ : ∃ mr, mr = more (if f k = true then hiW (cS f q k) (q k) else loW (cS f q k) (q k)) := ⟨_, rfl⟩
  have hlen : (cS f q (k + 1 + d)).l.length = (cS f q k).l.length + (mr + e) := by rw [h1, st.len, ← hmr]; omega
  have hF : num (cS f q (k + 1 + d)).l = num T * 256 ^ (mr + e) + num ((cS f q (k + 1 + d)).l.drop (cS f q k).l.length) := by
    have : (cS f q (k + 1 + d)).l = T ++ (cS f q (k + 1 + d)).l.drop (cS f q k).l.length := by rw [hT, List.take_append_drop]
    conv => lhs; rw [this]
    rw [num_append, List.length_drop, hlen]
    congr 3
    omega
  have hb := num_bd ((cS f q (k + 1 + d)).l.drop (cS f q k).l.length) (fun z hz => ok.byte z (List.mem_of_mem_drop hz))
  rw [List.length_drop, hlen] at hb
  have e3 : (cS f q k).l.length + (mr + e) - (cS f q k).l.length = mr + e := by omega
  rw [e3] at hb
  have hw := ok.w0
  have hp := pow_pos' (mr + e)
  rw [hF] at h2 h3
  rw [st.num, ← hmr, Int.mul_assoc, ← Int.pow_add] at h2
  rw [st.num, st.width, ← hmr, ← Int.add_mul, Int.mul_assoc, ← Int.pow_add] at h3
  generalize (256 : Int) ^ (mr + e) = P at *
  cases hf : f k with
  | false =>
    rw [hf] at h3
    simp only [Bool.false_eq_true, if_false, Int.add_zero] at h3
    refine ⟨fun _ => ?_, fun _ => rfl⟩
    rcases Int.lt_or_le (num T) (num (cS f q k).l + loW (cS f q k) (q k)) with h | h
    · omega
    · have := Int.mul_le_mul_of_nonneg_right h (Int.le_of_lt hp)
      omega
  | true =>
    rw [hf] at h2
    simp only [if_true] at h2
    refine ⟨(fun h => by cases h), fun h => ?_⟩
    have := Int.mul_le_mul_of_nonneg_right (show num T + 1 ≤ num (cS f q k).l + loW (cS f q k) (q k) by omega) (Int.le_of_lt hp)
    rw [Int.add_mul, Int.one_mul] at this
    omega
end Go.Proofs.Ytnanbnaikmaljaa
