
/- The plain law of the coder: low is a number, a step's interval lies within the one before. -/
import Derived.Test.YtnanbnaikmaljaaLzPXCodBits
namespace Go.Proofs.Ytnanbnaikmaljaa

def num (l : List Int) : Int := l.foldl (fun a z => a * 256 + z) 0
theorem num_foldl (l : List Int) : ∀ a : Int, l.foldl (fun a z => a * 256 + z) a = a * 256 ^ l.length + num l := by
  induction l with
  | nil => intro a; simp [num]
  | cons z t ih =>
    intro a
    unfold num
    simp only [List.foldl_cons, List.length_cons]
    rw [ih (a * 256 + z), ih (0 * 256 + z), Int.pow_succ]
    simp only [Int.zero_mul, Int.zero_add, Int.add_mul, Int.mul_assoc]
    rw [Int.mul_comm 256 (256 ^ t.length)]
    omega
theorem num_append (a b : List Int) : num (a ++ b) = num a * 256 ^ b.length + num b := by
  show (a ++ b).foldl _ 0 = _
  rw [List.foldl_append, num_foldl b]
  rfl
theorem num_cons (z : Int) (t : List Int) : num (z :: t) = z * 256 ^ t.length + num t := by
  rw [show z :: t = [z] ++ t from rfl, num_append]
  simp [num]
theorem num_snoc (l : List Int) (z : Int) : num (l ++ [z]) = num l * 256 + z := by
  rw [num_append]; simp [num]
theorem pow_pos' (k : Nat) : (0 : Int) < 256 ^ k := Int.pow_pos (by decide)
theorem num_bd (l : List Int) (h : ∀ z ∈ l, 0 ≤ z ∧ z ≤ 255) : 0 ≤ num l ∧ num l < 256 ^ l.length := by
  induction l with
  | nil => simp [num]
  | cons z t ih =>
    obtain ⟨h1, h2⟩ := ih (fun y hy => h y (List.mem_cons_of_mem _ hy))
    have hz := h z List.mem_cons_self
    have hp := pow_pos' t.length
    rw [num_cons, List.length_cons, Int.pow_succ]
    have h3 : 0 ≤ z * 256 ^ t.length := Int.mul_nonneg hz.1 (Int.le_of_lt hp)
    have h4 : z * 256 ^ t.length ≤ 255 * 256 ^ t.length := Int.mul_le_mul_of_nonneg_right hz.2 (Int.le_of_lt hp)
    omega
theorem num_set (l : List Int) (i : Nat) (z : Int) (hi : i < l.length) : num (l.set i z) = num l + (z - l.getD i 0) * 256 ^ (l.length - (i + 1)) := by
  have e1 : num l = num (l.take i ++ l.getD i 0 :: l.drop (i + 1)) := by
    congr 1
    rw [getD_get 0 hi, ← List.drop_eq_getElem_cons hi, List.take_append_drop]
  have e2 : (l.drop (i + 1)).length = l.length - (i + 1) := by simp
  rw [List.set_eq_take_append_cons_drop, if_pos hi, e1, num_append, num_append, num_cons, num_cons, List.length_cons, List.length_cons, e2, Int.sub_mul]
  omega
theorem set_byte {l : List Int} (h : ∀ z ∈ l, 0 ≤ z ∧ z ≤ 255) (i : Nat) (z : Int) (hz : 0 ≤ z ∧ z ≤ 255) : ∀ y ∈ l.set i z, 0 ≤ y ∧ y ≤ 255 := by
  intro y hy
  rcases List.mem_or_eq_of_mem_set hy with hy | rfl
  · exact h y hy
  · exact hz
/-- What is added to low, but for what runs over. -/
theorem addTo_num (j : Nat) : ∀ (l : List Int) (n : Int), j ≤ l.length → 0 ≤ n → (∀ z ∈ l, 0 ≤ z ∧ z ≤ 255) →
    (∀ z ∈ addTo j l n, 0 ≤ z ∧ z ≤ 255) ∧ ∃ ov : Int, 0 ≤ ov ∧ num (addTo j l n) + ov * 256 ^ l.length = num l + n * 256 ^ (l.length - j) := by
  induction j with
  | zero => intro l n _ hn hb; exact ⟨hb, n, hn, by simp [addTo]⟩
  | succ j ih =>
    intro l n hj hn hb
    by_cases h0 : 0 < n
    · rw [addTo_step h0]
      have hx := byte_getD hb j
      generalize hxe : l.getD j 0 = x at *
      obtain ⟨h1, ov, h2, h3⟩ := ih (l.set j ((n + x) % 256)) ((n + x) / 256) (by simp; omega) (by omega) (set_byte hb j _ (by omega))
      refine ⟨h1, ov, h2, ?_⟩
      rw [List.length_set] at h3
      rw [h3, num_set l j _ (by omega), hxe]
      have e1 : l.length - j = (l.length - (j + 1)) + 1 := by omega
      rw [e1, Int.pow_succ]
      generalize (256 : Int) ^ (l.length - (j + 1)) = P
      have e2 : (n + x) / 256 * (P * 256) = ((n + x) / 256 * 256) * P := by rw [Int.mul_comm P 256, Int.mul_assoc]
      rw [e2, Int.add_assoc, ← Int.add_mul]
      have e3 : (n + x) % 256 - x + (n + x) / 256 * 256 = n := by omega
      rw [e3]
    · rw [addTo_stop h0]
      obtain rfl : n = 0 := by omega
      exact ⟨hb, 0, Int.le_refl _, by simp⟩
theorem addL_num (l : List Int) (n : Int) (hn : 0 ≤ n) (hb : ∀ z ∈ l, 0 ≤ z ∧ z ≤ 255) (hs : num l + n < 256 ^ l.length) : (∀ z ∈ addL l n, 0 ≤ z ∧ z ≤ 255) ∧ num (addL l n) = num l + n := by
  obtain ⟨h1, ov, h2, h3⟩ := addTo_num l.length l n (Nat.le_refl _) hn hb
  refine ⟨h1, ?_⟩
  rw [Nat.sub_self, Int.pow_zero, Int.mul_one] at h3
  have h4 := (num_bd _ h1).1
  have hp := pow_pos' l.length
  have h5 : ov = 0 := by
    have : ov < 1 := by
      rcases Int.lt_or_le ov 1 with h | h
      · exact h
      · have h6 : 1 * 256 ^ l.length ≤ ov * 256 ^ l.length := Int.mul_le_mul_of_nonneg_right h (Int.le_of_lt hp)
        omega
    omega
  rw [h5] at h3
  show num (addTo l.length l n) = _
  omega

/-- What holds of a coder. -/
structure COk (s : CSt) : Prop where
  byte : ∀ z ∈ s.l, 0 ≤ z ∧ z ≤ 255
  w0 : 16777216 ≤ s.w
  w1 : s.w < 4294967296
  room : num s.l + s.w ≤ 256 ^ s.l.length
  len : 4 ≤ s.l.length

/-- The parts of a step: the interval's lower part and its upper part. -/
def loW (s : CSt) (p : Int) : Int := if p = 0 then s.w / 2 else cBd s.w p
def hiW (s : CSt) (p : Int) : Int := if p = 0 then s.w / 2 else s.w - cBd s.w p
theorem parts_bd {s : CSt} (h : COk s) (p : Int) : 65536 ≤ loW s p ∧ 65536 ≤ hiW s p ∧ loW s p + hiW s p ≤ s.w := by
  have h0 := h.w0
  have a1 := hold_lo p
  have a2 := hold_hi p
  have h3 : 8192 ≤ s.w / 2048 := by omega
  have h4 : s.w / 2048 * hold p ≤ s.w / 2048 * 2017 := Int.mul_le_mul_of_nonneg_left a2 (by omega)
  have h5 : s.w / 2048 * 31 ≤ s.w / 2048 * hold p := Int.mul_le_mul_of_nonneg_left a1 (by omega)
  unfold loW hiW cBd
  split <;> omega
/-- How many bytes a width brings. -/
def more (w : Int) : Nat := if w < 16777216 then 1 else 0
theorem strW_more (w : Int) : strW w = w * 256 ^ more w := by unfold strW more; split <;> simp
theorem cStrL_num (l : List Int) (w : Int) : num (cStrL l w) = num l * 256 ^ more w ∧ (cStrL l w).length = l.length + more w := by
  unfold cStrL more
  split
  · rw [num_snoc]; simp
  · simp
theorem cStrL_byte {l : List Int} (h : ∀ z ∈ l, 0 ≤ z ∧ z ≤ 255) (w : Int) : ∀ z ∈ cStrL l w, 0 ≤ z ∧ z ≤ 255 := by
  unfold cStrL
  split
  · intro z hz
    rcases List.mem_append.1 hz with hz | hz
    · exact h z hz
    · rw [List.mem_singleton.1 hz]; decide
  · exact h
theorem cStep_bI (s : CSt) (p : Int) (b : Bool) : cStep s p (bI b) = if b then ⟨cStrL (addL s.l (loW s p)) (hiW s p), strW (hiW s p)⟩ else ⟨cStrL s.l (loW s p), strW (loW s p)⟩ := by
  unfold cStep loW hiW cHalfL cHalfW cBitL cBitW
  cases b
  · by_cases hp : p = 0 <;> simp [hp, bI]
  · by_cases hp : p = 0 <;> simp [hp, bI]
/-- A step: the number and the width of the part, both times 256 where a byte is added. -/
structure Steps (s s' : CSt) (n w : Int) : Prop where
  num : num s'.l = (num s.l + n) * 256 ^ more w
  width : s'.w = w * 256 ^ more w
  len : s'.l.length = s.l.length + more w
theorem cStep_steps {s : CSt} (h : COk s) (p : Int) (b : Bool) : COk (cStep s p (bI b)) ∧ Steps s (cStep s p (bI b)) (if b then loW s p else 0) (if b then hiW s p else loW s p) := by
  obtain ⟨p1, p2, p3⟩ := parts_bd h p
  have h1 := h.w1
  have hr := h.room
  rw [cStep_bI]
  cases b
  · simp only [Bool.false_eq_true, if_false]
    have hn := cStrL_num s.l (loW s p)
    have hw := strW_bd (loW s p) (by omega) (by omega)
    refine ⟨⟨cStrL_byte h.byte _, strW_wide _ p1, hw.2.1, ?_, ?_⟩, ⟨?_, strW_more _, hn.2⟩⟩
    · simp only
      rw [hn.1, hn.2, strW_more, ← Int.add_mul, Int.pow_add]
      exact Int.mul_le_mul_of_nonneg_right (by omega) (Int.le_of_lt (pow_pos' _))
    · simp only; have := h.len; omega
    · simp only; rw [hn.1, Int.add_zero]
  · simp only [if_true]
    obtain ⟨ab, an⟩ := addL_num s.l (loW s p) (by omega) h.byte (by omega)
    have hn := cStrL_num (addL s.l (loW s p)) (hiW s p)
    rw [addL_length, an] at hn
    have hw := strW_bd (hiW s p) (by omega) (by omega)
    refine ⟨⟨cStrL_byte ab _, strW_wide _ p2, hw.2.1, ?_, ?_⟩, ⟨?_, strW_more _, hn.2⟩⟩
    · simp only
      rw [hn.1, hn.2, strW_more, ← Int.add_mul, Int.pow_add]
      exact Int.mul_le_mul_of_nonneg_right (by omega) (Int.le_of_lt (pow_pos' _))
    · simp only; have := h.len; omega
    · simp only; exact hn.1
theorem COk.start : COk ⟨[0, 0, 0, 0], 4294967295⟩ := ⟨by decide, by decide, by decide, by decide, by decide⟩
theorem cS_ok (f : Nat → Bool) (q : Nat → Int) (k : Nat) : COk (cS f q k) := by
  induction k with
  | zero => exact COk.start
  | succ k ih => exact (cStep_steps ih _ _).1
/-- The intervals lie in each other. -/
def Within (s t : CSt) : Prop := ∃ d : Nat, t.l.length = s.l.length + d ∧ num s.l * 256 ^ d ≤ num t.l ∧ num t.l + t.w ≤ (num s.l + s.w) * 256 ^ d
theorem Within.refl (s : CSt) : Within s s := ⟨0, rfl, by simp, by simp⟩
theorem Within.trans {s t u : CSt} (h : Within s t) (k : Within t u) : Within s u := by
  obtain ⟨d, h1, h2, h3⟩ := h
  obtain ⟨e, k1, k2, k3⟩ := k
  have hp := Int.le_of_lt (pow_pos' e)
  refine ⟨d + e, by omega, ?_, ?_⟩
  · rw [Int.pow_add, ← Int.mul_assoc]
    exact Int.le_trans (Int.mul_le_mul_of_nonneg_right h2 hp) k2
  · rw [Int.pow_add, ← Int.mul_assoc]
    exact Int.le_trans k3 (Int.mul_le_mul_of_nonneg_right h3 hp)
theorem within_step {s : CSt} (h : COk s) (p : Int) (b : Bool) : Within s (cStep s p (bI b)) := by
  obtain ⟨p1, p2, p3⟩ := parts_bd h p
  obtain ⟨_, st⟩ := cStep_steps h p b
  have hp := Int.le_of_lt (pow_pos' (more (if b then hiW s p else loW s p)))
  refine ⟨_, st.len, ?_, ?_⟩
  · rw [st.num]
    exact Int.mul_le_mul_of_nonneg_right (by split <;> omega) hp
  · rw [st.num, st.width, ← Int.add_mul]
    exact Int.mul_le_mul_of_nonneg_right (by split <;> omega) hp
theorem within_cS (f : Nat → Bool) (q : Nat → Int) (k d : Nat) : Within (cS f q k) (cS f q (k + d)) := by
  induction d with
  | zero => exact Within.refl _
  | succ d ih => exact ih.trans (within_step (cS_ok f q (k + d)) _ _)
theorem cS_congr (f f' : Nat → Bool) (q : Nat → Int) (k : Nat) (h : ∀ i, i < k → f i = f' i) : cS f q k = cS f' q k := by
  induction k with
  | zero => rfl
  | succ k ih =>
    show cStep _ _ _ = cStep _ _ _
    rw [ih (fun i hi => h i (by omega)), h k (by omega)]

/-! ### Bits without a chance -/
def wl : Nat → Int × Nat
  | 0 => (4294967295, 4)
  | k + 1 => (strW ((wl k).1 / 2), (wl k).2 + more ((wl k).1 / 2))
theorem wl_len : ∀ k, k < 401 → (wl k).2 = 4 + k / 8 := by decide +kernel
theorem cS_half (f : Nat → Bool) (q : Nat → Int) (k : Nat) (h : ∀ i, i < k → q i = 0) : (cS f q k).w = (wl k).1 ∧ (cS f q k).l.length = (wl k).2 := by
  induction k with
  | zero => exact ⟨rfl, rfl⟩
  | succ k ih =>
    obtain ⟨h1, h2⟩ := ih (fun i hi => h i (by omega))
    have hq := h k (by omega)
    show (cStep (cS f q k) (q k) (bI (f k))).w = _ ∧ (cStep (cS f q k) (q k) (bI (f k))).l.length = _
    rw [cStep_bI, hq]
    have e1 : loW (cS f q k) 0 = (wl k).1 / 2 := by unfold loW; rw [if_pos rfl, h1]
    have e2 : hiW (cS f q k) 0 = (wl k).1 / 2 := by unfold hiW; rw [if_pos rfl, h1]
    rw [e1, e2]
    cases f k
    · simp only [Bool.false_eq_true, if_false]
      exact ⟨rfl, by rw [(cStrL_num _ _).2, h2]; rfl⟩
    · simp only [if_true]
      exact ⟨rfl, by rw [(cStrL_num _ _).2, addL_length, h2]; rfl⟩

/-! ### Two rows that part -/
/-- Low with zeros behind it, up to M bytes. -/
def padN (l : List Int) (i : Nat) : Int := l.getD i 0
def pad (l : List Int) (M : Nat) : List Int := l ++ List.replicate (M - l.length) 0
theorem num_zeros (k : Nat) : num (List.replicate k 0) = 0 := by
  induction k with
  | zero => rfl
  | succ k ih => rw [List.replicate_succ, num_cons, ih]; simp
theorem pad_num (l : List Int) (M : Nat) : num (pad l M) = num l * 256 ^ (M - l.length) := by
  unfold pad; rw [num_append, num_zeros, List.length_replicate]; omega
theorem pad_length (l : List Int) (M : Nat) (h : l.length ≤ M) : (pad l M).length = M := by unfold pad; simp; omega
theorem pad_getD (l : List Int) (M i : Nat) : (pad l M).getD i 0 = l.getD i 0 := by
  unfold pad
  by_cases h : i < l.length
  · simp [List.getD, List.getElem?_append_left h]
  · simp [List.getD, List.getElem?_append_right (show l.length ≤ i by omega), List.getElem?_eq_none (show l.length ≤ i by omega), List.getElem?_replicate]
    split <;> rfl
theorem pad_byte {l : List Int} (h : ∀ z ∈ l, 0 ≤ z ∧ z ≤ 255) (M : Nat) : ∀ z ∈ pad l M, 0 ≤ z ∧ z ≤ 255 := by
  intro z hz
  rcases List.mem_append.1 hz with hz | hz
  · exact h z hz
  · rw [(List.mem_replicate.1 hz).2]; decide
/-- The first byte in which two rows of one length differ decides. -/
theorem num_first (a b : List Int) (ha : ∀ z ∈ a, 0 ≤ z ∧ z ≤ 255) (hb : ∀ z ∈ b, 0 ≤ z ∧ z ≤ 255) (hl : a.length = b.length) (hn : num a < num b) (i : Nat) (hi : i < a.length) (hp : ∀ j, j < i → a.getD j 0 = b.getD j 0) : a.getD i 0 ≤ b.getD i 0 := by
  have e : ∀ l : List Int, i < l.length → num l = num (l.take i) * 256 ^ (l.length - i) + (l.getD i 0 * 256 ^ (l.length - (i + 1)) + num (l.drop (i + 1))) := by
    intro l hi
    have e1 : num l = num (l.take i ++ l.getD i 0 :: l.drop (i + 1)) := by
      congr 1
      rw [getD_get 0 hi, ← List.drop_eq_getElem_cons hi, List.take_append_drop]
    rw [e1, num_append, num_cons, List.length_cons]
    simp only [List.length_drop]
    rw [show l.length - (i + 1) + 1 = l.length - i by omega]
  have et : a.take i = b.take i := by
    apply List.ext_getElem?
    intro j
    by_cases hj : j < i
    · have := hp j hj
      simp only [List.getElem?_take, hj, if_true]
      simp [List.getD, List.getElem?_eq_getElem (show j < a.length by omega), List.getElem?_eq_getElem (show j < b.length by omega)] at this ⊢
      exact this
    · simp [List.getElem?_take, hj]
  have h1 := e a hi
  have h2 := e b (by omega)
  rw [et] at h1
  rw [← hl] at h2
  have d1 := num_bd (a.drop (i + 1)) (fun z hz => ha z (List.mem_of_mem_drop hz))
  have d2 := num_bd (b.drop (i + 1)) (fun z hz => hb z (List.mem_of_mem_drop hz))
  rw [List.length_drop] at d1 d2
  rw [← hl] at d2
  rcases Int.lt_or_le (b.getD i 0) (a.getD i 0) with h | h
  · exfalso
    have hp := pow_pos' (a.length - (i + 1))
    have h5 : (b.getD i 0 + 1) * 256 ^ (a.length - (i + 1)) ≤ a.getD i 0 * 256 ^ (a.length - (i + 1)) := Int.mul_le_mul_of_nonneg_right (by omega) (Int.le_of_lt hp)
    rw [Int.add_mul, Int.one_mul] at h5
    omega
  · exact h
theorem num_eq (a b : List Int) (hl : a.length = b.length) (hp : ∀ j, j < a.length → a.getD j 0 = b.getD j 0) : a = b := by
  apply List.ext_getElem?
  intro j
  by_cases hj : j < a.length
  · have := hp j hj
    simp [List.getD, List.getElem?_eq_getElem hj, List.getElem?_eq_getElem (show j < b.length by omega)] at this ⊢
    exact this
  · rw [List.getElem?_eq_none (by omega), List.getElem?_eq_none (by omega)]
theorem order_num (f g : Nat → Bool) (q : Nat → Int) (at_ n M : Nat) (hat : at_ < n) (h : ∀ i, i < at_ → f i = g i) (hf : f at_ = false) (hg : g at_ = true)
    (h1 : (cS f q n).l.length ≤ M) (h2 : (cS g q n).l.length ≤ M) : num (pad (cS f q n).l M) < num (pad (cS g q n).l M) := by
  have ok := cS_ok f q at_
  have e := cS_congr f g q at_ h
  obtain ⟨d, rfl⟩ : ∃ d, n = at_ + 1 + d := ⟨n - (at_ + 1), by omega⟩
  have w1 := within_cS f q (at_ + 1) d
  have w2 := within_cS g q (at_ + 1) d
  have s1 := (cStep_steps ok (q at_) (f at_)).2
  have s2 := (cStep_steps (e ▸ ok) (q at_) (g at_)).2
  have fok := cS_ok f q (at_ + 1 + d)
  change Steps (cS f q at_) (cS f q (at_ + 1)) _ _ at s1
  change Steps (cS g q at_) (cS g q (at_ + 1)) _ _ at s2
  rw [hf] at s1
  rw [hg, ← e] at s2
  simp only [Bool.false_eq_true, if_false, if_true] at s1 s2
  obtain ⟨d1, l1, _, u1⟩ := w1
  obtain ⟨d2, l2, u2, _⟩ := w2
  rw [s1.num, s1.width, ← Int.add_mul, Int.mul_assoc, ← Int.pow_add, Int.add_zero] at u1
  rw [s2.num, Int.mul_assoc, ← Int.pow_add] at u2
  rw [s1.len] at l1
  rw [s2.len] at l2
  have fw := fok.w0
  generalize cS f q (at_ + 1 + d) = F at *
  generalize cS g q (at_ + 1 + d) = G at *
  rw [pad_num, pad_num]
  generalize num (cS f q at_).l + loW (cS f q at_) (q at_) = V at *
  have p1 := pow_pos' (M - F.l.length)
  have p2 := pow_pos' (M - G.l.length)
  have m1 : num F.l * 256 ^ (M - F.l.length) < V * 256 ^ (more (loW (cS f q at_) (q at_)) + d1) * 256 ^ (M - F.l.length) := Int.mul_lt_mul_of_pos_right (by omega) p1
  have m2 : V * 256 ^ (more (hiW (cS f q at_) (q at_)) + d2) * 256 ^ (M - G.l.length) ≤ num G.l * 256 ^ (M - G.l.length) := Int.mul_le_mul_of_nonneg_right u2 (Int.le_of_lt p2)
  rw [Int.mul_assoc, ← Int.pow_add] at m1 m2
  have ee : more (loW (cS f q at_) (q at_)) + d1 + (M - F.l.length) = more (hiW (cS f q at_) (q at_)) + d2 + (M - G.l.length) := by omega
  rw [ee] at m1
  omega
end Go.Proofs.Ytnanbnaikmaljaa
