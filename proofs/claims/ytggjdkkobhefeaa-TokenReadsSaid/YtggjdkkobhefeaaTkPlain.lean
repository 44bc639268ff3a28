/- Tokens in plain words: which may be, what they make; a row of tokens in memory. -/
import Derived.Test.YtggjdkkobhefeaaSq2
import Derived.Test.YtggjdkkobhefeaaBytes2
import Derived.Test.YtggjdkkobhefeaaFrame
import Derived.Test.YtggjdkkobhefeaaBits2
namespace Go.Proofs.Ytggjdkkobhefeaa
open Go.RowKit Go.Deep

/-- A value, and nothing that was there has changed. -/
def Tells (v : Value) (w : World) (e : Ending) (w' : World) : Prop := e = .returned v ∧ Keeps None w w'
def mayT (t : Tok) (made : Int) : Bool := if t.n = 0 then decide (t.d = 0) else decide (t.b = 0) && decide (2 ≤ t.n) && decide (t.n ≤ 257) && decide (1 ≤ t.d) && decide (t.d ≤ min 4096 made)
def longT (t : Tok) : Int := if t.n = 0 then 1 else t.n
def rightB : List Tok → Int → Bool
  | [], _ => true
  | t :: ts, made => mayT t made && decide (longT t ≤ 8192 - made) && rightB ts (made + longT t)
def madeT : List Tok → Int → Int
  | [], m => m
  | t :: ts, m => madeT ts (m + longT t)
/-- k bytes more, each from d back. -/
def copyT (d : Nat) : Nat → List Int → List Int
  | 0, out => out
  | k + 1, out => copyT d k (out ++ [out.getD (out.length - d) 0])
def stepT (t : Tok) (out : List Int) : List Int := if t.n = 0 then out ++ [t.b] else copyT t.d.toNat t.n.toNat out
def plainT : List Tok → List Int → List Int
  | [], out => out
  | t :: ts, out => plainT ts (stepT t out)
def plainL (ts : List Tok) : List Int := if rightB ts 0 = true then plainT ts [] else []

theorem mayT_lit {t : Tok} {made : Int} (h : mayT t made = true) (h0 : t.n = 0) : t.d = 0 := by
  unfold mayT at h; rw [if_pos h0] at h; exact of_decide_eq_true h
theorem mayT_copy {t : Tok} {made : Int} (h : mayT t made = true) (h0 : t.n ≠ 0) : t.b = 0 ∧ 2 ≤ t.n ∧ t.n ≤ 257 ∧ 1 ≤ t.d ∧ t.d ≤ 4096 ∧ t.d ≤ made := by
  unfold mayT at h; rw [if_neg h0] at h
  simp only [Bool.and_eq_true, decide_eq_true_eq] at h
  omega
theorem longT_pos {t : Tok} {made : Int} (h : mayT t made = true) : 1 ≤ longT t ∧ longT t ≤ 257 := by
  unfold longT
  by_cases h0 : t.n = 0
  · rw [if_pos h0]; omega
  · rw [if_neg h0]; have := mayT_copy h h0; omega
theorem copyT_len (d : Nat) : ∀ (k : Nat) (out : List Int), (copyT d k out).length = out.length + k
  | 0, out => rfl
  | k + 1, out => by unfold copyT; rw [copyT_len d k, List.length_append, List.length_singleton]; omega
theorem copyT_byte (d : Nat) : ∀ (k : Nat) (out : List Int), (∀ z ∈ out, 0 ≤ z ∧ z ≤ 255) → ∀ z ∈ copyT d k out, 0 ≤ z ∧ z ≤ 255
  | 0, out, h => h
  | k + 1, out, h => by
    unfold copyT
    refine copyT_byte d k _ fun z hz => ?_
    rcases List.mem_append.1 hz with hz | hz
    · exact h z hz
    · rw [List.mem_singleton.1 hz]; exact byte_getD h _
theorem copyT_succ (d : Nat) : ∀ (k : Nat) (out : List Int), copyT d (k + 1) out = copyT d k out ++ [(copyT d k out).getD ((copyT d k out).length - d) 0]
  | 0, out => rfl
  | k + 1, out => by
    exact copyT_succ d k (out ++ [out.getD (out.length - d) 0])
theorem stepT_len {t : Tok} {made : Int} (h : mayT t made = true) (out : List Int) : ((stepT t out).length : Int) = out.length + longT t := by
  unfold stepT longT
  by_cases h0 : t.n = 0
  · rw [if_pos h0, if_pos h0]; simp
  · rw [if_neg h0, if_neg h0, copyT_len]
    have := mayT_copy h h0
    omega
theorem rightB_cons {t : Tok} {ts : List Tok} {m : Int} (h : rightB (t :: ts) m = true) : mayT t m = true ∧ longT t ≤ 8192 - m ∧ rightB ts (m + longT t) = true := by
  unfold rightB at h
  simp only [Bool.and_eq_true, decide_eq_true_eq] at h
  exact ⟨h.1.1, h.1.2, h.2⟩
theorem plainT_len : ∀ (ts : List Tok) (out : List Int) (m : Int), rightB ts m = true → (out.length : Int) = m → ((plainT ts out).length : Int) = madeT ts m
  | [], out, m, _, hm => hm
  | t :: ts, out, m, h, hm => by
    obtain ⟨h1, h2, h3⟩ := rightB_cons h
    exact plainT_len ts (stepT t out) (m + longT t) h3 (by rw [stepT_len h1, hm])
theorem madeT_le : ∀ (ts : List Tok) (m : Int), rightB ts m = true → m ≤ 8192 → m ≤ madeT ts m ∧ madeT ts m ≤ 8192
  | [], m, _, hm => ⟨Int.le_refl _, hm⟩
  | t :: ts, m, h, hm => by
    obtain ⟨h1, h2, h3⟩ := rightB_cons h
    have hp := longT_pos h1
    have := madeT_le ts (m + longT t) h3 (by omega)
    exact ⟨by show m ≤ madeT ts (m + longT t); omega, this.2⟩
theorem rightB_append : ∀ (a b : List Tok) (m : Int), rightB (a ++ b) m = (rightB a m && rightB b (madeT a m))
  | [], b, m => by simp [rightB, madeT]
  | t :: a, b, m => by
    show (mayT t m && decide (longT t ≤ 8192 - m) && rightB (a ++ b) (m + longT t)) = (mayT t m && decide (longT t ≤ 8192 - m) && rightB a (m + longT t) && rightB b (madeT a (m + longT t)))
    rw [rightB_append a b]; simp only [Bool.and_assoc]
theorem plainT_append : ∀ (a b : List Tok) (out : List Int), plainT (a ++ b) out = plainT b (plainT a out)
  | [], _, _ => rfl
  | t :: a, b, out => plainT_append a b (stepT t out)
theorem madeT_append : ∀ (a b : List Tok) (m : Int), madeT (a ++ b) m = madeT b (madeT a m)
  | [], _, _ => rfl
  | t :: a, b, m => madeT_append a b (m + longT t)

/-- A token's fields are what their types let be. -/
structure TokWf (t : Tok) : Prop where
  n0 : -9223372036854775808 ≤ t.n
  n1 : t.n ≤ 9223372036854775807
  d0 : -9223372036854775808 ≤ t.d
  d1 : t.d ≤ 9223372036854775807
  b0 : 0 ≤ t.b
  b1 : t.b ≤ 255
/-- A slice that reads as these tokens. -/
structure Ts (w : World) (A : Option Addr) (n cap : Nat) (ts : List Tok) : Prop where
  len : ts.length = n
  le : n ≤ cap
  max : cap ≤ 9223372036854775807
  nil : A = none → n = 0 ∧ cap = 0
  wf : ∀ t ∈ ts, TokWf t
  at_ : 0 < n → ∃ b off, A = some ⟨b, off, none⟩ ∧ b < w.heap.size ∧ ∀ i t, ts[i]? = some t → w.cell? ⟨b, off + i * 3, none⟩ = some (.int .i64 t.n) ∧ w.cell? ⟨b, off + i * 3 + 1, none⟩ = some (.int .i64 t.d) ∧ w.cell? ⟨b, off + i * 3 + 2, none⟩ = some (.int .u8 t.b)
theorem Ts.keeps {w w' : World} {A : Option Addr} {n cap : Nat} {ts : List Tok} {S : Nat → Prop} (h : Ts w A n cap ts) (hk : Keeps S w w') (hS : ∀ b off, 0 < n → b < w.heap.size → A = some ⟨b, off, none⟩ → ¬ S b) : Ts w' A n cap ts :=
  ⟨h.len, h.le, h.max, h.nil, h.wf, fun hn => by
    obtain ⟨b, off, e, hb, hc⟩ := h.at_ hn
    have hq := hS b off hn hb e
    exact ⟨b, off, e, Nat.lt_of_lt_of_le hb hk.size, fun i t ht => by
      obtain ⟨c1, c2, c3⟩ := hc i t ht
      exact ⟨(hk.cell (p := ⟨b, off + i * 3, none⟩) hb hq).trans c1, (hk.cell (p := ⟨b, off + i * 3 + 1, none⟩) hb hq).trans c2, (hk.cell (p := ⟨b, off + i * 3 + 2, none⟩) hb hq).trans c3⟩⟩⟩
theorem Ts.later {w w' : World} {A : Option Addr} {n cap : Nat} {ts : List Tok} (h : Ts w A n cap ts) (hk : Keeps None w w') : Ts w' A n cap ts := h.keeps hk (fun _ _ _ _ _ h => h)
theorem Ts.drew {w : World} {A : Option Addr} {n cap : Nat} {ts : List Tok} (h : Ts w A n cap ts) : Ts w.drew A n cap ts := ⟨h.len, h.le, h.max, h.nil, h.wf, h.at_⟩
/-- One token of it. -/
theorem Ts.get {w : World} {A : Option Addr} {n cap : Nat} {ts : List Tok} (h : Ts w A n cap ts) {i : Nat} (hi : i < n) :
    ∃ b off t, A = some ⟨b, off, none⟩ ∧ ts[i]? = some t ∧ ts.drop i = t :: ts.drop (i + 1) ∧ TokWf t ∧ w.cell? ⟨b, off + i * 3, none⟩ = some (.int .i64 t.n) ∧ w.cell? ⟨b, off + i * 3 + 1, none⟩ = some (.int .i64 t.d) ∧ w.cell? ⟨b, off + i * 3 + 2, none⟩ = some (.int .u8 t.b) := by
  have hl := h.len
  obtain ⟨b, off, e, hb, hc⟩ := h.at_ (by omega)
  have ht : ts[i]? = some ts[i] := List.getElem?_eq_getElem (by omega)
  obtain ⟨c1, c2, c3⟩ := hc i _ ht
  exact ⟨b, off, ts[i], e, ht, List.drop_eq_getElem_cons (by omega), h.wf _ (List.getElem_mem _), c1, c2, c3⟩
/-- A row of the call's own, read. -/
theorem OwnT.shape {w : World} {B : Nat} {v : Value} {ts : List Tok} (h : OwnT w B v ts) (hw : ∀ t ∈ ts, TokWf t) : ∃ A cap, v = .slice A ts.length cap ∧ Ts w A ts.length cap ts ∧ (∀ b off, A = some ⟨b, off, none⟩ → B ≤ b ∧ b < w.heap.size ∧ off = 0) := by
  rcases h.2 with ⟨rfl, h0⟩ | ⟨g, cap, cur, rfl, hb, hg, hn, hm, hs, ht⟩
  · refine ⟨none, 0, by rw [h0], ⟨rfl, by omega, by omega, fun _ => ⟨h0, rfl⟩, hw, fun hn => by omega⟩, fun _ _ e => by cases e⟩
  · have hlt := (Array.getElem?_eq_some_iff.1 hg).1
    have cell : ∀ i j t v, ts[i]? = some t → j < 3 → (tcell t)[j]? = some v → w.cell? ⟨g, 0 + i * 3 + j, none⟩ = some v := fun i j t v h1 h2 h3 => by
      have := h.cells (g := g) rfl (i * 3 + j) v (by rw [tcells_get ts i t h1 j h2]; exact h3)
      have e2 : (⟨g, 0, none⟩ : Addr).add (i * 3 + j) = ⟨g, 0 + i * 3 + j, none⟩ := by rw [add_none, ← Nat.add_assoc]
      rwa [e2] at this
    exact ⟨some ⟨g, 0, none⟩, cap, rfl, ⟨rfl, hn, by unfold maxLen at hm; omega, (fun e => by cases e), hw, fun _ => ⟨g, 0, rfl, hlt, fun i t ht => ⟨cell i 0 t _ ht (by decide) rfl, cell i 1 t _ ht (by decide) rfl, cell i 2 t _ ht (by decide) rfl⟩⟩⟩, fun b off e => by cases e; exact ⟨hb, hlt, rfl⟩⟩
theorem OwnT.lower {w : World} {B B' : Nat} {v : Value} {ts : List Tok} (h : OwnT w B v ts) (hB : B' ≤ B) : OwnT w B' v ts := by
  refine ⟨h.1, ?_⟩
  rcases h.2 with hn | ⟨g, cap, cur, e, hb, rest⟩
  · exact .inl hn
  · exact .inr ⟨g, cap, cur, e, Nat.le_trans hB hb, rest⟩
theorem OwnT.drew {w : World} {B : Nat} {v : Value} {ts : List Tok} (h : OwnT w B v ts) : OwnT w.drew B v ts := h
theorem OwnT.notBelow {w : World} {B : Nat} {v : Value} {ts : List Tok} (h : OwnT w B v ts) {i : Nat} (hi : i < B) : ¬ v.ownBlock = some i := fun e => by have := (h.block e).1; omega
end Go.Proofs.Ytggjdkkobhefeaa
