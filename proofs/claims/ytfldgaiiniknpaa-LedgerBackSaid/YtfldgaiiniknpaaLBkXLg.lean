
/- The ledger in plain words: commits, checkpoints, states. -/
import Derived.Test.YtfldgaiiniknpaaLBkb
import Derived.Test.YtfldgaiiniknpaaLBkXJp
namespace Go.Proofs.Ytfldgaiiniknpaa
open Go.RowKit

structure Com where
  slot : Int
  ver : Nat
  fl : Nat
  len : Int
  me : List Int
structure Chk where
  slot : Int
  block : Int
  off : Int
  dn : Int
  id : List Int
  mid : List Int
structure St where
  c : Com
  has : Bool
  k : Chk
def com0 : Com := ⟨0, 0, 0, 0, List.replicate 64 0⟩
def chk0 : Chk := ⟨0, 0, 0, 0, List.replicate 8 0, []⟩
def st0 : St := ⟨⟨-1, 0, 0, 0, List.replicate 64 0⟩, false, chk0⟩
def Com.may (c : Com) : Prop := 0 ≤ c.slot ∧ c.slot ≤ 1 ∧ 0 ≤ c.len ∧ c.len ≤ 2147483647
instance (c : Com) : Decidable c.may := inferInstanceAs (Decidable (_ ∧ _ ∧ _ ∧ _))
def comL (c : Com) : List Int := if c.may then lowL 8 c.slot.toNat ++ (lowL 8 c.ver ++ (lowL 8 c.fl ++ (lowL 8 c.len.toNat ++ c.me))) else []
def part8 (b : List Int) (i : Nat) : Nat := numN ((b.drop i).take 8)
def smallN (n : Nat) : Int := if n ≤ 2147483647 then n else -1
def comP (b : List Int) : Com := ⟨b.getD 0 0, part8 b 8, part8 b 16, smallN (part8 b 24), b.drop 32⟩
def getCom (b : List Int) : Com × Bool := if b.length = 96 ∧ comL (comP b) = b then (comP b, true) else (com0, false)
/-- Bytes' number, the highest first. -/
def bigN (zs : List Int) : Nat := zs.foldl (fun x z => x * 256 + z.toNat) 0
def midN (m : List Int) : Nat := bigN ((m.drop 64).take 8)
def midOk (m : List Int) : Bool := decide (m.length = 200) && (decide (midN m ≤ 1152921504606846976) && (m.drop (72 + midN m % 128)).all (· == 0))
def Chk.may (c : Chk) : Prop := (0 ≤ c.slot ∧ c.slot ≤ 1 ∧ 0 ≤ c.block ∧ c.block ≤ 16) ∧ (0 ≤ c.off ∧ c.off ≤ 2147483647 ∧ 0 ≤ c.dn ∧ c.dn ≤ 2147483647) ∧ midOk c.mid = true
instance (c : Chk) : Decidable c.may := inferInstanceAs (Decidable ((_ ∧ _ ∧ _ ∧ _) ∧ (_ ∧ _ ∧ _ ∧ _) ∧ _))
def chkL (c : Chk) : List Int := if c.may then lowL 8 (c.slot.toNat + 256 * c.block.toNat) ++ (lowL 8 c.off.toNat ++ (lowL 8 c.dn.toNat ++ (c.id ++ c.mid))) else []
def chkP (b : List Int) : Chk := ⟨b.getD 0 0, b.getD 1 0, smallN (part8 b 8), smallN (part8 b 16), (b.drop 24).take 8, b.drop 32⟩
def getChk (b : List Int) : Chk × Bool := if b.length = 232 ∧ chkL (chkP b) = b then (chkP b, true) else (chk0, false)
def stepS (s : St) (r : Rec) : St :=
  if r.k = 2 then (if (getCom r.b).2 = true then ⟨{ (getCom r.b).1 with fl := max (getCom r.b).1.fl s.c.fl }, false, chk0⟩ else s)
  else if r.k = 3 then (if (getChk r.b).2 = true then { s with has := true, k := (getChk r.b).1 } else s)
  else if r.k = 4 then { s with has := false, k := chk0 } else s
def foldS (l : List Rec) : St := l.foldl stepS st0
def recsS (s : St) : List Rec :=
  (if 0 < (comL s.c).length then [⟨2, 0, comL s.c⟩] else []) ++ (if s.has = true ∧ 0 < (chkL s.k).length then [⟨3, 0, chkL s.k⟩] else [])

/-- What a value of the type may be. -/
structure Com.ok (c : Com) : Prop where
  v : c.ver < 18446744073709551616
  f : c.fl < 18446744073709551616
  ml : c.me.length = 64
  mb : Byt c.me
structure Chk.ok (c : Chk) : Prop where
  il : c.id.length = 8
  ib : Byt c.id
  mb : Byt c.mid
theorem comL_len {c : Com} (h : c.may) : (comL c).length = 32 + c.me.length := by
  unfold comL
  rw [if_pos h]
  simp only [List.length_append, lowL_len]
  omega
theorem drop_app {α : Type} {x y : List α} {n : Nat} (k : Nat) (h : x.length = k) (hn : k ≤ n) : (x ++ y).drop n = y.drop (n - k) := by
  rw [List.drop_append, List.drop_eq_nil_of_le (by omega), List.nil_append, h]
theorem take_app {α : Type} {x y : List α} {n : Nat} (h : x.length = n) : (x ++ y).take n = x := List.take_left' h
theorem lowL_head (n : Nat) (y : List Int) : (lowL 8 n ++ y).getD 0 0 = ((n % 256 : Nat) : Int) := by rfl
theorem lowL_next (n : Nat) (y : List Int) : (lowL 8 n ++ y).getD 1 0 = ((n / 256 % 256 : Nat) : Int) := by rfl
theorem pow8 : (256 : Nat) ^ 8 = 18446744073709551616 := by decide
theorem smallN_len {n : Int} (h : 0 ≤ n ∧ n ≤ 2147483647) : smallN n.toNat = n := by unfold smallN; rw [if_pos (by omega)]; omega
theorem comP_comL {c : Com} (h : c.may) (o : c.ok) : comP (comL c) = c := by
  obtain ⟨h1, h2, h3, h4⟩ := h
  have e : comL c = lowL 8 c.slot.toNat ++ (lowL 8 c.ver ++ (lowL 8 c.fl ++ (lowL 8 c.len.toNat ++ c.me))) := if_pos ⟨h1, h2, h3, h4⟩
  have ll : ∀ n, (lowL 8 n).length = 8 := lowL_len 8
  have o1 := o.v
  have o2 := o.f
  obtain ⟨b, hb⟩ : ∃ b, comL c = b := ⟨_, rfl⟩
  have d8 : b.drop 8 = lowL 8 c.ver ++ (lowL 8 c.fl ++ (lowL 8 c.len.toNat ++ c.me)) := by rw [← hb, e]; exact drop_app 8 (ll _) (by decide)
  have d16 : b.drop 16 = lowL 8 c.fl ++ (lowL 8 c.len.toNat ++ c.me) := by rw [show 16 = 8 + 8 from rfl, ← List.drop_drop, d8]; exact drop_app 8 (ll _) (by decide)
  have d24 : b.drop 24 = lowL 8 c.len.toNat ++ c.me := by rw [show 24 = 16 + 8 from rfl, ← List.drop_drop, d16]; exact drop_app 8 (ll _) (by decide)
  have d32 : b.drop 32 = c.me := by rw [show 32 = 24 + 8 from rfl, ← List.drop_drop, d24]; exact drop_app 8 (ll _) (by decide)
  have g0 : b.getD 0 0 = c.slot := by rw [← hb, e, lowL_head]; omega
  unfold comP part8
  rw [hb, g0, d8, d16, d24, d32, take_app (ll _), take_app (ll _), take_app (ll _), numN_low 8 _ (by rw [pow8]; exact o1), numN_low 8 _ (by rw [pow8]; exact o2), numN_low 8 _ (by rw [pow8]; omega), smallN_len ⟨h3, h4⟩]
theorem getCom_comL {c : Com} (h : c.may) (o : c.ok) : getCom (comL c) = (c, true) := by
  unfold getCom
  rw [comP_comL h o, if_pos ⟨by rw [comL_len h, o.ml], rfl⟩]
theorem part8_lt {b : List Int} (hb : Byt b) (i : Nat) : part8 b i < 18446744073709551616 := by
  have h1 := numN_lt ((b.drop i).take 8) (fun z hz => hb z (List.mem_of_mem_drop (List.mem_of_mem_take hz)))
  have h2 : ((b.drop i).take 8).length ≤ 8 := List.length_take_le _ _
  have h3 : (256 : Nat) ^ ((b.drop i).take 8).length ≤ 256 ^ 8 := Nat.pow_le_pow_right (by decide) h2
  rw [pow8] at h3
  unfold part8
  omega
theorem comP_ok {b : List Int} (hb : Byt b) (hl : b.length = 96) : (comP b).ok :=
  ⟨part8_lt hb 8, part8_lt hb 16, by show (b.drop 32).length = 64; rw [List.length_drop, hl], fun z hz => hb z (List.mem_of_mem_drop hz)⟩
theorem getCom_ok {b : List Int} (hb : Byt b) (h : (getCom b).2 = true) : (getCom b).1.may ∧ (getCom b).1.ok ∧ comL (getCom b).1 = b ∧ getCom b = (comP b, true) := by
  unfold getCom at h ⊢
  split at h
  · rename_i h1
    rw [if_pos h1]
    refine ⟨?_, comP_ok hb h1.1, h1.2, rfl⟩
    have h2 := h1.2
    unfold comL at h2
    split at h2
    · assumption
    · rw [← h2] at h1; cases h1.1
  · cases h
theorem com0_ok : com0.ok := ⟨by decide, by decide, by decide, by intro z hz; rw [List.eq_of_mem_replicate hz]; decide⟩
theorem chk0_ok : chk0.ok := ⟨by decide, by intro z hz; rw [List.eq_of_mem_replicate hz]; decide, fun z hz => by cases hz⟩
theorem midOk_len {m : List Int} (h : midOk m = true) : m.length = 200 := by
  unfold midOk at h
  simp only [Bool.and_eq_true, decide_eq_true_eq] at h
  exact h.1
theorem chkL_len {c : Chk} (h : c.may) (o : c.ok) : (chkL c).length = 232 := by
  unfold chkL
  rw [if_pos h]
  simp only [List.length_append, lowL_len, o.il, midOk_len h.2.2]
theorem chkP_chkL {c : Chk} (h : c.may) (o : c.ok) : chkP (chkL c) = c := by
  obtain ⟨⟨h1, h2, h3, h4⟩, ⟨h5, h6, h7, h8⟩, h9⟩ := id h
  have e : chkL c = lowL 8 (c.slot.toNat + 256 * c.block.toNat) ++ (lowL 8 c.off.toNat ++ (lowL 8 c.dn.toNat ++ (c.id ++ c.mid))) := if_pos h
  have ll : ∀ n, (lowL 8 n).length = 8 := lowL_len 8
  obtain ⟨b, hb⟩ : ∃ b, chkL c = b := ⟨_, rfl⟩
  have d8 : b.drop 8 = lowL 8 c.off.toNat ++ (lowL 8 c.dn.toNat ++ (c.id ++ c.mid)) := by rw [← hb, e]; exact drop_app 8 (ll _) (by decide)
  have d16 : b.drop 16 = lowL 8 c.dn.toNat ++ (c.id ++ c.mid) := by rw [show 16 = 8 + 8 from rfl, ← List.drop_drop, d8]; exact drop_app 8 (ll _) (by decide)
  have d24 : b.drop 24 = c.id ++ c.mid := by rw [show 24 = 16 + 8 from rfl, ← List.drop_drop, d16]; exact drop_app 8 (ll _) (by decide)
  have d32 : b.drop 32 = c.mid := by rw [show 32 = 24 + 8 from rfl, ← List.drop_drop, d24]; exact drop_app 8 o.il (by decide)
  have g0 : b.getD 0 0 = c.slot := by rw [← hb, e, lowL_head]; omega
  have g1 : b.getD 1 0 = c.block := by rw [← hb, e, lowL_next]; omega
  unfold chkP part8
  rw [hb, g0, g1, d8, d16, d24, d32, take_app (ll _), take_app (ll _), take_app o.il, numN_low 8 _ (by rw [pow8]; omega), numN_low 8 _ (by rw [pow8]; omega), smallN_len ⟨h5, h6⟩, smallN_len ⟨h7, h8⟩]
theorem getChk_chkL {c : Chk} (h : c.may) (o : c.ok) : getChk (chkL c) = (c, true) := by
  unfold getChk
  rw [chkP_chkL h o, if_pos ⟨chkL_len h o, rfl⟩]
theorem chkP_ok {b : List Int} (hb : Byt b) (hl : b.length = 232) : (chkP b).ok :=
  ⟨by show ((b.drop 24).take 8).length = 8; rw [List.length_take, List.length_drop, hl]; rfl, fun z hz => hb z (List.mem_of_mem_drop (List.mem_of_mem_take hz)), fun z hz => hb z (List.mem_of_mem_drop hz)⟩
theorem getChk_ok {b : List Int} (hb : Byt b) (h : (getChk b).2 = true) : (getChk b).1.may ∧ (getChk b).1.ok ∧ chkL (getChk b).1 = b ∧ getChk b = (chkP b, true) := by
  unfold getChk at h ⊢
  split at h
  · rename_i h1
    rw [if_pos h1]
    refine ⟨?_, chkP_ok hb h1.1, h1.2, rfl⟩
    have h2 := h1.2
    unfold chkL at h2
    split at h2
    · assumption
    · rw [← h2] at h1; cases h1.1
  · cases h
/-- What a folded state is. -/
structure St.inv (s : St) : Prop where
  c : s.c = st0.c ∨ s.c.may ∧ s.c.ok
  k : s.has = true → s.k.may ∧ s.k.ok
  n : s.has = false → s.k = chk0
theorem st0_inv : st0.inv := ⟨.inl rfl, (fun h => by cases h), fun _ => rfl⟩
theorem St.inv.co {s : St} (h : s.inv) : s.c.ok := h.c.elim (fun e => by rw [e]; exact ⟨by decide, by decide, by decide, com0_ok.mb⟩) (·.2)
theorem St.inv.ko {s : St} (h : s.inv) : s.k.ok := by
  cases e : s.has with
  | true => exact (h.k e).2
  | false => rw [h.n e]; exact chk0_ok
theorem stepS_inv {s : St} {r : Rec} (h : s.inv) (hb : Byt r.b) : (stepS s r).inv := by
  unfold stepS
  split
  · split
    · rename_i h2
      obtain ⟨a1, a2, -, -⟩ := getCom_ok hb h2
      have := h.co.f
      refine ⟨.inr ⟨a1, ⟨a2.v, ?_, a2.ml, a2.mb⟩⟩, (fun e => by cases e), fun _ => rfl⟩
      have := a2.f
      show max _ _ < _
      omega
    · exact h
  · split
    · split
      · rename_i h2
        obtain ⟨a1, a2, -, -⟩ := getChk_ok hb h2
        exact ⟨h.c, fun _ => ⟨a1, a2⟩, fun e => by cases e⟩
      · exact h
    · split
      · exact ⟨h.c, (fun e => by cases e), fun _ => rfl⟩
      · exact h
theorem foldl_inv : ∀ (l : List Rec) {s : St}, s.inv → (∀ r ∈ l, Byt r.b) → (l.foldl stepS s).inv
  | [], _, h, _ => h
  | r :: l, _, h, hb => foldl_inv l (stepS_inv h (hb r List.mem_cons_self)) (fun x hx => hb x (List.mem_cons_of_mem _ hx))
theorem foldS_inv {l : List Rec} (hb : ∀ r ∈ l, Byt r.b) : (foldS l).inv := foldl_inv l st0_inv hb
theorem foldS_append (l m : List Rec) : foldS (l ++ m) = m.foldl stepS (foldS l) := List.foldl_append
theorem comL_pos {c : Com} : 0 < (comL c).length ↔ c.may := by
  constructor
  · intro h
    unfold comL at h
    split at h
    · assumption
    · cases h
  · intro h
    rw [comL_len h]
    omega
theorem chkL_pos {c : Chk} : 0 < (chkL c).length ↔ c.may := by
  constructor
  · intro h
    unfold chkL at h
    split at h
    · assumption
    · cases h
  · intro h
    unfold chkL
    rw [if_pos h, List.length_append, lowL_len]
    omega
theorem recsS_len (s : St) : (recsS s).length ≤ 2 := by
  unfold recsS
  rw [List.length_append]
  split <;> split <;> simp
/-- The records of a folded state say it. -/
theorem fold_recs {s : St} (h : s.inv) : foldS (recsS s) = s := by
  have h2 : ∀ (t : St), t.c = s.c → t.has = false → t.k = chk0 → (if s.has = true ∧ 0 < (chkL s.k).length then [⟨3, 0, chkL s.k⟩] else ([] : List Rec)).foldl stepS t = s := by
    intro t t1 t2 t3
    cases e : s.has with
    | true =>
      obtain ⟨a1, a2⟩ := h.k e
      rw [if_pos ⟨rfl, chkL_pos.2 a1⟩]
      rw [List.foldl_cons, List.foldl_nil]
      have hg := getChk_chkL a1 a2
      unfold stepS
      simp only [show ¬ ((3 : Int) = 2) by decide, if_false, if_true, hg]
      cases t; cases s; simp_all
    | false =>
      rw [if_neg (by simp)]
      have := h.n e
      cases t; cases s; simp_all
  rw [recsS, foldS, List.foldl_append]
  apply h2
  · rcases h.c with e | ⟨a1, a2⟩
    · rw [if_neg (by rw [comL_pos, e]; intro hm; exact absurd hm.1 (by decide)), e]; rfl
    · rw [if_pos (comL_pos.2 a1)]
      have hg := getCom_comL a1 a2
      rw [List.foldl_cons, List.foldl_nil]
      unfold stepS
      simp only [if_true, hg, show st0.c.fl = 0 from rfl, Nat.max_zero]
  · split
    · rename_i h1
      rw [List.foldl_cons, List.foldl_nil]
      unfold stepS
      simp only [if_true]
      split <;> rfl
    · rfl
  · split
    · rw [List.foldl_cons, List.foldl_nil]
      unfold stepS
      simp only [if_true]
      split <;> rfl
    · rfl
theorem stepS_floor (s : St) (r : Rec) : s.c.fl ≤ (stepS s r).c.fl := by
  unfold stepS
  split
  · split
    · exact Nat.le_max_right _ _
    · exact Nat.le_refl _
  · split
    · split <;> exact Nat.le_refl _
    · split <;> exact Nat.le_refl _
theorem stepS_slot {s : St} {r : Rec} (hb : Byt r.b) (h : 0 ≤ s.c.slot) : 0 ≤ (stepS s r).c.slot := by
  unfold stepS
  split
  · split
    · rename_i h2; exact (getCom_ok hb h2).1.1
    · exact h
  · split
    · split <;> exact h
    · split <;> exact h
theorem foldl_floor : ∀ (l : List Rec) (s : St), s.c.fl ≤ (l.foldl stepS s).c.fl
  | [], _ => Nat.le_refl _
  | r :: l, s => Nat.le_trans (stepS_floor s r) (foldl_floor l (stepS s r))
theorem foldl_slot : ∀ (l : List Rec) {s : St}, (∀ r ∈ l, Byt r.b) → 0 ≤ s.c.slot → 0 ≤ (l.foldl stepS s).c.slot
  | [], _, _, h => h
  | r :: l, _, hb, h => foldl_slot l (fun x hx => hb x (List.mem_cons_of_mem _ hx)) (stepS_slot (hb r List.mem_cons_self) h)
/-- A commit behind a state. -/
theorem stepS_com {s : St} {c : Com} (h : c.may) (o : c.ok) (q : Int) : stepS s ⟨2, q, comL c⟩ = ⟨{ c with fl := max c.fl s.c.fl }, false, chk0⟩ := by
  unfold stepS
  simp only [if_true, getCom_comL h o]
end Go.Proofs.Ytfldgaiiniknpaa
