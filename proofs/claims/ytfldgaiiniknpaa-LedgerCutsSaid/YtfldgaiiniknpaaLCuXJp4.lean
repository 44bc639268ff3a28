
/- The plain law of a journal: what it holds; opened, compacted, with power and without. -/
import Derived.Test.YtfldgaiiniknpaaLCuXJp3
namespace Go.Proofs.Ytfldgaiiniknpaa
open Go.RowKit

def pkL : List Rec → List Int
  | [] => []
  | r :: rs => r.put ++ pkL rs
theorem pkL_append : ∀ (xs ys : List Rec), pkL (xs ++ ys) = pkL xs ++ pkL ys
  | [], _ => rfl
  | x :: xs, ys => by simp only [List.cons_append, pkL, pkL_append xs ys, List.append_assoc]
/-- A record that may stand in a sector behind its first. -/
structure GR (r : Rec) : Prop where
  k1 : r.k ≠ 1
  fits : fitsR r.k r.s r.b.length
  byt : Byt r.b
theorem GR.len {r : Rec} (h : GR r) : (r.put.length : Int) = sizeZ r.b.length := putL_len _ _ _ h.fits
theorem GR.ge {r : Rec} (h : GR r) : 16 ≤ r.put.length ∧ r.put.length % 8 = 0 := by
  have h1 := h.len
  have h5 := h.fits.2.2.2.2
  have e : sizeZ r.b.length = 16 + ((r.b.length : Int) + 7) / 8 * 8 := if_neg (by omega)
  omega
theorem putL_byt {k s : Int} {b : List Int} (hb : Byt b) : Byt (putL k s b) := by
  unfold putL
  split
  · rename_i hf
    obtain ⟨f1, f2, f3, f4, f5⟩ := hf
    have hF : Byt (frontL k s b) := by
      intro z hz
      unfold frontL at hz
      rcases List.mem_append.1 hz with hz | hz
      · rcases List.mem_append.1 hz with hz | hz
        · rcases List.mem_append.1 hz with hz | hz
          · simp only [headL, List.mem_cons, List.not_mem_nil, or_false] at hz
            rcases hz with rfl | rfl | rfl | rfl <;> omega
          · exact le4_byte _ (by omega) z hz
        · exact hb z hz
      · rw [List.eq_of_mem_replicate hz]; decide
    intro z hz
    rcases List.mem_append.1 hz with hz | hz
    · exact hF z hz
    · have h1 : sumOf (frontL k s b) < 4294967296 := crcOf_lt (natL_lt hF)
      have h2 : sumOf (frontL k s b) ^^^ 4294967295 < 2 ^ 32 := Nat.xor_lt_two_pow (by omega) (by decide)
      rcases List.mem_append.1 hz with hz | hz
      · exact le4_byte _ h1 z hz
      · exact le4_byte _ (by omega) z hz
  · intro z hz; cases hz
theorem pkL_byt : ∀ (rs : List Rec), (∀ r ∈ rs, GR r) → Byt (pkL rs)
  | [], _, z, hz => by cases hz
  | r :: rs, h, z, hz => by
    rcases List.mem_append.1 hz with hz | hz
    · exact putL_byt (h r List.mem_cons_self).byt z hz
    · exact pkL_byt rs (fun x hx => h x (List.mem_cons_of_mem _ hx)) z hz
theorem pkL_len : ∀ (rs : List Rec), (∀ r ∈ rs, GR r) → 16 * rs.length ≤ (pkL rs).length ∧ (pkL rs).length % 8 = 0
  | [], _ => ⟨Nat.le_refl _, rfl⟩
  | r :: rs, h => by
    have h1 := (h r List.mem_cons_self).ge
    have h2 := pkL_len rs (fun x hx => h x (List.mem_cons_of_mem _ hx))
    simp only [pkL, List.length_append, List.length_cons]
    omega
theorem parse_pack : ∀ (rs : List Rec) (f : Nat) (A T : List Int), rs.length < f → (∀ r ∈ rs, GR r) → getL T = none → parseF f (A ++ (pkL rs ++ T)) A.length = (rs, A.length + (pkL rs).length)
  | [], f, A, T, hf, _, hT => by
    obtain ⟨g, rfl⟩ : ∃ g, f = g + 1 := ⟨f - 1, by simp at hf; omega⟩
    unfold parseF
    rw [List.drop_left]
    simp only [pkL, List.nil_append, hT, List.length_nil, Nat.add_zero]
  | r :: rs, f, A, T, hf, h, hT => by
    obtain ⟨g, rfl⟩ : ∃ g, f = g + 1 := ⟨f - 1, by simp at hf; omega⟩
    have hr := h r List.mem_cons_self
    have hg : getL (r.put ++ (pkL rs ++ T)) = some (r.k, r.s, r.b, sizeZ r.b.length) := get_put r.k r.s r.b (pkL rs ++ T) hr.fits
    have hl := hr.len
    have ih := parse_pack rs g (A ++ r.put) T (by simp at hf; omega) (fun x hx => h x (List.mem_cons_of_mem _ hx)) hT
    have e1 : A ++ (pkL (r :: rs) ++ T) = A ++ (r.put ++ (pkL rs ++ T)) := by simp only [pkL, List.append_assoc]
    have e2 : (A ++ r.put) ++ (pkL rs ++ T) = A ++ (r.put ++ (pkL rs ++ T)) := List.append_assoc _ _ _
    rw [e1]
    unfold parseF
    rw [List.drop_left, hg]
    simp only
    rw [if_neg hr.k1]
    have e3 : A.length + (sizeZ r.b.length).toNat = (A ++ r.put).length := by rw [List.length_append]; omega
    rw [e3, ← e2, ih]
    simp only [pkL, List.length_append, Nat.add_assoc]
/-- A sector that counts: its epoch, its records, what is behind them. -/
structure SecH (zs : List Int) (e : Nat) (l : List Rec) (T : List Int) : Prop where
  eq : zs = epoB e ++ (pkL l ++ T)
  e1 : 1 ≤ e
  e2 : e ≤ 4294967295
  gr : ∀ r ∈ l, GR r
  tl : getL T = none
  len : zs.length = 1024
theorem SecH.ll {zs : List Int} {e : Nat} {l : List Rec} {T : List Int} (h : SecH zs e l T) : l.length ≤ 63 ∧ (pkL l).length + T.length = 1008 := by
  have h1 := congrArg List.length h.eq
  rw [h.len, List.length_append, List.length_append, epoB_len h.e2] at h1
  have h2 := pkL_len l h.gr
  omega
theorem SecH.t16 {zs : List Int} {e : Nat} {l : List Rec} {T : List Int} (h : SecH zs e l T) : zs.take 16 = epoB e := by rw [h.eq]; exact List.take_left' (epoB_len h.e2)
theorem SecH.parse {zs : List Int} {e : Nat} {l : List Rec} {T : List Int} (h : SecH zs e l T) : parseF 64 zs 16 = (l, 16 + (pkL l).length) ∧ zs.drop (16 + (pkL l).length) = T := by
  have hl := epoB_len h.e2
  have h1 := parse_pack l 64 (epoB e) T (by have := h.ll.1; omega) h.gr h.tl
  rw [← h.eq, hl] at h1
  refine ⟨h1, ?_⟩
  rw [h.eq, ← List.append_assoc]
  exact List.drop_left' (by rw [List.length_append, hl])
theorem getL_ff (n : Nat) : getL (List.replicate n 255) = none := by
  unfold getL
  by_cases h : n < 16
  · rw [if_pos (by rw [List.length_replicate]; exact h)]
  · rw [if_neg (by rw [List.length_replicate]; exact h)]
    have g : ∀ i, i < n → (List.replicate n (255 : Int)).getD i 0 = 255 := fun i hi => by simp [List.getD, hi]
    rw [g 2 (by omega), g 3 (by omega)]
    have : sizeZ (255 + 255 * 256) = 0 := by decide
    simp only [this, true_or, if_true]
theorem SecH.full {e : Nat} {l : List Rec} (h1 : 1 ≤ e) (h2 : e ≤ 4294967295) (hg : ∀ r ∈ l, GR r) (hl : (pkL l).length ≤ 1008) : SecH (fullS e (pkL l)) e l (List.replicate (1008 - (pkL l).length) 255) :=
  ⟨rfl, h1, h2, hg, getL_ff _, by unfold fullS; rw [List.length_append, List.length_append, epoB_len h2, List.length_replicate]; omega⟩
/-- What a flash's two sectors keep: the epoch, the sector that counts, the records, what is behind them. -/
def Keep (s : FS) (e : Nat) (c : Int) (l : List Rec) (T : List Int) : Prop :=
  (e = 0 ∧ c = -1 ∧ l = [] ∧ T = [] ∧ LowS 0 (secB s.b 0) ∧ LowS 0 (secB s.b 1)) ∨
  (∃ t : Nat, t < 2 ∧ c = (t : Int) ∧ SecH (secB s.b t) e l T ∧ LowS (e - 1) (secB s.b (1 - t)))
def keptJ (e : Nat) (c : Int) (l : List Rec) (T : List Int) : JS := if c = -1 then jnone e c else ⟨l, e, c, 16 + (pkL l).length, !blankB T, 0⟩
theorem sec_eq (s : FS) (k : Nat) : sec s k = secB s.b k := rfl
theorem Keep.open {s : FS} {n e : Nat} {c : Int} {l : List Rec} {T : List Int} (g : FG s n) (h : Keep s e c l T) : openS s = keptJ e c l T := by
  rcases h with ⟨rfl, rfl, rfl, rfl, h0, h1⟩ | ⟨t, ht, rfl, hs, ho⟩
  · have e0 : ¬ (((selF s 0).1 : Int) < epochF (sec s 0)) := by
      have := h0.self (g.byt.sec 0)
      show ¬ (((0 : Nat) : Int) < epochF (secB s.b 0))
      omega
    have s1 : selF s 1 = (0, -1) := if_neg e0
    have e1 : ¬ (((selF s 1).1 : Int) < epochF (sec s 1)) := by
      have := h1.self (g.byt.sec 1)
      rw [s1]
      show ¬ (((0 : Nat) : Int) < epochF (secB s.b 1))
      omega
    have s2 : selF s 2 = (0, -1) := (if_neg e1).trans s1
    unfold openS keptJ
    rw [s2, if_pos rfl, if_pos rfl]
  · have ep : epochF (sec s t) = e := epochF_epoB hs.e2 hs.t16
    have e1 := hs.e1
    have s2 : selF s 2 = (e, (t : Int)) := by
      obtain rfl | rfl : t = 0 ∨ t = 1 := by omega
      · have lo : epochF (secB s.b 1) ≤ ((e - 1 : Nat) : Int) := ho.self (g.byt.sec _)
        have q1 : ((selF s 0).1 : Int) < epochF (sec s 0) := by rw [ep]; show ((0 : Nat) : Int) < (e : Int); omega
        have s1 : selF s 1 = (e, 0) := (if_pos q1).trans (by rw [ep, Int.toNat_natCast]; rfl)
        have q2 : ¬ (((selF s 1).1 : Int) < epochF (sec s 1)) := by rw [s1]; show ¬ ((e : Int) < epochF (secB s.b 1)); omega
        exact (if_neg q2).trans s1
      · have lo : epochF (secB s.b 0) ≤ ((e - 1 : Nat) : Int) := ho.self (g.byt.sec _)
        have bd := epochF_bd (secB s.b 0)
        have s1 : ((selF s 1).1 : Int) < (e : Int) := by
          by_cases q : ((selF s 0).1 : Int) < epochF (sec s 0)
          · have e1 : selF s 1 = ((epochF (sec s 0)).toNat, 0) := if_pos q
            rw [e1]
            show (((epochF (secB s.b 0)).toNat : Nat) : Int) < _
            omega
          · have e1 : selF s 1 = (0, -1) := if_neg q
            rw [e1]
            show ((0 : Nat) : Int) < _
            omega
        have q2 : ((selF s 1).1 : Int) < epochF (sec s 1) := by rw [ep]; exact s1
        exact (if_pos q2).trans (by rw [ep, Int.toNat_natCast])
    obtain ⟨p1, p2⟩ := hs.parse
    unfold openS keptJ
    rw [s2]
    dsimp only
    rw [if_neg (by omega), if_neg (by omega), Int.toNat_natCast, sec_eq, p1]
    dsimp only
    rw [p2]
    rfl
theorem packF_some : ∀ (rs : List Rec) (out b : List Int), packF out rs = some b → b = out ++ pkL rs ∧ ∀ r ∈ rs, r.k ≠ 1 ∧ fitsR r.k r.s r.b.length
  | [], out, b, e => by
    simp only [packF, Option.some.injEq] at e
    exact ⟨by rw [← e]; simp [pkL], by simp⟩
  | r :: rs, out, b, e => by
    unfold packF at e
    split at e
    · cases e
    · rename_i h1
      obtain ⟨e1, e2⟩ := packF_some rs _ b e
      refine ⟨by rw [e1]; simp [pkL], fun x hx => ?_⟩
      rcases List.mem_cons.1 hx with rfl | hx
      · refine ⟨fun h => h1 (.inl h), Classical.byContradiction fun hf => h1 (.inr (.inl ?_))⟩
        show (putL x.k x.s x.b).length = 0
        unfold putL
        rw [if_neg hf]; rfl
      · exact e2 x hx
theorem FG.boot {s : FS} {n : Nat} (h : FG s n) : FG s.bootF n := ⟨h.bl, h.el, h.byt, (fun z hz => by cases hz), h.n2⟩
/-- What compacting comes to. -/
theorem Keep.lay {s : FS} {n e : Nat} {c : Int} {l m : List Rec} {T : List Int} (g : FG s n) (hd : s.dark = false) (h : Keep s e c l T) (he : e + 1 ≤ 4294967295) (hm : ∀ r ∈ m, GR r) (hml : (pkL m).length ≤ 1008) :
    FG (layF s (nextZ c) e (pkL m)).1 n ∧
    (((layF s (nextZ c) e (pkL m)).2 = 0 ∧ (layF s (nextZ c) e (pkL m)).1.dark = false ∧ Keep (layF s (nextZ c) e (pkL m)).1 (e + 1) (nextZ c) m (List.replicate (1008 - (pkL m).length) 255) ∧ (s.left < 0 ↔ (layF s (nextZ c) e (pkL m)).1.left < 0) ∧
        (layF s (nextZ c) e (pkL m)).1.er = (if blankB (secB s.b (nextZ c).toNat) = true then s.er else s.er.set (nextZ c).toNat (s.er.getD (nextZ c).toNat 0 + 1)) ∧ (∀ o, o < n → o ≠ (nextZ c).toNat → secB (layF s (nextZ c) e (pkL m)).1.b o = secB s.b o)) ∨
     ((layF s (nextZ c) e (pkL m)).2 = 5 ∧ 0 ≤ s.left ∧ (Keep (layF s (nextZ c) e (pkL m)).1.bootF e c l T ∨ Keep (layF s (nextZ c) e (pkL m)).1.bootF (e + 1) (nextZ c) m (List.replicate (1008 - (pkL m).length) 255)))) := by
  obtain ⟨t, ht, hnt⟩ : ∃ t : Nat, t < 2 ∧ nextZ c = t := by
    unfold nextZ
    split
    · exact ⟨1, by decide, rfl⟩
    · exact ⟨0, by decide, rfl⟩
  have h8 := (pkL_len m hm).2
  obtain ⟨B, out⟩ := lay_out g hd ht he (pkL_byt m hm) hml h8
  rw [hnt, Int.toNat_natCast]
  have htn : t < n := Nat.lt_of_lt_of_le ht g.n2
  have hon : 1 - t < n := by have := g.n2; omega
  have hne : 1 - t ≠ t := by omega
  have hoth := B.o (1 - t) hon hne
  -- what was there of the target, and of the other
  have LT : LowS (e - 1) (secB s.b t) ∧ LowS e (secB s.b (1 - t)) := by
    rcases h with ⟨rfl, rfl, rfl, rfl, h0, h1⟩ | ⟨t0, ht0, rfl, hs, ho⟩
    · have : t = 0 := by have : nextZ (-1) = 0 := by decide
                         omega
      subst this
      exact ⟨h0, h1⟩
    · have : t = 1 - t0 := by
        have e1 : nextZ (t0 : Int) = ((1 - t0 : Nat) : Int) := by
          unfold nextZ
          split <;> omega
        omega
      subst this
      rw [show 1 - (1 - t0) = t0 by omega]
      exact ⟨ho, LowS.whole hs.e2 hs.t16⟩
  have whole : secB (layF s t e (pkL m)).1.b t = fullS (e + 1) (pkL m) → ∀ s', s'.b = (layF s t e (pkL m)).1.b → Keep s' (e + 1) (t : Int) m (List.replicate (1008 - (pkL m).length) 255) := fun hw s' hb =>
    .inr ⟨t, ht, rfl, by rw [hb, hw]; exact SecH.full (by omega) he hm hml, by rw [hb, hoth, show e + 1 - 1 = e by omega]; exact LT.2⟩
  have old : LowS (e - 1) (secB (layF s t e (pkL m)).1.b t) → Keep (layF s t e (pkL m)).1.bootF e c l T := fun hlow => by
    have hb : (layF s t e (pkL m)).1.bootF.b = (layF s t e (pkL m)).1.b := rfl
    rcases h with ⟨rfl, rfl, rfl, rfl, h0, h1⟩ | ⟨t0, ht0, rfl, hs, ho⟩
    · have : t = 0 := by have : nextZ (-1) = 0 := by decide
                         omega
      subst this
      exact .inl ⟨rfl, rfl, rfl, rfl, by rw [hb]; exact hlow, by rw [hb]; have := hoth; rw [show 1 - 0 = 1 from rfl] at this; rw [this]; exact h1⟩
    · have : t = 1 - t0 := by
        have e1 : nextZ (t0 : Int) = ((1 - t0 : Nat) : Int) := by
          unfold nextZ
          split <;> omega
        omega
      subst this
      rw [show 1 - (1 - t0) = t0 by omega] at hoth
      exact .inr ⟨t0, ht0, rfl, by rw [hb, hoth]; exact hs, by rw [hb]; exact hlow⟩
  refine ⟨B.g, ?_⟩
  rcases out with ⟨a1, a2, a3, a4, a5⟩ | ⟨a1, a2, a3, a4⟩
  · exact .inl ⟨a1, a2, whole a3 _ rfl, a4, a5, B.o⟩
  · refine .inr ⟨a1, a3, ?_⟩
    rcases a4 with a4 | a4 | ⟨a4, a5⟩
    · exact .inr (whole a4 _ rfl)
    · exact .inl (old (LT.1.up (g.byt.sec t) (B.g.byt.sec t) a4))
    · exact .inl (old ((LowS.part (B.g.byt.sec t) he a4 a5).mono (Nat.zero_le _)))
end Go.Proofs.Ytfldgaiiniknpaa
