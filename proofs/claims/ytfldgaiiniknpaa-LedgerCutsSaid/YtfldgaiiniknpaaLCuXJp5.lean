
/- The plain law of a journal: what its calls come to. -/
import Derived.Test.YtfldgaiiniknpaaLCuXJp4
import Derived.Test.YtfldgaiiniknpaaLCuXSealTn
namespace Go.Proofs.Ytfldgaiiniknpaa
open Go.RowKit

theorem blank_rep (n : Nat) : blankB (List.replicate n 255) = true := by
  unfold blankB
  refine decide_eq_true fun i hi => ?_
  rw [List.length_replicate] at hi
  simp [List.getD, hi]
def blk (n : Nat) : List Int := List.replicate n 255
/-- Compacting. -/
theorem keep_cmp {s : FS} {n e : Nat} {c : Int} {l : List Rec} {T : List Int} (g : FG s n) (hd : s.dark = false) (h : Keep s e c l T) (he : e + 1 ≤ 4294967295) (recs : List Rec) (hb : ∀ r ∈ recs, Byt r.b) :
    (packF [] (numR 0 recs) = none ∧ cmpF s (keptJ e c l T) recs = (s, keptJ e c l T, 1)) ∨
    (∃ s', packF [] (numR 0 recs) = some (pkL (numR 0 recs)) ∧ (∀ r ∈ numR 0 recs, GR r) ∧ (pkL (numR 0 recs)).length ≤ 1008 ∧ FG s' n ∧
      ((cmpF s (keptJ e c l T) recs = (s', keptJ (e + 1) (nextZ c) (numR 0 recs) (blk (1008 - (pkL (numR 0 recs)).length)), 0) ∧ s'.dark = false ∧ Keep s' (e + 1) (nextZ c) (numR 0 recs) (blk (1008 - (pkL (numR 0 recs)).length)) ∧ (s.left < 0 ↔ s'.left < 0) ∧
          s'.er = (if blankB (secB s.b (nextZ c).toNat) = true then s.er else s.er.set (nextZ c).toNat (s.er.getD (nextZ c).toNat 0 + 1)) ∧ (∀ o, o < n → o ≠ (nextZ c).toNat → secB s'.b o = secB s.b o)) ∨
       (cmpF s (keptJ e c l T) recs = (s', { keptJ e c l T with err := 5 }, 5) ∧ 0 ≤ s.left ∧ (Keep s'.bootF e c l T ∨ Keep s'.bootF (e + 1) (nextZ c) (numR 0 recs) (blk (1008 - (pkL (numR 0 recs)).length)))))) := by
  have bn : ∀ (rs : List Rec) (i : Nat), (∀ r ∈ rs, Byt r.b) → ∀ r ∈ numR i rs, Byt r.b := by
    intro rs
    induction rs with
    | nil => intro i h r hr; cases hr
    | cons x xs ih =>
      intro i h r hr
      rcases List.mem_cons.1 hr with rfl | hr
      · exact h x List.mem_cons_self
      · exact ih (i + 1) (fun y hy => h y (List.mem_cons_of_mem _ hy)) r hr
  have jerr : (keptJ e c l T).err = 0 := by unfold keptJ; split <;> rfl
  have jep : (keptJ e c l T).epoch = e := by unfold keptJ; split <;> rfl
  have jcur : (keptJ e c l T).cur = c := by unfold keptJ; split <;> rfl
  have nz : nextZ c = 0 ∨ nextZ c = 1 := by unfold nextZ; split <;> simp
  cases hp : packF [] (numR 0 recs) with
  | none =>
    refine .inl ⟨rfl, ?_⟩
    unfold cmpF
    rw [if_neg (by rw [jerr]; decide), if_neg (by rw [jep]; omega), hp]
  | some b =>
    obtain ⟨hb1, hb2⟩ := packF_some _ _ _ hp
    rw [List.nil_append] at hb1
    have hlen := packF_len _ _ _ (by decide) hp
    subst hb1
    have hgr : ∀ r ∈ numR 0 recs, GR r := fun r hr => ⟨(hb2 r hr).1, (hb2 r hr).2, bn recs 0 hb r hr⟩
    obtain ⟨F, out⟩ := Keep.lay g hd h he hgr hlen
    have hc : cmpF s (keptJ e c l T) recs = if (layF s (nextZ c) e (pkL (numR 0 recs))).2 ≠ 0 then ((layF s (nextZ c) e (pkL (numR 0 recs))).1, { keptJ e c l T with err := (layF s (nextZ c) e (pkL (numR 0 recs))).2 }, (layF s (nextZ c) e (pkL (numR 0 recs))).2)
      else ((layF s (nextZ c) e (pkL (numR 0 recs))).1, ⟨numR 0 recs, e + 1, nextZ c, 16 + (pkL (numR 0 recs)).length, false, 0⟩, 0) := by
      unfold cmpF
      rw [if_neg (by rw [jerr]; decide), if_neg (by rw [jep]; omega), hp]
      simp only [jep, jcur]
    refine .inr ⟨(layF s (nextZ c) e (pkL (numR 0 recs))).1, rfl, hgr, hlen, F, ?_⟩
    rcases out with ⟨a1, a2, a3, a4, a5, a6⟩ | ⟨a1, a2, a3⟩
    · refine .inl ⟨?_, a2, a3, a4, a5, a6⟩
      rw [hc, if_neg (by rw [a1]; decide)]
      unfold keptJ blk
      rw [if_neg (by omega), blank_rep]
      rfl
    · refine .inr ⟨?_, a2, a3⟩
      rw [hc, if_pos (by rw [a1]; decide), a1]
/-- What is behind the records, where there is room. -/
theorem SecH.room {zs : List Int} {e : Nat} {l : List Rec} {T : List Int} (h : SecH zs e l T) (hT : blankB T = true) : T = blk (1008 - (pkL l).length) := by
  have h1 := blankB_eq hT
  have h2 := h.ll.2
  rw [show 1008 - (pkL l).length = T.length by omega]
  exact h1
/-- Appending. -/
theorem keep_app {s : FS} {n e : Nat} {c : Int} {l : List Rec} {T : List Int} (g : FG s n) (hd : s.dark = false) (h : Keep s e c l T) (kind : Int) (body : List Int) (hb : Byt body) :
    ((kind = 1 ∨ ¬ fitsR kind ((l.length : Int) + 1) body.length) ∧ appF s (keptJ e c l T) kind body = (s, keptJ e c l T, 1)) ∨
    (GR ⟨kind, (l.length : Int) + 1, body⟩ ∧ (keptJ e c l T).room < ((putL kind ((l.length : Int) + 1) body).length : Int) ∧ appF s (keptJ e c l T) kind body = (s, keptJ e c l T, 14)) ∨
    (∃ s', GR ⟨kind, (l.length : Int) + 1, body⟩ ∧ ((putL kind ((l.length : Int) + 1) body).length : Int) ≤ (keptJ e c l T).room ∧ T = blk (1008 - (pkL l).length) ∧ (pkL (l ++ [⟨kind, (l.length : Int) + 1, body⟩])).length ≤ 1008 ∧ FG s' n ∧
      ((appF s (keptJ e c l T) kind body = (s', keptJ e c (l ++ [⟨kind, (l.length : Int) + 1, body⟩]) (blk (1008 - (pkL (l ++ [⟨kind, (l.length : Int) + 1, body⟩])).length)), 0) ∧ s'.dark = false ∧ Keep s' e c (l ++ [⟨kind, (l.length : Int) + 1, body⟩]) (blk (1008 - (pkL (l ++ [⟨kind, (l.length : Int) + 1, body⟩])).length)) ∧ (s.left < 0 ↔ s'.left < 0) ∧ s'.er = s.er) ∨
       (appF s (keptJ e c l T) kind body = (s', { keptJ e c l T with err := 5 }, 5) ∧ 0 ≤ s.left ∧ ((∃ T', Keep s'.bootF e c l T') ∨ Keep s'.bootF e c (l ++ [⟨kind, (l.length : Int) + 1, body⟩]) (blk (1008 - (pkL (l ++ [⟨kind, (l.length : Int) + 1, body⟩])).length)))))) := by
  obtain ⟨r, hr⟩ : ∃ r : Rec, (⟨kind, (l.length : Int) + 1, body⟩ : Rec) = r := ⟨_, rfl⟩
  have hput : putL kind ((l.length : Int) + 1) body = r.put := by rw [← hr]; rfl
  rw [hr, hput]
  have jerr : (keptJ e c l T).err = 0 := by unfold keptJ; split <;> rfl
  have jl : (keptJ e c l T).l = l := by
    rcases h with ⟨rfl, rfl, rfl, rfl, -⟩ | ⟨t, -, rfl, -⟩
    · rfl
    · unfold keptJ; rw [if_neg (by omega)]
  by_cases hk : kind = 1 ∨ ¬ fitsR kind ((l.length : Int) + 1) body.length
  · left
    refine ⟨hk, ?_⟩
    unfold appF
    rw [jl, if_neg (by rw [jerr]; decide), if_pos]
    rcases hk with hk | hk
    · exact .inl hk
    · exact .inr (by unfold putL; rw [if_neg hk]; rfl)
  right
  have gr : GR r := by rw [← hr]; exact ⟨fun h => hk (.inl h), Classical.byContradiction fun h => hk (.inr h), hb⟩
  have hge := gr.ge
  have happ : appF s (keptJ e c l T) kind body = if (keptJ e c l T).room < (r.put.length : Int) then (s, keptJ e c l T, 14)
      else if (s.gprog 0 2 ((keptJ e c l T).cur * 1024 + (keptJ e c l T).used) r.put).2 ≠ 0 then
        ((s.gprog 0 2 ((keptJ e c l T).cur * 1024 + (keptJ e c l T).used) r.put).1, { keptJ e c l T with err := (s.gprog 0 2 ((keptJ e c l T).cur * 1024 + (keptJ e c l T).used) r.put).2 }, (s.gprog 0 2 ((keptJ e c l T).cur * 1024 + (keptJ e c l T).used) r.put).2)
      else ((s.gprog 0 2 ((keptJ e c l T).cur * 1024 + (keptJ e c l T).used) r.put).1, { keptJ e c l T with err := 0, l := l ++ [r], used := (keptJ e c l T).used + r.put.length }, 0) := by
    unfold appF
    rw [jl, hput, hr, if_neg (by rw [jerr]; decide), if_neg (by rintro (h1 | h1); exact hk (.inl h1); omega)]
    clear h
    revert jerr jl
    generalize keptJ e c l T = J
    intro jerr jl
    obtain ⟨J1, J2, J3, J4, J5, J6⟩ := J
    have jl : J1 = l := jl
    have jerr : J6 = 0 := jerr
    rw [jl, jerr]
  by_cases hroom : (keptJ e c l T).room < (r.put.length : Int)
  · exact .inl ⟨gr, hroom, by rw [happ, if_pos hroom]⟩
  right
  rw [if_neg hroom] at happ
  -- there is room: the sector's rest is blank
  rcases h with ⟨rfl, rfl, rfl, rfl, -⟩ | ⟨t, ht, rfl, hs, ho⟩
  · exact absurd (show (0 : Int) < (r.put.length : Int) by omega) hroom
  have kj : keptJ e (t : Int) l T = ⟨l, e, t, 16 + (pkL l).length, !blankB T, 0⟩ := by unfold keptJ; rw [if_neg (by omega)]
  have hT : blankB T = true := by
    by_cases q : blankB T = true
    · exact q
    · have q : blankB T = false := by simpa using q
      have : (keptJ e (t : Int) l T).room = 0 := by rw [kj, q]; rfl
      rw [this] at hroom
      omega
  have hTe := hs.room hT
  have hrm : (keptJ e (t : Int) l T).room = 1024 - ((16 + (pkL l).length : Nat) : Int) := by
    rw [kj, hT]
    unfold JS.room
    rw [if_neg]
    rintro (h1 | h1)
    · cases h1
    · have h1 : (t : Int) = -1 := h1; omega
  have hll := hs.ll
  have hfit : (pkL l).length + r.put.length ≤ 1008 := by rw [hrm] at hroom; omega
  have hpk : (pkL (l ++ [r])).length = (pkL l).length + r.put.length := by rw [pkL_append, List.length_append]; simp [pkL]
  have hp8 := (pkL_len l hs.gr).2
  have htn : t < n := Nat.lt_of_lt_of_le ht g.n2
  have hon : 1 - t < n := by have := g.n2; omega
  have hhd : (epoB e ++ pkL l).length = 16 + (pkL l).length := by rw [List.length_append, epoB_len hs.e2]
  have hzs : secB s.b t = (epoB e ++ pkL l) ++ blk (1008 - (pkL l).length) := by rw [hs.eq, hTe, List.append_assoc]
  have can : canN (((secB s.b t).drop (16 + (pkL l).length)).take r.put.length) r.put = true := by
    rw [hzs, List.drop_left' hhd]
    unfold blk
    rw [rep_take _ _ (by omega)]
    exact canN_ff _ (putL_byt gr.byt)
  have eP : s.gprog 0 2 ((keptJ e (t : Int) l T).cur * 1024 + (keptJ e (t : Int) l T).used) r.put = s.gprog 0 2 ((t : Int) * 1024 + ((16 + (pkL l).length : Nat) : Int)) r.put := by rw [kj]
  rw [eP] at happ
  have spl : ∀ X : List Int, (pkL l).length + X.length ≤ 1008 → splice (secB s.b t) (16 + (pkL l).length) X = epoB e ++ (pkL l ++ (X ++ blk (1008 - (pkL l).length - X.length))) := fun X hX => by
    rw [hzs]
    unfold splice
    rw [List.take_left' hhd, ← List.drop_drop, List.drop_left' hhd]
    unfold blk
    rw [rep_drop, List.append_assoc]
  rcases gprog_out g hd ht (show 16 + (pkL l).length + r.put.length ≤ 1024 by omega) (by omega) hge.2 (putL_byt gr.byt) can with ⟨a1, a2, a3, a4, a5, a6⟩ | ⟨i, hi, a1, a2, a3, a5, a6⟩
  · refine ⟨_, gr, by omega, hTe, by omega, a3.g, .inl ⟨?_, a2, ?_, a6, a5⟩⟩
    · rw [happ, if_neg (by rw [a1]; decide), kj, hT]
      unfold keptJ blk
      rw [if_neg (by omega), blank_rep, hpk, Nat.add_assoc]
    · refine .inr ⟨t, ht, rfl, ⟨?_, hs.e1, hs.e2, fun x hx => ?_, getL_ff _, secB_len a3.g.bl htn⟩, by rw [a3.o _ hon (by omega)]; exact ho⟩
      · rw [a4, spl _ hfit, hpk, pkL_append, Nat.sub_sub]
        simp [pkL]
      · rcases List.mem_append.1 hx with hx | hx
        · exact hs.gr x hx
        · rw [List.mem_singleton.1 hx]; exact gr
  · refine ⟨_, gr, by omega, hTe, by omega, a3.g, .inr ⟨?_, a5, ?_⟩⟩
    · rw [happ, if_pos (by rw [a1]; decide), a1]
    · have hi8 : 8 * i + 8 ≤ r.put.length := by omega
      have hwl : ((r.put.drop (8 * i)).take 8).length = 8 := by rw [List.length_take, List.length_drop]; omega
      have hdd : ((secB s.b t).drop (16 + (pkL l).length + 8 * i)).take 8 = List.replicate 8 255 := by
        rw [hzs, ← List.drop_drop, List.drop_left' hhd]
        unfold blk
        rw [rep_drop, rep_take _ _ (by omega)]
      have hcan8 : canN (List.replicate 8 255) ((r.put.drop (8 * i)).take 8) = true := by
        have := canN_ff ((r.put.drop (8 * i)).take 8) (fun z hz => putL_byt gr.byt z (List.mem_of_mem_drop (List.mem_of_mem_take hz)))
        rwa [hwl] at this
      rw [hdd] at a6
      obtain ⟨tn, htn2⟩ : ∃ x, tornN (List.replicate 8 255) ((r.put.drop (8 * i)).take 8) s.pick = x := ⟨_, rfl⟩
      have htl : tn.length = 8 := by rw [← htn2]; unfold tornN; rw [if_pos hcan8, tornTo_length, hwl]
      rw [htn2] at a6
      have hXl : (r.put.take (8 * i) ++ tn).length = 8 * i + 8 := by rw [List.length_append, htl, List.length_take]; omega
      rw [spl _ (by rw [hXl]; omega), hXl] at a6
      have hb : (s.gprog 0 2 ((t : Int) * 1024 + ((16 + (pkL l).length : Nat) : Int)) r.put).1.bootF.b = (s.gprog 0 2 ((t : Int) * 1024 + ((16 + (pkL l).length : Nat) : Int)) r.put).1.b := rfl
      have hoo : LowS (e - 1) (secB (s.gprog 0 2 ((t : Int) * 1024 + ((16 + (pkL l).length : Nat) : Int)) r.put).1.bootF.b (1 - t)) := by rw [hb, a3.o _ hon (by omega)]; exact ho
      obtain ⟨T', hT'⟩ : ∃ x, r.put.take (8 * i) ++ tn ++ blk (1008 - (pkL l).length - (8 * i + 8)) = x := ⟨_, rfl⟩
      have hsec : secB (s.gprog 0 2 ((t : Int) * 1024 + ((16 + (pkL l).length : Nat) : Int)) r.put).1.bootF.b t = epoB e ++ (pkL l ++ T') := by rw [hb, a6, hT']
      by_cases hw : T'.take r.put.length = r.put
      · right
        have hT2 : T' = r.put ++ blk (1008 - (pkL (l ++ [r])).length) := by
          have hl' : T'.length = 1008 - (pkL l).length := by rw [← hT', List.length_append, hXl]; unfold blk; rw [List.length_replicate]; omega
          have hrest : T'.drop r.put.length = blk (1008 - (pkL (l ++ [r])).length) := by
            rw [← hT', hpk]
            unfold blk
            rw [show r.put.length = (8 * i + 8) + (r.put.length - (8 * i + 8)) by omega, ← List.drop_drop, List.drop_left' hXl, rep_drop]
            congr 1; omega
          rw [← List.take_append_drop r.put.length T', hw, hrest]
        refine .inr ⟨t, ht, rfl, ⟨?_, hs.e1, hs.e2, fun x hx => ?_, getL_ff _, secB_len a3.g.bl htn⟩, hoo⟩
        · rw [hsec, hT2, pkL_append]
          simp [pkL]
        · rcases List.mem_append.1 hx with hx | hx
          · exact hs.gr x hx
          · rw [List.mem_singleton.1 hx]; exact gr
      · left
        refine ⟨T', .inr ⟨t, ht, rfl, ⟨hsec, hs.e1, hs.e2, hs.gr, ?_, secB_len a3.g.bl htn⟩, hoo⟩⟩
        have := get_torn r.k r.s r.b gr.fits i hi8 tn htl (1008 - (pkL l).length - (8 * i + 8)) (by show r.put.length ≤ _; omega)
        rw [← hT']
        exact this (by show (r.put.take (8 * i) ++ tn ++ blk (1008 - (pkL l).length - (8 * i + 8))).take r.put.length ≠ r.put; rw [hT']; exact hw)
end Go.Proofs.Ytfldgaiiniknpaa
