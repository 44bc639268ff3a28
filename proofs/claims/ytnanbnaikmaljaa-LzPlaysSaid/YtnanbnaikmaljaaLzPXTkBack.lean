
/- Packed tokens are read as they were; more bytes behind change nothing in what is read. -/
import Derived.Test.YtnanbnaikmaljaaLzPXTkBits
namespace Go.Proofs.Ytnanbnaikmaljaa
open Go.RowKit

theorem cont_ok : ∀ (N i : Nat) (s : RdS) (t : Tok) (c : CSt), lft i s ≤ N → Mid i s t → ROk s → PP s.m → COk c →
    COk (cont i s c t).1 ∧ Within c (cont i s c t).1 ∧ MOk (cont i s c t).2 ∧ PP (cont i s c t).2
  | 0, i, s, t, c, hN, hm, hr, hp, hc => by
    rcases mid_next hm c (rP_nz hr hp) with ⟨-, i', -, -, hl⟩ | ⟨-, -, -, hl⟩
    · exact absurd hl (by omega)
    · exact absurd hl (by omega)
  | N + 1, i, s, t, c, hN, hm, hr, hp, hc => by
    obtain ⟨b, hb⟩ := bI_01 (nb_01 i s t)
    have r1 := ROk.stepB (nb_01 i s t) hr hp
    have p1 := hp.step (s := s) (nb i s t)
    have c1 := (cStep_steps hc (rQ s) b).1
    have w1 := within_step hc (rQ s) b
    rcases mid_next hm c (rP_nz hr hp) with ⟨-, i', hm', e, hl⟩ | ⟨-, e1, e2, -⟩
    · obtain ⟨q1, q2, q3⟩ := cont_ok N i' _ t (cStep c (rQ s) (nb i s t)) (by omega) hm' r1 p1 (by rw [hb]; exact c1)
      rw [← e] at q1 q2 q3
      rw [hb] at q2
      exact ⟨q1, w1.trans q2, q3⟩
    · rw [e1] at r1 p1
      rw [hb] at e2
      exact ⟨by rw [e2]; exact c1, by rw [e2]; exact w1, r1.mok, p1⟩
theorem readN_step {plain f : Nat} {s : RdS} {d dd : DSt} {zs : List Int} {md : Nat} {out : List Tok} (h1 : fedB d zs = true) (h2 : md ≠ plain) (hd : dEat d (zs.take d.n.toNat) = dd) :
    readN plain (f + 1) s d zs md out = if rTok s dd = true then
        if mayT (rNext s dd).t md = true ∧ longT (rNext s dd).t ≤ (plain : Int) - md then
          readN plain f (rNext s dd) (rDec s dd) (zs.drop d.n.toNat) (md + (longT (rNext s dd).t).toNat) (out ++ [(rNext s dd).t])
        else none
      else readN plain f (rNext s dd) (rDec s dd) (zs.drop d.n.toNat) md out := by
  rw [← hd]
  conv => lhs; unfold readN
  rw [if_neg (by rw [h1]; decide), if_neg h2]
theorem read_tok (plain : Nat) (F : CSt) (okF : COk F) : ∀ (N i : Nat) (s : RdS) (t : Tok) (c : CSt) (j : Nat) (d : DSt) (md : Nat) (out : List Tok), lft i s ≤ N → Mid i s t → ROk s → PP s.m → BG F c j d →
    Within (cont i s c t).1 F → md ≠ plain → mayT t md = true → longT t ≤ (plain : Int) - md →
    ∃ K j' d', K ≤ N ∧ BG F (cont i s c t).1 j' d' ∧ ROk ⟨(cont i s c t).2, 0, 1, t⟩ ∧ PP (cont i s c t).2 ∧
      ∀ f, readN plain (f + K) s d (F.l.drop j) md out = readN plain f ⟨(cont i s c t).2, 0, 1, t⟩ d' (F.l.drop j') (md + (longT t).toNat) (out ++ [t])
  | 0, i, s, t, c, j, d, md, out, hN, hm, hr, hp, hb, wi, h1, h2, h3 => by
    rcases mid_next hm c (rP_nz hr hp) with ⟨-, i', -, -, hl⟩ | ⟨-, -, -, hl⟩
    · exact absurd hl (by omega)
    · exact absurd hl (by omega)
  | N + 1, i, s, t, c, j, d, md, out, hN, hm, hr, hp, hg, wi, h1, h2, h3 => by
    obtain ⟨b, hb⟩ := bI_01 (nb_01 i s t)
    have nz := rP_nz hr hp
    have r1 := ROk.stepB (nb_01 i s t) hr hp
    have p1 := hp.step (s := s) (nb i s t)
    have hc := hg.rel.ok
    have c1 := (cStep_steps hc (rQ s) b).1
    have wc := (cont_ok _ i s t c (Nat.le_refl _) hm hr hp hc).2.1
    obtain ⟨J, hJ, fed, hle, rel, n0, clt, hj⟩ := hg.feed okF (wc.trans wi)
    obtain ⟨dd, hdd⟩ : ∃ x, dEat d ((F.l.drop j).take d.n.toNat) = x := ⟨_, rfl⟩
    rw [hJ, hdd] at rel n0 clt
    rw [hJ] at hj hle
    have may : dMayB dd = true := decide_eq_true ⟨n0, clt⟩
    obtain ⟨q1, q2, q3, q4⟩ := rNext_step s dd may nz
    have st := fun f => readN_step (plain := plain) (f := f) (s := s) (md := md) (out := out) fed h1 hdd
    rcases mid_next hm c nz with ⟨e0, i', hm', e, hl⟩ | ⟨e0, e1, e2, hl⟩
    · rw [hb] at e0 e hm' hl r1 p1
      have wi2 : Within (cStep c (rQ s) (bI b)) F := by
        have := (cont_ok _ i' _ t (cStep c (rQ s) (bI b)) (Nat.le_refl _) hm' r1 p1 c1).2.1
        rw [← e] at this
        exact this.trans wi
      obtain ⟨b1, b2⟩ := BG.bit okF (rQ s) b wi2 hj hle rel n0 clt
      rw [q1, b1] at q3 q4
      rw [e0] at q4
      rw [e] at wi ⊢
      obtain ⟨K, j', d', hK, g, ro, pp, hf⟩ := read_tok plain F okF N i' _ t _ _ _ md out (by omega) hm' r1 p1 b2 wi h1 h2 h3
      refine ⟨K + 1, j', d', by omega, g, ro, pp, fun f => ?_⟩
      rw [show f + (K + 1) = (f + K) + 1 by omega, st, q4, if_neg (by decide), q3, q2, List.drop_drop]
      exact hf f
    · rw [hb] at e0 e1 e2 r1 p1
      rw [e2] at wi ⊢
      obtain ⟨b1, b2⟩ := BG.bit okF (rQ s) b wi hj hle rel n0 clt
      rw [q1, b1] at q3 q4
      rw [e0] at q4
      rw [e1] at q3 r1 p1
      refine ⟨1, _, _, by omega, b2, r1, p1, fun f => ?_⟩
      rw [st, q4, if_pos rfl, q3, if_pos ⟨h2, h3⟩, q2, List.drop_drop]
theorem cont_start (m : Ms) (t0 t : Tok) (c : CSt) : cont 1 ⟨m, 0, 1, t0⟩ c t = eTok c m t := rfl
theorem row_ok : ∀ (ts : List Tok) (c : CSt) (m : Ms) (t0 : Tok), (∀ t ∈ ts, TV t) → ROk ⟨m, 0, 1, t0⟩ → PP m → COk c → COk (eRow ts (c, m)).1 ∧ Within c (eRow ts (c, m)).1
  | [], c, m, t0, _, _, _, hc => ⟨hc, Within.refl c⟩
  | t :: ts, c, m, t0, hv, hr, hp, hc => by
    obtain ⟨q1, q2, q3, q4⟩ := cont_ok 21 1 ⟨m, 0, 1, t0⟩ t c (Nat.le_refl _) (Mid.kind m t0 t (hv t List.mem_cons_self)) hr hp hc
    rw [cont_start] at q1 q2 q3 q4
    obtain ⟨k1, k2⟩ := row_ok ts (eTok c m t).1 (eTok c m t).2 t0 (fun u hu => hv u (List.mem_cons_of_mem _ hu)) ⟨q3, hr.part, hr.n1, hr.n2, hr.d0, hr.d4, hr.wf⟩ q4 q1
    exact ⟨k1, q2.trans k2⟩
theorem right_tv : ∀ (ts : List Tok) (m : Int), rightB ts m = true → (∀ t ∈ ts, TokWf t) → ∀ t ∈ ts, TV t
  | [], _, _, _ => by simp
  | t :: ts, m, h, hw => by
    obtain ⟨h1, h2, h3⟩ := rightB_cons h
    intro u hu
    rcases List.mem_cons.1 hu with rfl | hu
    · exact TV.of h1 (hw _ List.mem_cons_self)
    · exact right_tv ts _ h3 (fun x hx => hw x (List.mem_cons_of_mem _ hx)) u hu
theorem read_row (plain : Nat) (F : CSt) (okF : COk F) : ∀ (ts : List Tok) (c : CSt) (m : Ms) (t0 : Tok) (j : Nat) (d : DSt) (md : Nat) (out : List Tok), (∀ t ∈ ts, TokWf t) → rightB ts md = true → plain ≤ 8192 → madeT ts md = plain →
    ROk ⟨m, 0, 1, t0⟩ → PP m → BG F c j d → (eRow ts (c, m)).1 = F → ∀ f, readN plain (f + 21 * ts.length + 1) ⟨m, 0, 1, t0⟩ d (F.l.drop j) md out = some (out ++ ts)
  | [], c, m, t0, j, d, md, out, hw, h1, hp8, h2, hr, hp, hg, hF, f => by
    have hF : c = F := hF
    obtain ⟨J, hJ, fed, -⟩ := hg.feed okF (by rw [hF]; exact Within.refl F)
    have e : md = plain := by have : (md : Int) = plain := h2; omega
    show readN plain (f + 0 + 1) _ _ _ _ _ = _
    unfold readN
    rw [if_neg (by rw [fed]; decide), if_pos e, List.append_nil]
  | t :: ts, c, m, t0, j, d, md, out, hw, h1, hp8, h2, hr, hp, hg, hF, f => by
    have tv := right_tv _ _ h1 hw
    obtain ⟨r1, r2, r3⟩ := rightB_cons h1
    obtain ⟨l1, l2⟩ := longT_pos r1
    have hm : Mid 1 ⟨m, 0, 1, t0⟩ t := Mid.kind m t0 t (tv t List.mem_cons_self)
    obtain ⟨c1, c2, c3, c4⟩ := cont_ok 21 1 ⟨m, 0, 1, t0⟩ t c (Nat.le_refl _) hm hr hp hg.rel.ok
    rw [cont_start] at c1 c2 c3 c4
    have hr2 : ROk ⟨(eTok c m t).2, 0, 1, t0⟩ := ⟨c3, hr.part, hr.n1, hr.n2, hr.d0, hr.d4, hr.wf⟩
    have wi : Within (eTok c m t).1 F := by rw [← hF]; exact (row_ok ts _ _ t0 (fun u hu => tv u (List.mem_cons_of_mem _ hu)) hr2 c4 c1).2
    have h2 : madeT ts (md + longT t) = plain := h2
    have hge : (md : Int) + longT t ≤ plain := by rw [← h2]; exact (madeT_le ts _ r3 (by omega)).1
    obtain ⟨K, j', d', hK, g, ro, pp, hf⟩ := read_tok plain F okF 21 1 ⟨m, 0, 1, t0⟩ t c j d md out (Nat.le_refl _) hm hr hp hg (by rw [cont_start]; exact wi) (by omega) r1 (by omega)
    rw [cont_start] at g ro pp hf
    have hcast : ((md + (longT t).toNat : Nat) : Int) = md + longT t := by omega
    have ih := read_row plain F okF ts (eTok c m t).1 (eTok c m t).2 t j' d' (md + (longT t).toNat) (out ++ [t]) (fun x hx => hw x (List.mem_cons_of_mem _ hx)) (by rw [hcast]; exact r3) hp8 (by rw [hcast]; exact h2) ro pp g hF (f + (21 - K))
    have e : f + 21 * (t :: ts).length + 1 = (f + (21 - K) + 21 * ts.length + 1) + K := by rw [List.length_cons]; omega
    rw [e, hf, ih, List.append_assoc, List.singleton_append]
theorem made_ge : ∀ (ts : List Tok) (m : Int), rightB ts m = true → m + ts.length ≤ madeT ts m
  | [], m, _ => by show m + 0 ≤ m; omega
  | t :: ts, m, h => by
    obtain ⟨h1, h2, h3⟩ := rightB_cons h
    have := made_ge ts _ h3
    have := longT_pos h1
    show m + ((ts.length + 1 : Nat) : Int) ≤ madeT ts (m + longT t)
    omega
theorem read_pack {ts : List Tok} (h : rightB ts 0 = true) (hw : ∀ t ∈ ts, TokWf t) : readP (packL ts) (madeT ts 0).toNat = some ts := by
  obtain ⟨p, hp⟩ : ∃ p : Nat, madeT ts 0 = p := ⟨(madeT ts 0).toNat, by have := (madeT_le ts 0 h (by decide)).1; omega⟩
  have h8 := (madeT_le ts 0 h (by decide)).2
  have hge := made_ge ts 0 h
  rw [hp] at h8 hge
  have e : packL ts = (eRow ts (cst0, ms0)).1.l := if_pos h
  obtain ⟨F, hF⟩ : ∃ F, (eRow ts (cst0, ms0)).1 = F := ⟨_, rfl⟩
  have r0 : ROk ⟨ms0, 0, 1, ⟨0, 0, 0⟩⟩ := ROk.start
  have okF : COk F := by rw [← hF]; exact (row_ok ts cst0 ms0 ⟨0, 0, 0⟩ (right_tv ts 0 h hw) r0 PP.start COk.start).1
  rw [e, hp, hF, Int.toNat_natCast]
  have g : BG F cst0 0 dst0 := ⟨DRel.start, Nat.zero_le _, by have := okF.len; show (4 : Int) ≤ _; omega⟩
  have := read_row p F okF ts cst0 ms0 ⟨0, 0, 0⟩ 0 dst0 0 [] hw h (by omega) hp r0 PP.start g hF (p * 1000 + 1000 - (21 * ts.length + 1))
  rw [show p * 1000 + 1000 - (21 * ts.length + 1) + 21 * ts.length + 1 = p * 1000 + 1000 by omega] at this
  exact this
theorem plainL_len {ts : List Tok} (h : rightB ts 0 = true) : ((plainL ts).length : Int) = madeT ts 0 := by
  rw [right_out h]; exact plainT_len ts [] 0 h rfl
theorem unp_pack {ts : List Tok} (h : rightB ts 0 = true) (hw : ∀ t ∈ ts, TokWf t) : unpF (packL ts) ((plainL ts).length : Int) = (ts, 0) := by
  have h8 := (madeT_le ts 0 h (by decide)).2
  unfold unpF
  rw [plainL_len h, if_neg (by have := (madeT_le ts 0 h (by decide)).1; omega), read_pack h hw]
  exact if_pos rfl
theorem row_len : ∀ (ts : List Tok) (c : CSt) (m : Ms), CGood c m → (eRow ts (c, m)).1.l.length ≤ c.l.length + 21 * ts.length
  | [], c, m, _ => Nat.le_refl _
  | t :: ts, c, m, h => by
    obtain ⟨g, hl⟩ := h.tok t
    have := row_len ts _ _ g
    show (eRow ts (eTok c m t)).1.l.length ≤ c.l.length + 21 * (ts.length + 1)
    have e : eTok c m t = ((eTok c m t).1, (eTok c m t).2) := rfl
    rw [e]
    omega
theorem pack_long {ts : List Tok} (h : rightB ts 0 = true) : (packL ts).length ≤ 172036 := by
  have h1 := row_len ts cst0 ms0 CGood.start
  have h2 := right_len ts 0 h (by decide)
  have e : packL ts = (eRow ts (cst0, ms0)).1.l := if_pos h
  have e2 : cst0.l.length = 4 := rfl
  rw [e]
  omega
theorem fed_more {d : DSt} {zs : List Int} (ys : List Int) (h : fedB d zs = true) : fedB d (zs ++ ys) = true ∧ (zs ++ ys).take d.n.toNat = zs.take d.n.toNat ∧ (zs ++ ys).drop d.n.toNat = zs.drop d.n.toNat ++ ys := by
  unfold fedB at h ⊢
  simp only [Bool.and_eq_true, decide_eq_true_eq] at h
  obtain ⟨h1, h2⟩ := h
  have hl : d.n.toNat ≤ zs.length := by omega
  have e := List.take_append_of_le_length (l₂ := ys) hl
  refine ⟨?_, e, List.drop_append_of_le_length hl⟩
  rw [e, h2, decide_eq_true (by rw [List.length_append]; omega)]
  rfl
theorem readN_more (plain : Nat) (ys : List Int) : ∀ (f : Nat) (s : RdS) (d : DSt) (zs : List Int) (md : Nat) (out l : List Tok), readN plain f s d zs md out = some l → readN plain f s d (zs ++ ys) md out = some l
  | 0, _, _, _, _, _, _, h => by cases h
  | f + 1, s, d, zs, md, out, l, h => by
    unfold readN at h ⊢
    cases hf : fedB d zs with
    | false => rw [if_pos hf] at h; cases h
    | true =>
      obtain ⟨e1, e2, e3⟩ := fed_more ys hf
      rw [if_neg (by rw [hf]; decide)] at h
      rw [if_neg (by rw [e1]; decide), e2, e3]
      split
      · rename_i hm; rw [if_pos hm] at h; exact h
      rename_i hm
      rw [if_neg hm] at h
      split
      · rename_i ht
        rw [if_pos ht] at h
        split
        · rename_i hy; rw [if_pos hy] at h; exact readN_more plain ys f _ _ _ _ _ _ h
        · rename_i hy; rw [if_neg hy] at h; cases h
      · rename_i ht
        rw [if_neg ht] at h
        exact readN_more plain ys f _ _ _ _ _ _ h
theorem unp_behind {ts : List Tok} (h : rightB ts 0 = true) (hw : ∀ t ∈ ts, TokWf t) (ys : List Int) (hy : 0 < ys.length) : unpF (packL ts ++ ys) ((plainL ts).length : Int) = ([], 11) := by
  have h8 := (madeT_le ts 0 h (by decide)).2
  have hr : readP (packL ts ++ ys) (madeT ts 0).toNat = some ts := readN_more _ ys _ _ _ _ _ _ _ (read_pack h hw)
  unfold unpF
  rw [plainL_len h, if_neg (by have := (madeT_le ts 0 h (by decide)).1; omega), hr]
  refine if_neg fun e => ?_
  have := congrArg List.length e
  rw [List.length_append] at this
  omega
theorem unp_front {ts : List Tok} (h : rightB ts 0 = true) (hw : ∀ t ∈ ts, TokWf t) (k : Nat) (hk : k < (packL ts).length) : unpF ((packL ts).take k) ((plainL ts).length : Int) = ([], 11) := by
  rcases unpF_cases ((packL ts).take k) ((plainL ts).length : Int) with ⟨-, h2⟩ | ⟨hu, -, -⟩ | ⟨l, hu, -, -⟩
  · have := (madeT_le ts 0 h (by decide))
    rw [plainL_len h] at h2
    omega
  · exact hu
  · exfalso
    obtain ⟨-, -, q1, q2, q3⟩ := unpF_ok hu
    have hr : readP ((packL ts).take k) (madeT ts 0).toNat = some l := by
      unfold unpF at hu
      split at hu
      · cases hu
      rw [plainL_len h] at hu
      split at hu
      · cases hu
      rename_i l' hl'
      split at hu
      · have e : l' = l := congrArg Prod.fst hu
        rw [← e]; exact hl'
      · cases hu
    have h2 : readP ((packL ts).take k ++ (packL ts).drop k) (madeT ts 0).toNat = some l := readN_more _ _ _ _ _ _ _ _ _ hr
    rw [List.take_append_drop, read_pack h hw] at h2
    cases h2
    have := congrArg List.length q2
    rw [List.length_take] at this
    omega
end Go.Proofs.Ytnanbnaikmaljaa
