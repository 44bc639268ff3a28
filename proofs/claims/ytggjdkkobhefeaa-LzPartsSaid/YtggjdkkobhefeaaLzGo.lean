/- lzlite in plain words with room enough: what any parts come to; it tells one thing; fronts. -/
import Derived.Test.YtggjdkkobhefeaaLzFacts
import Derived.Test.YtggjdkkobhefeaaTkBack
namespace Go.Proofs.Ytggjdkkobhefeaa
open Go.RowKit

/-- One step; none: it stands still. -/
def gS (z : LzS) (ys : List Int) : Option (LzS × List Int × List Int) :=
  if z.st = 3 ∨ z.st = 4 then none
  else if dNeedB z.d = true then
    match ys with
    | [] => none
    | y :: ys => some ({ z with d := dByteS z.d y }, ys, [])
  else if dLostB z.d = true then some ({ z with st := 4 }, ys, [])
  else if 0 < z.left then some (lzNextS z, ys, [lzByte z])
  else if z.h.length = z.plain then some ({ z with st := lzEndV z }, ys, [])
  else if lzTakeB z = true then some (lzTakeS z, ys, [])
  else some ({ lzTakeS z with st := 4 }, ys, [])
inductive Gos : LzS → List Int → LzS → List Int → List Int → Prop
  | stop {z : LzS} {ys : List Int} : gS z ys = none → Gos z ys z ys []
  | step {z z' zf : LzS} {ys ys' r o1 o : List Int} : gS z ys = some (z', ys', o1) → Gos z' ys' zf r o → Gos z ys zf r (o1 ++ o)
theorem Gos.det {z zf : LzS} {ys r o : List Int} (h : Gos z ys zf r o) : ∀ {zf' : LzS} {r' o' : List Int}, Gos z ys zf' r' o' → zf = zf' ∧ r = r' ∧ o = o' := by
  induction h with
  | stop hn =>
    intro zf' r' o' k
    cases k with
    | stop _ => exact ⟨rfl, rfl, rfl⟩
    | step hs _ => rw [hn] at hs; cases hs
  | step hs _ ih =>
    intro zf' r' o' k
    cases k with
    | stop hn => rw [hn] at hs; cases hs
    | step hs' k' =>
      rw [hs] at hs'
      cases hs'
      obtain ⟨a, b, c⟩ := ih k'
      exact ⟨a, b, by rw [c]⟩
def trm (z : LzS) : Prop := z.st = 3 ∨ z.st = 4
theorem gS_trm {z : LzS} (h : trm z) (ys : List Int) : gS z ys = none := by unfold gS; exact if_pos h
theorem gS_more {z z' : LzS} {ys ys' o : List Int} (h : gS z ys = some (z', ys', o)) (xs : List Int) : gS z (ys ++ xs) = some (z', ys' ++ xs, o) := by
  unfold gS at h ⊢
  split at h
  · cases h
  rename_i h1
  rw [if_neg h1]
  split at h
  · rename_i h2
    rw [if_pos h2]
    cases ys with
    | nil => cases h
    | cons y ys => cases h; rfl
  rename_i h2
  rw [if_neg h2]
  split at h
  · rename_i h3; rw [if_pos h3]; cases h; rfl
  rename_i h3
  rw [if_neg h3]
  split at h
  · rename_i h4; rw [if_pos h4]; cases h; rfl
  rename_i h4
  rw [if_neg h4]
  split at h
  · rename_i h5; rw [if_pos h5]; cases h; rfl
  rename_i h5
  rw [if_neg h5]
  split at h
  · rename_i h6; rw [if_pos h6]; cases h; rfl
  · rename_i h6; rw [if_neg h6]; cases h; rfl
/-- What has ended stays as it is with more bytes behind. -/
theorem Gos.more {z zf : LzS} {ys r o : List Int} (h : Gos z ys zf r o) (hf : trm zf) (xs : List Int) : Gos z (ys ++ xs) zf (r ++ xs) o := by
  induction h with
  | stop hn => exact Gos.stop (gS_trm hf _)
  | step hs _ ih => exact Gos.step (gS_more hs xs) (ih hf)
/-- A state that goes on, its word aside. -/
def nz (z : LzS) : LzS := if z.st = 3 ∨ z.st = 4 then z else { z with st := 1 }
theorem nz_on {z : LzS} (h : ¬ (z.st = 3 ∨ z.st = 4)) : nz z = { z with st := 1 } := if_neg h
theorem nz_off {z : LzS} (h : z.st = 3 ∨ z.st = 4) : nz z = z := if_pos h
theorem not1 : ¬ ((1 : Int) = 3 ∨ (1 : Int) = 4) := by decide
theorem lzF_go (room : Int) : ∀ (f : Nat) (z : LzS) (ys out : List Int), lzM z ys.length < f → LzOk z → (∀ y ∈ ys, 0 ≤ y ∧ y ≤ 255) →
    ∃ o, (lzF room f z ys out).2.2 = out ++ o ∧ (∀ xs zf r o2, Gos (nz (lzF room f z ys out).1) ((lzF room f z ys out).2.1 ++ xs) zf r o2 → Gos (nz z) (ys ++ xs) zf r (o ++ o2)) ∧
      (¬ (z.st = 3 ∨ z.st = 4) → (lzF room f z ys out).1.st = 1 → dNeedB (lzF room f z ys out).1.d = true)
  | 0, z, ys, out, hM, _, _ => absurd hM (Nat.not_lt_zero _)
  | f + 1, z, ys, out, hM, ok, hy => by
    unfold lzF
    by_cases hs : z.st = 3 ∨ z.st = 4
    · rw [if_pos hs]
      exact ⟨[], (List.append_nil _).symm, fun xs zf r o2 h => h, fun h => absurd hs h⟩
    rw [if_neg hs, nz_on hs]
    by_cases hn : dNeedB z.d = true
    · rw [if_pos hn]
      cases ys with
      | nil =>
        refine ⟨[], (List.append_nil _).symm, fun xs zf r o2 h => ?_, fun _ _ => hn⟩
        rw [nz_on (show ¬ ((1 : Int) = 3 ∨ (1 : Int) = 4) by decide)] at h
        exact h
      | cons y ys =>
        have hb := hy y List.mem_cons_self
        have hm := lzM_byte z (dByteS z.d y) ys.length hs
        rw [List.length_cons] at hM
        obtain ⟨o, q1, q2, q3⟩ := lzF_go room f { z with d := dByteS z.d y } ys out (by omega) (ok.byte y hb) (fun x hx => hy x (List.mem_cons_of_mem _ hx))
        refine ⟨o, q1, fun xs zf r o2 h => ?_, q3⟩
        have k := q2 xs zf r o2 h
        rw [nz_on (z := { z with d := dByteS z.d y }) hs] at k
        refine Gos.step (o1 := []) ?_ k
        unfold gS
        rw [if_neg not1, if_pos hn]
        rfl
    rw [if_neg hn]
    by_cases hl : dLostB z.d = true
    · rw [if_pos hl]
      have hm := lzM_end z 4 ys.length ys.length (.inr rfl) z hs
      obtain ⟨o, q1, q2, q3⟩ := lzF_go room f { z with st := 4 } ys out (by omega) (ok.set 4 (by decide) (by decide) (fun e => hs (.inr e))) hy
      refine ⟨o, q1, fun xs zf r o2 h => ?_, fun _ e => ?_⟩
      · have k := q2 xs zf r o2 h
        rw [nz_off (.inr rfl)] at k
        refine Gos.step (o1 := []) ?_ k
        unfold gS
        rw [if_neg not1, if_neg hn, if_pos hl]
      · have e2 : lzF room f { z with st := 4 } ys out = ({ z with st := 4 }, ys, out) := by
          cases f with
          | zero => rfl
          | succ f => unfold lzF; rw [if_pos (.inr rfl)]
        rw [e2] at e
        exact absurd (show (4 : Int) = 1 from e) (by decide)
    rw [if_neg hl]
    by_cases h0 : 0 < z.left
    · rw [if_pos h0]
      by_cases hr : room ≤ out.length
      · rw [if_pos hr]
        refine ⟨[], (List.append_nil _).symm, fun xs zf r o2 h => ?_, fun _ e => absurd (show (2 : Int) = 1 from e) (by decide)⟩
        rw [nz_on (show ¬ ((2 : Int) = 3 ∨ (2 : Int) = 4) by decide)] at h
        exact h
      · rw [if_neg hr]
        have hm := lzM_next ys.length ok hs h0
        obtain ⟨o, q1, q2, q3⟩ := lzF_go room f (lzNextS z) ys (out ++ [lzByte z]) (by omega) (ok.next (fun e => hs (.inr e)) h0) hy
        refine ⟨lzByte z :: o, by rw [q1, List.append_assoc]; rfl, fun xs zf r o2 h => ?_, q3⟩
        have k := q2 xs zf r o2 h
        rw [nz_on (show ¬ ((lzNextS z).st = 3 ∨ (lzNextS z).st = 4) from hs)] at k
        refine Gos.step (o1 := [lzByte z]) ?_ k
        unfold gS
        rw [if_neg not1, if_neg hn, if_neg hl, if_pos h0]
        rfl
    rw [if_neg h0]
    by_cases hp : z.h.length = z.plain
    · rw [if_pos hp]
      have he : lzEndV z = 3 ∨ lzEndV z = 4 := by unfold lzEndV; split <;> simp
      have hm := lzM_end z (lzEndV z) ys.length ys.length he z hs
      obtain ⟨o, q1, q2, q3⟩ := lzF_go room f { z with st := lzEndV z } ys out (by omega) (ok.set _ (by omega) (by omega) (fun e => hs (.inr e))) hy
      refine ⟨o, q1, fun xs zf r o2 h => ?_, fun _ e => ?_⟩
      · have k := q2 xs zf r o2 h
        rw [nz_off he] at k
        refine Gos.step (o1 := []) ?_ k
        unfold gS
        rw [if_neg not1, if_neg hn, if_neg hl, if_neg h0, if_pos hp]
        rfl
      · have e2 : lzF room f { z with st := lzEndV z } ys out = ({ z with st := lzEndV z }, ys, out) := by
          cases f with
          | zero => rfl
          | succ f => unfold lzF; rw [if_pos he]
        rw [e2] at e
        have e : lzEndV z = 1 := e
        omega
    rw [if_neg hp]
    have hst : (lzTakeS z).st = z.st := by unfold lzTakeS; split <;> rfl
    have hcm : lzTakeS { z with st := 1 } = { lzTakeS z with st := 1 } := by unfold lzTakeS; dsimp only; split <;> rfl
    have hcb : lzTakeB { z with st := 1 } = lzTakeB z := rfl
    by_cases ht : lzTakeB z = true
    · rw [if_pos ht]
      have hm := lzM_take ys.length ok hs h0 ht
      obtain ⟨o, q1, q2, q3⟩ := lzF_go room f (lzTakeS z) ys out (by omega) (ok.take h0 ht) hy
      refine ⟨o, q1, fun xs zf r o2 h => ?_, fun _ => q3 (by rw [hst]; exact hs)⟩
      have k := q2 xs zf r o2 h
      rw [nz_on (by rw [hst]; exact hs), ← hcm] at k
      refine Gos.step (o1 := []) ?_ k
      unfold gS
      rw [if_neg not1, if_neg hn, if_neg hl, if_neg h0, if_neg hp, hcb, if_pos ht]
    · rw [if_neg ht]
      have hm := lzM_end z 4 ys.length ys.length (.inr rfl) (lzTakeS z) hs
      obtain ⟨o, q1, q2, q3⟩ := lzF_go room f { lzTakeS z with st := 4 } ys out (Nat.lt_of_lt_of_le hm (Nat.le_of_lt_succ hM)) ok.fail hy
      refine ⟨o, q1, fun xs zf r o2 h => ?_, fun _ e => ?_⟩
      · have k := q2 xs zf r o2 h
        rw [nz_off (.inr rfl)] at k
        refine Gos.step (o1 := []) ?_ k
        unfold gS
        rw [if_neg not1, if_neg hn, if_neg hl, if_neg h0, if_neg hp, hcb, if_neg ht, hcm]
      · have e2 : lzF room f { lzTakeS z with st := 4 } ys out = ({ lzTakeS z with st := 4 }, ys, out) := by
          cases f with
          | zero => rfl
          | succ f => unfold lzF; rw [if_pos (.inr rfl)]
        rw [e2] at e
        exact absurd (show (4 : Int) = 1 from e) (by decide)

theorem go_eat : ∀ (n : Nat) (z : LzS) (zs : List Int), z.st = 1 → z.d.n.toNat = n → n ≤ zs.length → ∀ zf r o, Gos { z with d := dEat z.d (zs.take n) } (zs.drop n) zf r o → Gos z zs zf r o
  | 0, z, zs, _, _, _, zf, r, o, h => h
  | n + 1, z, [], _, _, hl, _, _, _, _ => absurd hl (Nat.not_succ_le_zero n)
  | n + 1, z, y :: ys, hs, hn, hl, zf, r, o, h => by
    have hnd : dNeedB z.d = true := decide_eq_true (by omega)
    have e : (dByteS z.d y).n = z.d.n - 1 := by unfold dByteS; rw [if_pos (by omega)]
    refine Gos.step (o1 := []) (z' := { z with d := dByteS z.d y }) (ys' := ys) ?_ (go_eat n { z with d := dByteS z.d y } ys hs (by show (dByteS z.d y).n.toNat = n; rw [e]; omega) (by simpa using hl) zf r o h)
    unfold gS
    rw [if_neg (by rw [hs]; decide), if_pos hnd]
/-- A fed decoder neither needs nor is lost. -/
theorem fed_ok {d : DSt} (hn : d.n = 0) (hc : d.c < d.w) : dNeedB d = false ∧ dLostB d = false := ⟨decide_eq_false (by omega), decide_eq_false (by omega)⟩
theorem gS_take {z : LzS} {ys : List Int} (hs : z.st = 1) (hn : z.d.n = 0) (hc : z.d.c < z.d.w) (hl : ¬ 0 < z.left) (hp : z.h.length ≠ z.plain) (ht : lzTakeB z = true) : gS z ys = some (lzTakeS z, ys, []) := by
  obtain ⟨a, b⟩ := fed_ok hn hc
  unfold gS
  rw [if_neg (by rw [hs]; decide), if_neg (by rw [a]; decide), if_neg (by rw [b]; decide), if_neg hl, if_neg hp, if_pos ht]
theorem gS_next {z : LzS} {ys : List Int} (hs : z.st = 1) (hn : z.d.n = 0) (hc : z.d.c < z.d.w) (hl : 0 < z.left) : gS z ys = some (lzNextS z, ys, [lzByte z]) := by
  obtain ⟨a, b⟩ := fed_ok hn hc
  unfold gS
  rw [if_neg (by rw [hs]; decide), if_neg (by rw [a]; decide), if_neg (by rw [b]; decide), if_pos hl]
theorem go_tok (plain : Nat) (F : CSt) (okF : COk F) (h : List Int) : ∀ (N i : Nat) (s : RdS) (t : Tok) (c : CSt) (j : Nat) (d : DSt) (t1 : Tok) (l : Int), lft i s ≤ N → Mid i s t → ROk s → PP s.m → BG F c j d →
    Within (cont i s c t).1 F → h.length ≠ plain → ¬ 0 < l → mayT t h.length = true → longT t ≤ (plain : Int) - h.length →
    ∃ j' d', BG F (cont i s c t).1 j' d' ∧ ROk ⟨(cont i s c t).2, 0, 1, t⟩ ∧ PP (cont i s c t).2 ∧
      ∀ zf r o, Gos ⟨d', ⟨(cont i s c t).2, 0, 1, t⟩, h, plain, t, longT t, 1⟩ (F.l.drop j') zf r o → Gos ⟨d, s, h, plain, t1, l, 1⟩ (F.l.drop j) zf r o
  | 0, i, s, t, c, j, d, t1, l, hN, hm, hr, hp, hb, wi, h1, hl0, h2, h3 => by
    rcases mid_next hm c (rP_nz hr hp) with ⟨-, i', -, -, hl⟩ | ⟨-, -, -, hl⟩
    · exact absurd hl (by omega)
    · exact absurd hl (by omega)
  | N + 1, i, s, t, c, j, d, t1, l, hN, hm, hr, hp, hg, wi, h1, hl0, h2, h3 => by
    obtain ⟨b, hb⟩ := bI_01 (nb_01 i s t)
    have nz := rP_nz hr hp
    have r1 := ROk.stepB (nb_01 i s t) hr hp
    have p1 := hp.step (s := s) (nb i s t)
    have hc := hg.rel.ok
    have c1 := (cStep_steps hc (rQ s) b).1
    have wc := (cont_ok _ i s t c (Nat.le_refl _) hm hr hp hc).2.1
    obtain ⟨J, hJ, fed, hle, rel, n0, clt, hj⟩ := hg.feed okF (wc.trans wi)
    obtain ⟨dd, hdd⟩ : ∃ x, dEat d ((F.l.drop j).take d.n.toNat) = x := ⟨_, rfl⟩
    rw [hJ, hdd] at rel n0 clt
    rw [hJ] at hj hle
    have may : dMayB dd = true := decide_eq_true ⟨n0, clt⟩
    obtain ⟨q1, q2, q3, q4⟩ := rNext_step s dd may nz
    have eat : ∀ zf r o, Gos ⟨dd, s, h, plain, t1, l, 1⟩ (F.l.drop (j + d.n.toNat)) zf r o → Gos ⟨d, s, h, plain, t1, l, 1⟩ (F.l.drop j) zf r o := fun zf r o k => by
      refine go_eat d.n.toNat ⟨d, s, h, plain, t1, l, 1⟩ (F.l.drop j) rfl rfl (by rw [List.length_drop]; omega) zf r o ?_
      rw [List.drop_drop]
      show Gos ⟨dEat d ((F.l.drop j).take d.n.toNat), s, h, plain, t1, l, 1⟩ _ zf r o
      rw [hdd]
      exact k
    rcases mid_next hm c nz with ⟨e0, i', hm', e, hl⟩ | ⟨e0, e1, e2, hl⟩
    · rw [hb] at e0 e hm' hl r1 p1
      have wi2 : Within (cStep c (rQ s) (bI b)) F := by
        have := (cont_ok _ i' _ t (cStep c (rQ s) (bI b)) (Nat.le_refl _) hm' r1 p1 c1).2.1
        rw [← e] at this
        exact this.trans wi
      obtain ⟨b1, b2⟩ := BG.bit okF (rQ s) b wi2 hj hle rel n0 clt
      rw [q1, b1] at q3 q4
      rw [e0] at q4
      rw [e] at wi ⊢
      obtain ⟨j', d', g, ro, pp, hf⟩ := go_tok plain F okF h N i' _ t _ _ _ t1 l (by omega) hm' r1 p1 b2 wi h1 hl0 h2 h3
      refine ⟨j', d', g, ro, pp, fun zf r o k => eat zf r o (Gos.step (o1 := []) (gS_take rfl n0 clt hl0 h1 ?_) ?_)⟩
      · show (!rTok s dd || _) = true
        rw [q4]; rfl
      · have e5 : lzTakeS ⟨dd, s, h, plain, t1, l, 1⟩ = ⟨dStepS dd (rQ s), rStep s (bI b), h, plain, t1, l, 1⟩ := by
          unfold lzTakeS
          dsimp only
          rw [q4, if_neg (by decide), q3, q2]
        rw [e5]
        exact hf zf r o k
    · rw [hb] at e0 e1 e2 r1 p1
      rw [e2] at wi ⊢
      obtain ⟨b1, b2⟩ := BG.bit okF (rQ s) b wi hj hle rel n0 clt
      rw [q1, b1] at q3 q4
      rw [e0] at q4
      rw [e1] at q3 r1 p1
      refine ⟨_, _, b2, r1, p1, fun zf r o k => eat zf r o (Gos.step (o1 := []) (gS_take rfl n0 clt hl0 h1 ?_) ?_)⟩
      · show (!rTok s dd || (mayT (rNext s dd).t h.length && decide (longT (rNext s dd).t ≤ (plain : Int) - h.length))) = true
        rw [q3, h2, decide_eq_true h3]
        simp
      · have e5 : lzTakeS ⟨dd, s, h, plain, t1, l, 1⟩ = ⟨dStepS dd (rQ s), ⟨(cont i s c t).2, 0, 1, t⟩, h, plain, t, longT t, 1⟩ := by
          unfold lzTakeS
          dsimp only
          rw [q4, if_pos rfl, q3, q2]
        rw [e5]
        exact k
theorem go_make (d : DSt) (s : RdS) (plain : Nat) (t : Tok) (hn : d.n = 0) (hc : d.c < d.w) (h1 : 0 < t.n) (h2 : 1 ≤ t.d) (h4 : t.d ≤ 4096) : ∀ (k : Nat) (h : List Int), t.d ≤ h.length →
    ∃ X, copyT t.d.toNat k h = h ++ X ∧ ∀ ys zf r o, Gos ⟨d, s, h ++ X, plain, t, 0, 1⟩ ys zf r o → Gos ⟨d, s, h, plain, t, (k : Int), 1⟩ ys zf r (X ++ o)
  | 0, h, _ => ⟨[], by rw [List.append_nil]; rfl, fun ys zf r o k => by rw [List.append_nil] at k; exact k⟩
  | k + 1, h, hd => by
    have eb : lzByte ⟨d, s, h, plain, t, ((k + 1 : Nat) : Int), 1⟩ = h.getD (h.length - t.d.toNat) 0 := by
      unfold lzByte
      rw [if_pos h1]
      unfold backV
      exact if_pos ⟨h2, by show t.d ≤ min (h.length : Int) 4096; omega⟩
    obtain ⟨X, e, q⟩ := go_make d s plain t hn hc h1 h2 h4 k (h ++ [h.getD (h.length - t.d.toNat) 0]) (by rw [List.length_append, List.length_singleton]; omega)
    refine ⟨h.getD (h.length - t.d.toNat) 0 :: X, ?_, fun ys zf r o g => ?_⟩
    · show copyT t.d.toNat k (h ++ [h.getD (h.length - t.d.toNat) 0]) = _
      rw [e, List.append_assoc]; rfl
    · have g2 := q ys zf r o (by rw [List.append_assoc]; exact g)
      have st := gS_next (z := ⟨d, s, h, plain, t, ((k + 1 : Nat) : Int), 1⟩) (ys := ys) rfl hn hc (by show (0 : Int) < ((k + 1 : Nat) : Int); omega)
      rw [eb] at st
      refine Gos.step (o1 := [h.getD (h.length - t.d.toNat) 0]) st ?_
      have e6 : lzNextS ⟨d, s, h, plain, t, ((k + 1 : Nat) : Int), 1⟩ = ⟨d, s, h ++ [h.getD (h.length - t.d.toNat) 0], plain, t, (k : Int), 1⟩ := by
        unfold lzNextS
        rw [eb]
        dsimp only
        rw [show (((k + 1 : Nat) : Int) - 1) = (k : Int) by omega]
      rw [e6]
      exact g2
theorem go_row (plain : Nat) (F : CSt) (okF : COk F) (hp8 : plain ≤ 8192) : ∀ (ts : List Tok) (c : CSt) (m : Ms) (t0 t1 : Tok) (j : Nat) (d : DSt) (h : List Int), (∀ t ∈ ts, TokWf t) → rightB ts h.length = true → madeT ts h.length = plain →
    ROk ⟨m, 0, 1, t0⟩ → PP m → BG F c j d → (eRow ts (c, m)).1 = F → ∃ zf X, plainT ts h = h ++ X ∧ zf.st = 3 ∧ Gos ⟨d, ⟨m, 0, 1, t0⟩, h, plain, t1, 0, 1⟩ (F.l.drop j) zf [] X
  | [], c, m, t0, t1, j, d, h, hw, h1, h2, hr, hp, hg, hF => by
    have hF : c = F := hF
    obtain ⟨J, hJ, fed, hle, rel, n0, clt, hj⟩ := hg.feed okF (by rw [hF]; exact Within.refl F)
    obtain ⟨dd, hdd⟩ : ∃ x, dEat d ((F.l.drop j).take d.n.toNat) = x := ⟨_, rfl⟩
    rw [hJ, hdd] at rel n0 clt
    rw [hJ] at hj hle
    have e : h.length = plain := by have : (h.length : Int) = plain := h2; omega
    have hz : dd.c = 0 := by
      have hn := rel.nm
      rw [n0, hF] at hn
      rw [hF] at hj
      rw [hj, List.take_length] at hn
      have hn : num F.l = (num F.l - dd.c) * 256 ^ (0 : Nat) := hn
      simp at hn
      omega
    have cl : dCleanB dd = true := decide_eq_true ⟨n0, hz⟩
    obtain ⟨a, b⟩ := fed_ok n0 clt
    refine ⟨⟨dd, ⟨m, 0, 1, t0⟩, h, plain, t1, 0, 3⟩, [], (List.append_nil _).symm, rfl, ?_⟩
    refine go_eat d.n.toNat ⟨d, ⟨m, 0, 1, t0⟩, h, plain, t1, 0, 1⟩ (F.l.drop j) rfl rfl (by rw [List.length_drop]; omega) _ _ _ ?_
    rw [List.drop_drop]
    show Gos ⟨dEat d ((F.l.drop j).take d.n.toNat), ⟨m, 0, 1, t0⟩, h, plain, t1, 0, 1⟩ _ _ _ _
    have er : F.l.drop (j + d.n.toNat) = [] := List.drop_eq_nil_of_le (by rw [hF] at hj; omega)
    rw [hdd, er]
    refine Gos.step (o1 := []) (z' := ⟨dd, ⟨m, 0, 1, t0⟩, h, plain, t1, 0, 3⟩) (ys' := []) ?_ (Gos.stop (gS_trm (.inl rfl) _))
    unfold gS
    rw [if_neg not1, if_neg (by rw [a]; decide), if_neg (by rw [b]; decide), if_neg (show ¬ (0 : Int) < 0 by decide), if_pos e]
    have ev : lzEndV ⟨dd, ⟨m, 0, 1, t0⟩, h, plain, t1, 0, 1⟩ = 3 := if_pos cl
    rw [ev]
  | t :: ts, c, m, t0, t1, j, d, h, hw, h1, h2, hr, hp, hg, hF => by
    have tv := right_tv _ _ h1 hw
    obtain ⟨r1, r2, r3⟩ := rightB_cons h1
    obtain ⟨l1, l2⟩ := longT_pos r1
    have hm : Mid 1 ⟨m, 0, 1, t0⟩ t := Mid.kind m t0 t (tv t List.mem_cons_self)
    obtain ⟨c1, c2, c3, c4⟩ := cont_ok 21 1 ⟨m, 0, 1, t0⟩ t c (Nat.le_refl _) hm hr hp hg.rel.ok
    rw [cont_start] at c1 c2 c3 c4
    have hr2 : ROk ⟨(eTok c m t).2, 0, 1, t0⟩ := ⟨c3, hr.part, hr.n1, hr.n2, hr.d0, hr.d4, hr.wf⟩
    have wi : Within (eTok c m t).1 F := by rw [← hF]; exact (row_ok ts _ _ t0 (fun u hu => tv u (List.mem_cons_of_mem _ hu)) hr2 c4 c1).2
    have h2 : madeT ts (h.length + longT t) = plain := h2
    have hge : (h.length : Int) + longT t ≤ plain := by rw [← h2]; exact (madeT_le ts _ r3 (by omega)).1
    obtain ⟨j', d', g, ro, pp, hf⟩ := go_tok plain F okF h 21 1 ⟨m, 0, 1, t0⟩ t c j d t1 0 (Nat.le_refl _) hm hr hp hg (by rw [cont_start]; exact wi) (by omega) (by decide) r1 (by omega)
    rw [cont_start] at g ro pp hf
    obtain ⟨J, hJ, fed, hle, rel, n0, clt, hj⟩ := g.feed okF wi
    obtain ⟨dd, hdd⟩ : ∃ x, dEat d' ((F.l.drop j').take d'.n.toNat) = x := ⟨_, rfl⟩
    rw [hJ, hdd] at rel n0 clt
    rw [hJ] at hj hle
    have g2 : BG F (eTok c m t).1 (j' + d'.n.toNat) dd := ⟨rel, hle, by omega⟩
    have eat : ∀ zf r o, Gos ⟨dd, ⟨(eTok c m t).2, 0, 1, t⟩, h, plain, t, longT t, 1⟩ (F.l.drop (j' + d'.n.toNat)) zf r o → Gos ⟨d', ⟨(eTok c m t).2, 0, 1, t⟩, h, plain, t, longT t, 1⟩ (F.l.drop j') zf r o := fun zf r o k => by
      refine go_eat d'.n.toNat ⟨d', ⟨(eTok c m t).2, 0, 1, t⟩, h, plain, t, longT t, 1⟩ (F.l.drop j') rfl rfl (by rw [List.length_drop]; omega) zf r o ?_
      rw [List.drop_drop]
      show Gos ⟨dEat d' ((F.l.drop j').take d'.n.toNat), ⟨(eTok c m t).2, 0, 1, t⟩, h, plain, t, longT t, 1⟩ _ zf r o
      rw [hdd]
      exact k
    have wfs : ∀ x ∈ ts, TokWf x := fun x hx => hw x (List.mem_cons_of_mem _ hx)
    by_cases ht0 : t.n = 0
    · have hL : longT t = 1 := if_pos ht0
      have eb : lzByte ⟨dd, ⟨(eTok c m t).2, 0, 1, t⟩, h, plain, t, 1, 1⟩ = t.b := by unfold lzByte; exact if_neg (by show ¬ 0 < t.n; omega)
      have hlen : ((h ++ [t.b]).length : Int) = h.length + 1 := by rw [List.length_append, List.length_singleton]; omega
      rw [hL] at r3 h2 hf eat
      obtain ⟨zf, X, e1, e2, e3⟩ := go_row plain F okF hp8 ts (eTok c m t).1 (eTok c m t).2 t t (j' + d'.n.toNat) dd (h ++ [t.b]) wfs (by rw [hlen]; exact r3) (by rw [hlen]; exact h2) ro pp g2 hF
      refine ⟨zf, t.b :: X, ?_, e2, hf zf [] (t.b :: X) (eat zf [] (t.b :: X) ?_)⟩
      · show plainT ts (stepT t h) = _
        unfold stepT
        rw [if_pos ht0, e1, List.append_assoc]; rfl
      · have st := gS_next (z := ⟨dd, ⟨(eTok c m t).2, 0, 1, t⟩, h, plain, t, 1, 1⟩) (ys := F.l.drop (j' + d'.n.toNat)) rfl n0 clt (by show (0 : Int) < 1; decide)
        rw [eb] at st
        refine Gos.step (o1 := [t.b]) st ?_
        have e6 : lzNextS ⟨dd, ⟨(eTok c m t).2, 0, 1, t⟩, h, plain, t, 1, 1⟩ = ⟨dd, ⟨(eTok c m t).2, 0, 1, t⟩, h ++ [t.b], plain, t, 0, 1⟩ := by
          unfold lzNextS
          rw [eb]
          rfl
        rw [e6]
        exact e3
    · obtain ⟨-, k2, k3, k4, k5, k6⟩ := mayT_copy r1 ht0
      have hL : longT t = t.n := if_neg ht0
      obtain ⟨n, hn⟩ : ∃ n : Nat, t.n = n := ⟨t.n.toNat, by omega⟩
      rw [hL, hn] at r3 h2 hf eat
      obtain ⟨X1, q1, q2⟩ := go_make dd ⟨(eTok c m t).2, 0, 1, t⟩ plain t n0 clt (by omega) k4 k5 n h k6
      have hlen : ((h ++ X1).length : Int) = h.length + n := by rw [← q1, copyT_len]; omega
      obtain ⟨zf, X, e1, e2, e3⟩ := go_row plain F okF hp8 ts (eTok c m t).1 (eTok c m t).2 t t (j' + d'.n.toNat) dd (h ++ X1) wfs (by rw [hlen]; exact r3) (by rw [hlen]; exact h2) ro pp g2 hF
      refine ⟨zf, X1 ++ X, ?_, e2, hf zf [] (X1 ++ X) (eat zf [] (X1 ++ X) (q2 _ zf [] X e3))⟩
      show plainT ts (stepT t h) = _
      unfold stepT
      rw [if_neg ht0, hn, Int.toNat_natCast, q1, e1, List.append_assoc]
theorem go_pack {ts : List Tok} (h : rightB ts 0 = true) (hw : ∀ t ∈ ts, TokWf t) : ∃ zf, zf.st = 3 ∧ Gos (lz0 (plainL ts).length) (packL ts) zf [] (plainL ts) := by
  obtain ⟨p, hp⟩ : ∃ p : Nat, madeT ts 0 = p := ⟨(madeT ts 0).toNat, by have := (madeT_le ts 0 h (by decide)).1; omega⟩
  have h8 := (madeT_le ts 0 h (by decide)).2
  have e : packL ts = (eRow ts (cst0, ms0)).1.l := if_pos h
  obtain ⟨F, hF⟩ : ∃ F, (eRow ts (cst0, ms0)).1 = F := ⟨_, rfl⟩
  have r0 : ROk ⟨ms0, 0, 1, ⟨0, 0, 0⟩⟩ := ROk.start
  have okF : COk F := by rw [← hF]; exact (row_ok ts cst0 ms0 ⟨0, 0, 0⟩ (right_tv ts 0 h hw) r0 PP.start COk.start).1
  have g : BG F cst0 0 dst0 := ⟨DRel.start, Nat.zero_le _, by have := okF.len; show (4 : Int) ≤ _; omega⟩
  have pl : (plainL ts).length = p := by have := plainL_len h; omega
  obtain ⟨zf, X, e1, e2, e3⟩ := go_row p F okF (by omega) ts cst0 ms0 ⟨0, 0, 0⟩ ⟨0, 0, 0⟩ 0 dst0 [] hw h hp r0 PP.start g hF
  refine ⟨zf, e2, ?_⟩
  rw [pl, e, hF, right_out h, e1]
  exact e3
end Go.Proofs.Ytggjdkkobhefeaa
