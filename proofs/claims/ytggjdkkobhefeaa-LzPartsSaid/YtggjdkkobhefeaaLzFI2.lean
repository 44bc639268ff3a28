/- Where lzlite is Done, what was taken is packed from tokens that make what it told. -/
import Derived.Test.YtggjdkkobhefeaaLzFI
namespace Go.Proofs.Ytggjdkkobhefeaa
open Go.RowKit

/-- Within a token: the coder so far, and what is learned. -/
def PFI (c0 : CSt) (m0 : Ms) (s : RdS) (c : CSt) : Prop := ∃ i, (∃ t, Mid i s t) ∧ ∀ t, Mid i s t → eTok c0 m0 t = cont i s c t
theorem PFI.start (c0 : CSt) (m0 : Ms) (t0 : Tok) : PFI c0 m0 ⟨m0, 0, 1, t0⟩ c0 :=
  ⟨1, ⟨_, Mid.kind m0 t0 ⟨0, 0, ((0 : Nat) : Int)⟩ (.inl ⟨0, by decide, rfl⟩)⟩, fun t h => by
    obtain ⟨x, -⟩ : ∃ x, x = t := ⟨_, rfl⟩
    rfl⟩
theorem PFI.step {c0 : CSt} {m0 : Ms} {s : RdS} {c : CSt} {b : Int} (hb : b = 0 ∨ b = 1) (h : PFI c0 m0 s c) (nz : s.part ≠ 4 → rP s ≠ 0) :
    (rTokB s b = false ∧ PFI c0 m0 (rStep s b) (cStep c (rQ s) b)) ∨ (rTokB s b = true ∧ ∃ t m', TV t ∧ rStep s b = ⟨m', 0, 1, t⟩ ∧ eTok c0 m0 t = (cStep c (rQ s) b, m')) := by
  obtain ⟨i, ⟨t0, h0⟩, hall⟩ := h
  obtain ⟨t, ht, hnb⟩ := mid_pick h0 hb
  subst hnb
  rcases mid_next ht c nz with ⟨e0, i', hm', e, hl⟩ | ⟨e0, e1, e2, hl⟩
  · refine .inl ⟨e0, i', ⟨t, hm'⟩, fun u hu => ?_⟩
    obtain ⟨ku, knb⟩ := mid_all ht e0 hm' hu
    rw [hall u ku]
    rcases mid_next ku c nz with ⟨f0, i2, hm2, f, -⟩ | ⟨f0, -⟩
    · rw [knb] at hm2 f
      obtain rfl : i2 = i' := mid_uniq hm2 hu
      exact f
    · rw [knb, e0] at f0; cases f0
  · refine .inr ⟨e0, t, (cont i s c t).2, mid_tv ht, e1, ?_⟩
    rw [hall t ht, ← e2]
theorem tv_wf {t : Tok} (h : TV t) : TokWf t := by
  rcases h with ⟨b, hb, rfl⟩ | ⟨a, e, ha, he, rfl⟩
  · exact ⟨show (-9223372036854775808 : Int) ≤ 0 by decide, show (0 : Int) ≤ 9223372036854775807 by decide, show (-9223372036854775808 : Int) ≤ 0 by decide, show (0 : Int) ≤ 9223372036854775807 by decide, by show (0 : Int) ≤ (b : Int); omega, by show (b : Int) ≤ 255; omega⟩
  · exact ⟨by show -9223372036854775808 ≤ (a : Int) + 2; omega, by show (a : Int) + 2 ≤ 9223372036854775807; omega, by show -9223372036854775808 ≤ (e : Int) + 1; omega, by show (e : Int) + 1 ≤ 9223372036854775807; omega, show (0 : Int) ≤ 0 by decide, show (0 : Int) ≤ 255 by decide⟩
/-- What stays true of lzlite that has taken the first k bytes of b. -/
structure LzI (b : List Int) (plain : Nat) (z : LzS) (k : Nat) (ts : List Tok) (c : CSt) : Prop where
  st : z.st = 1
  pl : z.plain = plain
  p8 : plain ≤ 8192
  kl : k ≤ b.length
  rel : DRel c z.d (b.take k)
  right : rightB ts 0 = true
  wf : ∀ t ∈ ts, TokWf t
  rok : ROk z.s
  pp : PP z.s.m
  l0 : 0 ≤ z.left
  made : madeT ts 0 = (z.h.length : Int) + z.left
  fit : madeT ts 0 ≤ plain
  lit : 0 < z.left → z.t.n = 0 → z.left = 1 ∧ plainT ts [] = z.h ++ [z.t.b]
  cop : 0 < z.left → z.t.n ≠ 0 → 0 < z.t.n ∧ 1 ≤ z.t.d ∧ z.t.d ≤ 4096 ∧ z.t.d ≤ z.h.length ∧ plainT ts [] = copyT z.t.d.toNat z.left.toNat z.h
  all : z.left = 0 → plainT ts [] = z.h
  at_ : (∃ t0, z.s = ⟨(eRow ts (cst0, ms0)).2, 0, 1, t0⟩ ∧ c = (eRow ts (cst0, ms0)).1) ∨ (z.left = 0 ∧ z.h.length < plain ∧ PFI (eRow ts (cst0, ms0)).1 (eRow ts (cst0, ms0)).2 z.s c)
theorem LzI.start (b : List Int) (plain : Nat) (h : plain ≤ 8192) : LzI b plain (lz0 plain) 0 [] cst0 :=
  ⟨rfl, rfl, h, Nat.zero_le _, DRel.start, rfl, (fun t h => by cases h), ROk.start, PP.start, Int.le_refl _, rfl, by show (0 : Int) ≤ _; omega, fun h => absurd (show (0 : Int) < 0 from h) (by decide), fun h => absurd (show (0 : Int) < 0 from h) (by decide), fun _ => rfl, .inl ⟨⟨0, 0, 0⟩, rfl, rfl⟩⟩
theorem LzI.pfi {b : List Int} {plain : Nat} {z : LzS} {k : Nat} {ts : List Tok} {c : CSt} (h : LzI b plain z k ts c) : PFI (eRow ts (cst0, ms0)).1 (eRow ts (cst0, ms0)).2 z.s c := by
  rcases h.at_ with ⟨t0, e1, e2⟩ | ⟨-, -, q⟩
  · rw [e1, e2]; exact PFI.start _ _ _
  · exact q
theorem eRow_snoc (a : List Tok) (t : Tok) : ∀ x : CSt × Ms, eRow (a ++ [t]) x = eTok (eRow a x).1 (eRow a x).2 t := by
  induction a with
  | nil => intro x; rfl
  | cons u a ih => intro x; exact ih (eTok x.1 x.2 u)
/-- Done: k' bytes were taken, packed from ts, which make it all. -/
theorem LzI.done {b : List Int} {plain : Nat} (hb : ∀ y ∈ b, 0 ≤ y ∧ y ≤ 255) {z zf : LzS} {ys r o : List Int} (g : Gos z ys zf r o) : ∀ {k : Nat} {ts : List Tok} {c : CSt}, LzI b plain z k ts c → ys = b.drop k → zf.st = 3 →
    ∃ k' ts', k' ≤ b.length ∧ r = b.drop k' ∧ rightB ts' 0 = true ∧ (∀ t ∈ ts', TokWf t) ∧ packL ts' = b.take k' ∧ plainL ts' = z.h ++ o ∧ madeT ts' 0 = plain := by
  induction g with
  | stop hn => intro k ts c h _ hf; rw [h.st] at hf; exact absurd hf (by decide)
  | @step z z' zf ys ys' r o1 o hs g ih =>
    intro k ts c h hy hf
    have hst := h.st
    unfold gS at hs
    rw [if_neg (by rw [hst]; decide)] at hs
    by_cases hn : dNeedB z.d = true
    · rw [if_pos hn] at hs
      cases ys with
      | nil => cases hs
      | cons y ys2 =>
        cases hs
        have hk : k < b.length := by
          rcases Nat.lt_or_ge k b.length with q | q
          · exact q
          · rw [List.drop_eq_nil_of_le q] at hy; cases hy
        have e1 := List.drop_eq_getElem_cons hk
        rw [← hy] at e1
        obtain ⟨e2, e3⟩ := List.cons.inj e1
        have hyb : 0 ≤ y ∧ y ≤ 255 := by rw [e2]; exact hb _ (List.getElem_mem _)
        have et : b.take (k + 1) = b.take k ++ [y] := by rw [List.take_add_one, List.getElem?_eq_getElem hk, e2]; rfl
        exact ih (k := k + 1) (ts := ts) (c := c) ⟨h.st, h.pl, h.p8, hk, by rw [et]; exact h.rel.byte y hyb (of_decide_eq_true hn), h.right, h.wf, h.rok, h.pp, h.l0, h.made, h.fit, h.lit, h.cop, h.all, h.at_⟩ e3 hf
    rw [if_neg hn] at hs
    by_cases hl : dLostB z.d = true
    · rw [if_pos hl] at hs
      cases hs
      cases g with
      | stop _ => exact absurd (show (4 : Int) = 3 from hf) (by decide)
      | step hs2 _ => rw [gS_trm (.inr rfl)] at hs2; cases hs2
    rw [if_neg hl] at hs
    have n0 : z.d.n = 0 := by
      have := h.rel.n0
      have : ¬ 0 < z.d.n := fun q => hn (decide_eq_true q)
      omega
    have clt : z.d.c < z.d.w := by
      rcases Int.lt_or_le z.d.c z.d.w with q | q
      · exact q
      · exact absurd (decide_eq_true ⟨n0, q⟩) hl
    by_cases h0 : 0 < z.left
    · rw [if_pos h0] at hs
      cases hs
      have at1 : ∃ t0, z.s = ⟨(eRow ts (cst0, ms0)).2, 0, 1, t0⟩ ∧ c = (eRow ts (cst0, ms0)).1 := by
        rcases h.at_ with q | ⟨q, -⟩
        · exact q
        · omega
      have hlen : ((z.h ++ [lzByte z]).length : Int) = z.h.length + 1 := by rw [List.length_append, List.length_singleton]; omega
      have mm := h.made
      have key : plainT ts [] = copyT z.t.d.toNat (z.left - 1).toNat (z.h ++ [lzByte z]) ∧ (z.t.n ≠ 0 → 0 < z.t.n ∧ 1 ≤ z.t.d ∧ z.t.d ≤ 4096 ∧ z.t.d ≤ z.h.length) ∧ (z.t.n = 0 → z.left = 1) := by
        by_cases hz : z.t.n = 0
        · obtain ⟨q1, q2⟩ := h.lit h0 hz
          have eb : lzByte z = z.t.b := by unfold lzByte; exact if_neg (by omega)
          refine ⟨?_, fun q => absurd hz q, fun _ => q1⟩
          rw [eb, q1]
          exact q2
        · obtain ⟨q0, q1, q2, q3, q4⟩ := h.cop h0 hz
          have eb : lzByte z = z.h.getD (z.h.length - z.t.d.toNat) 0 := by
            unfold lzByte
            rw [if_pos q0]
            unfold backV
            exact if_pos ⟨q1, by omega⟩
          refine ⟨?_, fun _ => ⟨q0, q1, q2, q3⟩, fun q => absurd q hz⟩
          rw [q4, show z.left.toNat = (z.left - 1).toNat + 1 by omega, eb]
          rfl
      obtain ⟨key, kc, kl⟩ := key
      obtain ⟨k', ts', r1, r2, r3, r4, r5, r6, r7⟩ := ih (k := k) (ts := ts) (c := c) ⟨h.st, h.pl, h.p8, h.kl, h.rel, h.right, h.wf, h.rok, h.pp, by show 0 ≤ z.left - 1; omega, by rw [mm]; show _ = (((z.h ++ [lzByte z]).length : Nat) : Int) + (z.left - 1); omega, h.fit,
        fun hl2 hz => absurd (show 0 < z.left - 1 from hl2) (by have := kl hz; omega),
        fun hl2 hz => by obtain ⟨q0, q1, q2, q3⟩ := kc hz; exact ⟨q0, q1, q2, by show z.t.d ≤ (((z.h ++ [lzByte z]).length : Nat) : Int); omega, key⟩,
        fun hl2 => by have hl2 : z.left - 1 = 0 := hl2; rw [key, hl2]; rfl, .inl at1⟩ hy hf
      refine ⟨k', ts', r1, r2, r3, r4, r5, ?_, r7⟩
      rw [r6]
      show (z.h ++ [lzByte z]) ++ o = z.h ++ ([lzByte z] ++ o)
      rw [List.append_assoc]
    rw [if_neg h0] at hs
    have l0 : z.left = 0 := by have := h.l0; omega
    by_cases hp : z.h.length = z.plain
    · rw [if_pos hp] at hs
      cases hs
      cases g with
      | step hs2 _ => rw [gS_trm (by show lzEndV z = 3 ∨ lzEndV z = 4; unfold lzEndV; split <;> simp)] at hs2; cases hs2
      | stop _ =>
        have hcl : dCleanB z.d = true := by
          have hf : lzEndV z = 3 := hf
          unfold lzEndV at hf
          split at hf
          · assumption
          · exact absurd hf (by decide)
        have hc0 : z.d.c = 0 := (of_decide_eq_true hcl).2
        obtain ⟨t0, e1, e2⟩ : ∃ t0, z.s = ⟨(eRow ts (cst0, ms0)).2, 0, 1, t0⟩ ∧ c = (eRow ts (cst0, ms0)).1 := by
          rcases h.at_ with q | ⟨-, q, -⟩
          · exact q
          · have := h.pl; omega
        have cl := (h.rel.clean n0 (fun y hy => hb y (List.mem_of_mem_take hy))).2.1 hc0
        refine ⟨k, ts, h.kl, hy, h.right, h.wf, ?_, ?_, ?_⟩
        · have e : packL ts = (eRow ts (cst0, ms0)).1.l := if_pos h.right
          rw [e, ← e2]; exact cl
        · rw [right_out h.right, h.all l0]; show z.h = z.h ++ ([] ++ []); simp
        · rw [h.made, l0, hp, h.pl]; omega
    rw [if_neg hp] at hs
    have nz := rP_nz h.rok h.pp
    obtain ⟨bb, hbb, -, hrel⟩ := h.rel.step (rQ z.s) n0 clt
    have may : dMayB z.d = true := decide_eq_true ⟨n0, clt⟩
    obtain ⟨q1, q2, q3, q4⟩ := rNext_step z.s z.d may nz
    rw [q1, hbb] at q3 q4
    have b01 : bI bb = 0 ∨ bI bb = 1 := by cases bb; exact .inl rfl; exact .inr rfl
    have ro := ROk.stepB b01 h.rok h.pp
    have pp := h.pp.step (s := z.s) (bI bb)
    have hmade : madeT ts 0 = (z.h.length : Int) := by rw [h.made, l0]; omega
    have hlt : z.h.length < plain := by
      have := h.fit
      rw [hmade] at this
      have := h.pl
      omega
    by_cases ht : lzTakeB z = true
    · rw [if_pos ht] at hs
      cases hs
      rcases PFI.step b01 h.pfi nz with ⟨e0, pf⟩ | ⟨e0, t, m', tv, e1, e2⟩
      · have e5 : lzTakeS z = { z with s := rStep z.s (bI bb), d := dStepS z.d (rQ z.s) } := by
          unfold lzTakeS
          rw [q4, e0, if_neg (by decide), q3, q2]
        rw [e5] at ih
        exact ih (k := k) (ts := ts) (c := cStep c (rQ z.s) (bI bb)) ⟨h.st, h.pl, h.p8, h.kl, hrel, h.right, h.wf, ro, pp, h.l0, h.made, h.fit, fun hl2 => absurd hl2 h0, fun hl2 => absurd hl2 h0, h.all, .inr ⟨l0, hlt, pf⟩⟩ hy hf
      · have e5 : lzTakeS z = { z with s := ⟨m', 0, 1, t⟩, d := dStepS z.d (rQ z.s), t := t, left := longT t } := by
          unfold lzTakeS
          rw [q4, e0, if_pos rfl, q3, q2, e1]
        have hmay : mayT t z.h.length = true ∧ longT t ≤ (z.plain : Int) - z.h.length := by
          have ht2 := ht
          unfold lzTakeB at ht2
          rw [q4, e0, q3, e1] at ht2
          simpa using ht2
        obtain ⟨m1, m2⟩ := hmay
        obtain ⟨p1, p2⟩ := longT_pos m1
        rw [e1] at ro pp
        have eR : eRow (ts ++ [t]) (cst0, ms0) = (cStep c (rQ z.s) (bI bb), m') := by rw [eRow_snoc, e2]
        have hpl := h.pl
        have hp8 := h.p8
        have mk : LzI b plain { z with s := ⟨m', 0, 1, t⟩, d := dStepS z.d (rQ z.s), t := t, left := longT t } k (ts ++ [t]) (cStep c (rQ z.s) (bI bb)) := by
          refine ⟨h.st, h.pl, h.p8, h.kl, hrel, ?_, ?_, ro, pp, by show 0 ≤ longT t; omega, ?_, ?_, ?_, ?_, ?_, .inl ⟨t, by rw [eR], by rw [eR]⟩⟩
          · rw [rightB_append, h.right, hmade]
            unfold rightB
            rw [m1, decide_eq_true (by omega)]
            rfl
          · intro u hu
            rcases List.mem_append.1 hu with hu | hu
            · exact h.wf u hu
            · rw [List.mem_singleton.1 hu]; exact tv_wf tv
          · rw [madeT_append, hmade]; rfl
          · rw [madeT_append, hmade]; show (z.h.length : Int) + longT t ≤ _; omega
          · intro _ hz
            have hz : t.n = 0 := hz
            refine ⟨show longT t = 1 from if_pos hz, ?_⟩
            rw [plainT_append, h.all l0]
            show stepT t z.h = z.h ++ [t.b]
            unfold stepT
            rw [if_pos hz]
          · intro _ hz
            have hz : t.n ≠ 0 := hz
            obtain ⟨-, a2, a3, a4, a5, a6⟩ := mayT_copy m1 hz
            refine ⟨by show 0 < t.n; omega, a4, a5, a6, ?_⟩
            rw [plainT_append, h.all l0]
            show stepT t z.h = copyT t.d.toNat (longT t).toNat z.h
            unfold stepT
            rw [if_neg hz, show longT t = t.n from if_neg hz]
          · intro hz
            have hz : longT t = 0 := hz
            omega
        rw [e5] at ih
        exact ih mk hy hf
    · rw [if_neg ht] at hs
      cases hs
      cases g with
      | stop _ => exact absurd (show (4 : Int) = 3 from hf) (by decide)
      | step hs2 _ => rw [gS_trm (.inr rfl)] at hs2; cases hs2

theorem readN_wf (plain : Nat) : ∀ (f : Nat) (s : RdS) (d : DSt) (zs : List Int) (md : Nat) (out l : List Tok), readN plain f s d zs md out = some l → ROk s → (∀ t ∈ out, TokWf t) → ∀ t ∈ l, TokWf t
  | 0, _, _, _, _, _, _, h, _, _ => by cases h
  | f + 1, s, d, zs, md, out, l, h, hr, ho => by
    unfold readN at h
    split at h
    · cases h
    split at h
    · cases h; exact ho
    split at h
    · split at h
      · refine readN_wf plain f _ _ _ _ _ l h (hr.next _) (fun t ht => ?_)
        rcases List.mem_append.1 ht with ht | ht
        · exact ho t ht
        · rw [List.mem_singleton.1 ht]; exact (hr.next _).wf
      · cases h
    · exact readN_wf plain f _ _ _ _ _ l h (hr.next _) ho
theorem unpF_wf {zs : List Int} {plain : Int} {l : List Tok} (h : unpF zs plain = (l, 0)) : ∀ t ∈ l, TokWf t := by
  unfold unpF at h
  split at h
  · cases h
  split at h
  · cases h
  rename_i l' hl'
  split at h
  · have e : l' = l := congrArg Prod.fst h
    rw [← e]
    exact readN_wf _ _ _ _ _ _ _ _ hl' ROk.start (fun t ht => by cases ht)
  · cases h
theorem judge_done {bs : List Int} {plain k : Nat} {zf : LzS} {o : List Int} (hb : ∀ y ∈ bs, 0 ≤ y ∧ y ≤ 255) (h8 : plain ≤ 8192) (hk : k ≤ bs.length) (g : Gos (lz0 plain) bs zf (bs.drop k) o) (hf : zf.st = 3) :
    ∃ ts, unpF (bs.take k) plain = (ts, 0) ∧ plainL ts = o := by
  obtain ⟨k', ts, h1, h2, h3, h4, h5, h6, h7⟩ := LzI.done hb g (LzI.start bs plain h8) rfl hf
  have e : k = k' := by
    have := congrArg List.length h2
    rw [List.length_drop, List.length_drop] at this
    omega
  subst e
  have h9 := unp_pack h3 h4
  have hp : ((plainL ts).length : Int) = plain := by rw [plainL_len h3, h7]
  rw [h5, hp] at h9
  exact ⟨ts, h9, by rw [h6]; rfl⟩
theorem judge_no {bs : List Int} {plain : Nat} {zf : LzS} {r o : List Int} (h8 : plain ≤ 8192) (g : Gos (lz0 plain) bs zf r o) (hf : zf.st ≠ 3) : unpF bs plain = ([], 11) := by
  rcases unpF_cases bs plain with ⟨-, h⟩ | ⟨h, -, -⟩ | ⟨l, h, -, -⟩
  · omega
  · exact h
  · exfalso
    obtain ⟨-, -, q1, q2, q3⟩ := unpF_ok h
    obtain ⟨z2, e1, e2⟩ := go_pack q1 (unpF_wf h)
    rw [q2, show (plainL l).length = plain by omega] at e2
    have := (g.det e2).1
    rw [this] at hf
    exact hf e1
theorem parts_full {ts : List Tok} (h : rightB ts 0 = true) (hw : ∀ t ∈ ts, TokWf t) {zf : LzS} {r o : List Int} (g : Gos (lz0 (plainL ts).length) (packL ts) zf r o) : zf.st = 3 ∧ r = [] ∧ o = plainL ts := by
  obtain ⟨z2, e1, e2⟩ := go_pack h hw
  obtain ⟨a, b, c⟩ := g.det e2
  exact ⟨by rw [a]; exact e1, b, c⟩
theorem parts_short {ts : List Tok} (h : rightB ts 0 = true) (hw : ∀ t ∈ ts, TokWf t) {k : Nat} (hk : k < (packL ts).length) {zf : LzS} {r o : List Int} (g : Gos (lz0 (plainL ts).length) ((packL ts).take k) zf r o) : ¬ (zf.st = 3 ∨ zf.st = 4) := by
  intro ht
  obtain ⟨z2, e1, e2⟩ := go_pack h hw
  have g2 := g.more ht ((packL ts).drop k)
  rw [List.take_append_drop] at g2
  have h3 := (g2.det e2).2.1
  have h4 := congrArg List.length h3
  rw [List.length_append, List.length_drop, List.length_nil] at h4
  omega
end Go.Proofs.Ytggjdkkobhefeaa
