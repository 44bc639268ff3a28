/- Both cursors in plain words go alike. -/
import Derived.Test.YtngofnlhbhfigaaRk5
namespace Go.Proofs.Ytngofnlhbhfigaa
open Go.RowKit

theorem Sim.gclear {s r : FS} (h : Sim s r) (f c : Nat) (k : Int) (hs : s.steps ≤ 1000000000000) : Sim (s.gclear f c k).1 (r.gclear f c k).1 ∧ (r.gclear f c k).2 = (s.gclear f c k).2 := by
  unfold FS.gclear
  rw [h.gblank]
  split
  · exact ⟨h, rfl⟩
  · exact h.gerase f c k hs
theorem prepF_clear {f c sector : Nat} {s : FS} {r : Nat} (h : r < c ∧ r ≤ sector + 1) : prepF f c sector (c - r) s r =
    if (s.gclear f c r).2 ≠ 0 then ((s.gclear f c r).1, r, (s.gclear f c r).2) else prepF f c sector (c - (r + 1)) (s.gclear f c r).1 (r + 1) := by
  rw [prepF_go h]
  unfold FS.gclear
  by_cases h1 : (s.gblank f c r).2 ≠ 0
  · rw [if_pos h1, if_pos (Or.inl h1), if_pos h1]
  · rw [if_neg h1]
    have h1' : (s.gblank f c r).2 = 0 := by simpa using h1
    by_cases h2 : (s.gblank f c r).1 = true
    · rw [if_pos h2, if_pos (Or.inr h2), if_neg h1]
    · have hn : ¬ ((s.gblank f c r).2 ≠ 0 ∨ (s.gblank f c r).1 = true) := fun h => h.elim h1 h2
      simp only [if_neg h2, if_neg hn]

/-- What is ready, in both: sectors from x0 on, below R. -/
structure Rdy (c x0 R : Nat) (k : RS) : Prop where
  rdy : ∀ x, x0 ≤ x → x < c → k.rdy.getD x false = decide (x < R)
  ent : ∀ x, x0 ≤ x → x < c → k.ent.getD x false = true → x + 2 ≤ R ∨ c ≤ R
  rc : R ≤ c
  rl : k.rdy.length = c + 1
  el : k.ent.length = c + 1
theorem set_getD_b (l : List Bool) (i j : Nat) (v : Bool) : (l.set i v).getD j false = if i = j ∧ j < l.length then v else l.getD j false := by
  simp only [List.getD, List.getElem?_set]
  by_cases h : i = j
  · subst h
    by_cases h2 : i < l.length
    · simp [h2]
    · simp [h2]
  · simp [h]
theorem Rdy.step {c x0 R : Nat} {k : RS} (h : Rdy c x0 R k) (hR : R < c) : Rdy c x0 (R + 1) { k with rdy := k.rdy.set R true } :=
  ⟨fun x h1 h2 => by
    show (k.rdy.set R true).getD x false = _
    rw [set_getD_b]
    by_cases e : R = x
    · subst e
      rw [if_pos ⟨rfl, by rw [h.rl]; omega⟩, decide_eq_true (by omega)]
    · rw [if_neg (fun hh => e hh.1), h.rdy x h1 h2]
      exact decide_eq_decide.2 ⟨fun _ => by omega, fun _ => by omega⟩, fun x h1 h2 h3 => by rcases h.ent x h1 h2 h3 with h | h <;> omega, by omega, by show (k.rdy.set R true).length = _; rw [List.length_set]; exact h.rl, h.el⟩
theorem rprep_no {f c : Nat} {s : FS} {k : RS} {x x0 R : Nat} (h : Rdy c x0 R k) (hx : x0 ≤ x) (hn : c ≤ x ∨ x < R) : rprep f c s k x = (s, k, 0) := by
  unfold rprep
  refine if_pos ?_
  by_cases hc : c ≤ x
  · exact .inl hc
  · exact .inr (by rw [h.rdy x hx (by omega)]; exact decide_eq_true (by omega))
theorem rprep_go {f c : Nat} {s : FS} {k : RS} {x x0 : Nat} (h : Rdy c x0 x k) (hx : x0 ≤ x) (hc : x < c) : rprep f c s k x = ((s.gclear f c x).1, if (s.gclear f c x).2 = 0 then { k with rdy := k.rdy.set x true } else k, (s.gclear f c x).2) := by
  unfold rprep
  exact if_neg (by rw [h.rdy x hx hc, decide_eq_false (by omega)]; simp; omega)
theorem Room.clear1 {f c : Nat} {s : FS} {m : Nat} (h : Room s (m + 1)) (x : Nat) : Room (s.gclear f c x).1 m := h.gclear x

/-- What the preparations leave, in both. -/
def Prepd (c x0 x R : Nat) (P : FS × Nat × Int) (Q : FS × RS × Int) (k : RS) : Prop :=
  Sim P.1 Q.1 ∧ Q.2.2 = P.2.2 ∧ (P.2.2 = 0 → R ≤ P.2.1 ∧ (x + 2 ≤ P.2.1 ∨ c ≤ P.2.1) ∧ Rdy c x0 P.2.1 Q.2.1 ∧ Q.2.1.ent = k.ent) ∧ Q.2.1.at_ = k.at_ ∧ Q.2.1.held = k.held
theorem second_sim {f c x0 x R : Nat} {s r : FS} {k : RS} (hs : Sim s r) (h : Rdy c x0 R k) (hx : x0 ≤ x) (hR : x + 1 ≤ R) (hst : s.steps ≤ 1000000000000) :
    Prepd c x0 x R (prepF f c x (c - R) s R) (rprep f c r k (x + 1)) k := by
  by_cases hg : R < c ∧ R ≤ x + 1
  · obtain rfl : R = x + 1 := by omega
    obtain ⟨h1, h2⟩ := hs.gclear f c ((x + 1 : Nat) : Int) hst
    rw [prepF_clear hg, rprep_go h (by omega) hg.1]
    by_cases he : (s.gclear f c ((x + 1 : Nat) : Int)).2 = 0
    · rw [if_neg (by simpa using he), prepF_stop (by omega)]
      refine ⟨h1, h2.trans he, fun _ => ⟨Nat.le_succ _, .inl (Nat.le_refl _), ?_, ?_⟩, ?_, ?_⟩
      · show Rdy c x0 (x + 1 + 1) (if _ then _ else _)
        rw [if_pos (h2.trans he)]; exact h.step hg.1
      · show (if _ then _ else _ : RS).ent = _
        rw [if_pos (h2.trans he)]
      · show (if _ then _ else _ : RS).at_ = _
        rw [if_pos (h2.trans he)]
      · show (if _ then _ else _ : RS).held = _
        rw [if_pos (h2.trans he)]
    · rw [if_pos he]
      refine ⟨h1, h2, fun h => absurd h he, ?_, ?_⟩
      · show (if _ then _ else _ : RS).at_ = _
        rw [if_neg (by rw [h2]; exact he)]
      · show (if _ then _ else _ : RS).held = _
        rw [if_neg (by rw [h2]; exact he)]
  · rw [prepF_stop hg, rprep_no h (by omega) (by have := h.rc; omega)]
    exact ⟨hs, rfl, fun _ => ⟨Nat.le_refl _, by have := h.rc; show x + 2 ≤ R ∨ c ≤ R; omega, h, rfl⟩, rfl, rfl⟩
theorem both_sim {f c x0 x R : Nat} {s r : FS} {k : RS} (hs : Sim s r) (h : Rdy c x0 R k) (hx : x0 ≤ x) (hxc : x < c) (hR : x ≤ R) (hr : Room s 8) :
    Prepd c x0 x R (prepF f c x (c - R) s R) (rboth f c r k x) k := by
  have hst := hr.st
  by_cases e : R = x
  · subst e
    obtain ⟨h1, h2⟩ := hs.gclear f c (R : Int) (by omega)
    have hst2 := (Room.gclear (f := f) (c := c) (m := 7) hr (R : Int)).st
    unfold rboth
    rw [prepF_clear ⟨hxc, by omega⟩, rprep_go h hx hxc]
    dsimp only
    by_cases he : (s.gclear f c (R : Int)).2 = 0
    · rw [if_pos (h2.trans he), if_neg (by simpa using he), if_pos (h2.trans he)]
      obtain ⟨g1, g2, g3, g4, g5⟩ := second_sim (f := f) (x := R) h1 (h.step hxc) hx (Nat.le_refl _) (by omega)
      exact ⟨g1, g2, fun hh => ⟨by have := (g3 hh).1; omega, (g3 hh).2.1, (g3 hh).2.2.1, (g3 hh).2.2.2⟩, g4, g5⟩
    · have hr2 : ¬ (r.gclear f c (R : Int)).2 = 0 := by rw [h2]; exact he
      simp only [if_neg hr2, if_pos (show (s.gclear f c (R : Int)).2 ≠ 0 from he)]
      exact ⟨h1, h2, fun h => absurd h he, rfl, rfl⟩
  · unfold rboth
    rw [rprep_no h hx (.inr (by omega)), if_pos rfl]
    exact second_sim hs h hx (by omega) (by omega)

/-- Both cursors. -/
structure CLive (c x0 : Nat) (k : KS) (kr : RS) : Prop where
  n : k.n < 8
  na : k.n ≤ k.at_
  al : (k.at_ - k.n) % 8 = 0
  lo : x0 ≤ (k.at_ - k.n) / 1024
  pos : (k.at_ - k.n) / 1024 ≤ k.ready
  rdy : Rdy c x0 k.ready kr
structure CSim (c : Nat) (k : KS) (kr : RS) : Prop where
  at_ : kr.at_ = k.at_
  held : kr.held = k.word.take k.n
  dead : kr.dead = k.err
  live : k.err = 0 → ∃ x0, CLive c x0 k kr
/-- The word. -/
theorem word_sim {f c x0 : Nat} {s r : FS} {k : KS} {kr : RS} {zs : List Int} (hs : Sim s r) (h : Rdy c x0 k.ready kr) (hl : x0 ≤ (k.at_ - k.n) / 1024) (hp : (k.at_ - k.n) / 1024 ≤ k.ready) (ha : k.at_ - k.n < 1024 * c) (hz : zs = k.full) (h8 : k.full.length = 8) (hc : c ≤ 256) (hr : Room s 264) :
    Sim (progK f c s k).1 (rword f c r kr (k.at_ - k.n) zs).1 ∧ (rword f c r kr (k.at_ - k.n) zs).2.2 = (progK f c s k).2.2 ∧
    ((progK f c s k).2.2 = 0 → Rdy c x0 (progK f c s k).2.1.ready (rword f c r kr (k.at_ - k.n) zs).2.1 ∧ ((k.at_ - k.n) / 1024 + 2 ≤ (progK f c s k).2.1.ready ∨ c ≤ (progK f c s k).2.1.ready)) := by
  subst hz
  obtain ⟨x, hx⟩ : ∃ x, (k.at_ - k.n) / 1024 = x := ⟨_, rfl⟩
  have hxc : x < c := by omega
  unfold progK rword
  rw [hx] at hl hp ⊢
  dsimp only
  have key : ∀ (Q : FS × RS × Int), Prepd c x0 x k.ready (prepF f c x (c - k.ready) s k.ready) Q kr → Room (prepF f c x (c - k.ready) s k.ready).1 8 → ∀ (k2 : RS), ((prepF f c x (c - k.ready) s k.ready).2.2 = 0 → Rdy c x0 (prepF f c x (c - k.ready) s k.ready).2.1 k2) →
      Sim (if (prepK f c x s k).2.2 ≠ 0 then ((prepK f c x s k).1, { (prepK f c x s k).2.1 with err := (prepK f c x s k).2.2 }, (prepK f c x s k).2.2) else (((prepK f c x s k).1.gprog f c (k.at_ - k.n : Nat) k.full).1, { (prepK f c x s k).2.1 with err := ((prepK f c x s k).1.gprog f c (k.at_ - k.n : Nat) k.full).2 }, ((prepK f c x s k).1.gprog f c (k.at_ - k.n : Nat) k.full).2) : FS × KS × Int).1 (if Q.2.2 ≠ 0 then Q else rprog f c Q.1 k2 (k.at_ - k.n) k.full).1 ∧
      (if Q.2.2 ≠ 0 then Q else rprog f c Q.1 k2 (k.at_ - k.n) k.full).2.2 = (if (prepK f c x s k).2.2 ≠ 0 then ((prepK f c x s k).1, { (prepK f c x s k).2.1 with err := (prepK f c x s k).2.2 }, (prepK f c x s k).2.2) else (((prepK f c x s k).1.gprog f c (k.at_ - k.n : Nat) k.full).1, { (prepK f c x s k).2.1 with err := ((prepK f c x s k).1.gprog f c (k.at_ - k.n : Nat) k.full).2 }, ((prepK f c x s k).1.gprog f c (k.at_ - k.n : Nat) k.full).2) : FS × KS × Int).2.2 ∧
      ((if (prepK f c x s k).2.2 ≠ 0 then ((prepK f c x s k).1, { (prepK f c x s k).2.1 with err := (prepK f c x s k).2.2 }, (prepK f c x s k).2.2) else (((prepK f c x s k).1.gprog f c (k.at_ - k.n : Nat) k.full).1, { (prepK f c x s k).2.1 with err := ((prepK f c x s k).1.gprog f c (k.at_ - k.n : Nat) k.full).2 }, ((prepK f c x s k).1.gprog f c (k.at_ - k.n : Nat) k.full).2) : FS × KS × Int).2.2 = 0 →
        Rdy c x0 (if (prepK f c x s k).2.2 ≠ 0 then ((prepK f c x s k).1, { (prepK f c x s k).2.1 with err := (prepK f c x s k).2.2 }, (prepK f c x s k).2.2) else (((prepK f c x s k).1.gprog f c (k.at_ - k.n : Nat) k.full).1, { (prepK f c x s k).2.1 with err := ((prepK f c x s k).1.gprog f c (k.at_ - k.n : Nat) k.full).2 }, ((prepK f c x s k).1.gprog f c (k.at_ - k.n : Nat) k.full).2) : FS × KS × Int).2.1.ready (if Q.2.2 ≠ 0 then Q else rprog f c Q.1 k2 (k.at_ - k.n) k.full).2.1 ∧
        (x + 2 ≤ (if (prepK f c x s k).2.2 ≠ 0 then ((prepK f c x s k).1, { (prepK f c x s k).2.1 with err := (prepK f c x s k).2.2 }, (prepK f c x s k).2.2) else (((prepK f c x s k).1.gprog f c (k.at_ - k.n : Nat) k.full).1, { (prepK f c x s k).2.1 with err := ((prepK f c x s k).1.gprog f c (k.at_ - k.n : Nat) k.full).2 }, ((prepK f c x s k).1.gprog f c (k.at_ - k.n : Nat) k.full).2) : FS × KS × Int).2.1.ready ∨ c ≤ (if (prepK f c x s k).2.2 ≠ 0 then ((prepK f c x s k).1, { (prepK f c x s k).2.1 with err := (prepK f c x s k).2.2 }, (prepK f c x s k).2.2) else (((prepK f c x s k).1.gprog f c (k.at_ - k.n : Nat) k.full).1, { (prepK f c x s k).2.1 with err := ((prepK f c x s k).1.gprog f c (k.at_ - k.n : Nat) k.full).2 }, ((prepK f c x s k).1.gprog f c (k.at_ - k.n : Nat) k.full).2) : FS × KS × Int).2.1.ready)) := by
    intro Q hP hRm k2 hk2
    obtain ⟨g1, g2, g3, -, -⟩ := hP
    unfold prepK
    dsimp only
    by_cases he : (prepF f c x (c - k.ready) s k.ready).2.2 = 0
    · have q0 : Q.2.2 = 0 := g2.trans he
      obtain ⟨u1, u2⟩ := g1.gprog f c ((k.at_ - k.n : Nat) : Int) k.full (by have := hRm.st; omega)
      rw [if_neg (by simpa using he), if_neg (by simpa using q0)]
      exact ⟨u1, u2, fun _ => ⟨hk2 he, (g3 he).2.1⟩⟩
    · have q0 : Q.2.2 ≠ 0 := by rw [g2]; exact he
      rw [if_pos he, if_pos q0]
      exact ⟨g1, g2, fun hh => absurd hh he⟩
  have hpr : Room (prepF f c x (c - k.ready) s k.ready).1 8 := by
    exact Room.prep (f := f) (c := c) (sector := x) (c - k.ready) s k.ready 8 (hr.less (by omega))
  by_cases hen : kr.ent.getD x false = true
  · have hstop : prepF f c x (c - k.ready) s k.ready = (s, k.ready, 0) := prepF_stop (by rcases h.ent x hl hxc hen with h | h <;> omega)
    rw [if_pos hen]
    have := key (r, kr, 0) (by rw [hstop]; exact ⟨hs, rfl, fun _ => ⟨Nat.le_refl _, h.ent x hl hxc hen, h, rfl⟩, rfl, rfl⟩) hpr kr (fun _ => by rw [hstop]; exact h)
    exact this
  · rw [if_neg hen]
    have hb := both_sim (f := f) hs h hl hxc hp (hr.less (by decide))
    exact key _ hb hpr _ (fun he => ⟨fun y h1 h2 => (hb.2.2.1 he).2.2.1.rdy y h1 h2, fun y h1 h2 h3 => by
      rw [set_getD_b] at h3
      by_cases e : x = y ∧ y < (rboth f c r kr x).2.1.ent.length
      · rw [← e.1]; exact (hb.2.2.1 he).2.1
      · rw [if_neg e] at h3; exact (hb.2.2.1 he).2.2.1.ent y h1 h2 h3, (hb.2.2.1 he).2.2.1.rc, (hb.2.2.1 he).2.2.1.rl, by show ((rboth f c r kr x).2.1.ent.set x true).length = _; rw [List.length_set]; exact (hb.2.2.1 he).2.2.1.el⟩)
end Go.Proofs.Ytngofnlhbhfigaa
