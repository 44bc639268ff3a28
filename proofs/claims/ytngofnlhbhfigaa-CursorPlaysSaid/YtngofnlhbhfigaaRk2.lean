/- The walks of the reference's cursor: word, Write. -/
import Derived.Test.YtngofnlhbhfigaaRk
import Derived.Test.YtngofnlhbhfigaaKc3
namespace Go.Proofs.Ytngofnlhbhfigaa
open Go.RowKit

def rput (f c : Nat) (s : FS) (k : RS) (z : Int) : FS × RS × Int :=
  if k.held.length + 1 = 8 then
    if (rword f c s { k with at_ := k.at_ + 1, held := k.held ++ [z] } (k.at_ + 1 - 8) (k.held ++ [z])).2.2 ≠ 0 then
      ((rword f c s { k with at_ := k.at_ + 1, held := k.held ++ [z] } (k.at_ + 1 - 8) (k.held ++ [z])).1, { (rword f c s { k with at_ := k.at_ + 1, held := k.held ++ [z] } (k.at_ + 1 - 8) (k.held ++ [z])).2.1 with dead := (rword f c s { k with at_ := k.at_ + 1, held := k.held ++ [z] } (k.at_ + 1 - 8) (k.held ++ [z])).2.2 }, (rword f c s { k with at_ := k.at_ + 1, held := k.held ++ [z] } (k.at_ + 1 - 8) (k.held ++ [z])).2.2)
    else ((rword f c s { k with at_ := k.at_ + 1, held := k.held ++ [z] } (k.at_ + 1 - 8) (k.held ++ [z])).1, { (rword f c s { k with at_ := k.at_ + 1, held := k.held ++ [z] } (k.at_ + 1 - 8) (k.held ++ [z])).2.1 with dead := 0, held := [] }, 0)
  else (s, { k with at_ := k.at_ + 1, held := k.held ++ [z] }, 0)
def rrow (f c : Nat) : List Int → FS → RS → FS × RS × Int
  | [], s, k => (s, k, 0)
  | z :: zs, s, k => if (rput f c s k z).2.2 ≠ 0 then rput f c s k z else rrow f c zs (rput f c s k z).1 (rput f c s k z).2.1
def rwrite (f c : Nat) (s : FS) (k : RS) (zs : List Int) : FS × RS × Int :=
  if k.dead ≠ 0 then (s, k, k.dead) else if 1024 * c - k.at_ < zs.length then (s, k, 2) else rrow f c zs s k
def rflush (f c : Nat) (s : FS) (k : RS) : FS × RS × Int :=
  if k.dead = 0 ∧ 0 < k.held.length then
    ((rword f c s k (k.at_ - k.held.length) (k.held ++ blankN ((8 - k.held.length : Nat) : Int))).1, { (rword f c s k (k.at_ - k.held.length) (k.held ++ blankN ((8 - k.held.length : Nat) : Int))).2.1 with dead := (rword f c s k (k.at_ - k.held.length) (k.held ++ blankN ((8 - k.held.length : Nat) : Int))).2.2 }, (rword f c s k (k.at_ - k.held.length) (k.held ++ blankN ((8 - k.held.length : Nat) : Int))).2.2)
  else (s, k, k.dead)

section
variable (f c : Nat) (s : FS) (k : RS)
theorem rprep_st (x : Nat) : (rprep f c s k x).2.1.at_ = k.at_ ∧ (rprep f c s k x).2.1.held = k.held ∧ (rprep f c s k x).2.1.dead = k.dead ∧ (rprep f c s k x).2.1.ent = k.ent := by
  unfold rprep
  split
  · exact ⟨rfl, rfl, rfl, rfl⟩
  · dsimp only
    split <;> exact ⟨rfl, rfl, rfl, rfl⟩
theorem rboth_st (x : Nat) : (rboth f c s k x).2.1.at_ = k.at_ ∧ (rboth f c s k x).2.1.held = k.held ∧ (rboth f c s k x).2.1.dead = k.dead ∧ (rboth f c s k x).2.1.ent = k.ent := by
  unfold rboth
  have h1 := rprep_st f c s k x
  split
  · have h2 := rprep_st f c (rprep f c s k x).1 (rprep f c s k x).2.1 (x + 1)
    exact ⟨h2.1.trans h1.1, h2.2.1.trans h1.2.1, h2.2.2.1.trans h1.2.2.1, h2.2.2.2.trans h1.2.2.2⟩
  · exact h1
theorem rword_st (a : Nat) (zs : List Int) : (rword f c s k a zs).2.1.at_ = k.at_ ∧ (rword f c s k a zs).2.1.held = k.held ∧ (rword f c s k a zs).2.1.dead = k.dead := by
  unfold rword rprog
  have h1 := rboth_st f c s k (a / 1024)
  split
  · exact ⟨rfl, rfl, rfl⟩
  · split
    · exact ⟨h1.1, h1.2.1, h1.2.2.1⟩
    · exact ⟨h1.1, h1.2.1, h1.2.2.1⟩
end
section
variable {f c : Nat} {s : FS} {k : RS} {m : Nat}
theorem Room.gclear (h : Room s (m + 1)) (x : Int) : Room (s.gclear f c x).1 m := by
  unfold FS.gclear
  split
  · exact h.less (by omega)
  · exact h.erase f c x
theorem Room.rprep (h : Room s (m + 1)) (x : Nat) : Room (rprep f c s k x).1 m := by
  unfold Go.Proofs.Ytngofnlhbhfigaa.rprep
  split
  · exact h.less (by omega)
  · exact h.gclear x
theorem Room.rboth (h : Room s (m + 2)) (x : Nat) : Room (rboth f c s k x).1 m := by
  unfold Go.Proofs.Ytngofnlhbhfigaa.rboth
  have h1 := Room.rprep (f := f) (c := c) (k := k) (m := m + 1) (h.less (by omega)) x
  split
  · exact h1.rprep (x + 1)
  · exact h1.less (by omega)
theorem Room.rword {zs : List Int} (h : Room s (m + 264)) (a : Nat) (hz : zs.length ≤ 8) : Room (rword f c s k a zs).1 m := by
  unfold Go.Proofs.Ytngofnlhbhfigaa.rword rprog
  have h1 := Room.rboth (f := f) (c := c) (k := k) (m := m + zs.length) (h.less (by omega)) (a / 1024)
  split
  · exact Room.prog (h.less (by omega)) f c a
  · split
    · exact h1.less (by omega)
    · exact h1.prog f c a
theorem Room.rput {z : Int} (h : Room s (m + 264)) (hn : k.held.length < 8) : Room (rput f c s k z).1 m := by
  unfold Go.Proofs.Ytngofnlhbhfigaa.rput
  split
  · have h1 := Room.rword (f := f) (c := c) (k := { k with at_ := k.at_ + 1, held := k.held ++ [z] }) (zs := k.held ++ [z]) h (k.at_ + 1 - 8) (by simp; omega)
    split
    · exact h1
    · exact h1
  · exact h.less (by omega)
theorem rput_st {z : Int} (h0 : k.dead = 0) (hn : k.held.length < 8) : (rput f c s k z).2.1.at_ = k.at_ + 1 ∧ (rput f c s k z).2.1.dead = (rput f c s k z).2.2 ∧ ((rput f c s k z).2.2 = 0 → (rput f c s k z).2.1.held.length < 8) := by
  unfold rput
  have h1 := rword_st f c s { k with at_ := k.at_ + 1, held := k.held ++ [z] } (k.at_ + 1 - 8) (k.held ++ [z])
  split
  · split
    · rename_i hne
      exact ⟨h1.1, rfl, fun h => absurd h hne⟩
    · exact ⟨h1.1, rfl, fun _ => by show 0 < 8; decide⟩
  · exact ⟨rfl, h0, fun _ => by show (k.held ++ [z]).length < 8; rw [List.length_append, List.length_singleton]; omega⟩
theorem rrow_cons (z : Int) (zs : List Int) (s : FS) (k : RS) : rrow f c (z :: zs) s k = if (rput f c s k z).2.2 ≠ 0 then rput f c s k z else rrow f c zs (rput f c s k z).1 (rput f c s k z).2.1 := rfl
end

/-- Bytes beside it. -/
structure RKB (w : World) (L : RL) (K : RKL) (A : Option Addr) (m cp : Nat) (zs : List Int) : Prop where
  bs : Bs w A m cp zs
  ap : ∀ b off, 0 < m → A = some ⟨b, off, none⟩ → ¬ L.O b ∧ ¬ K.X b
theorem RKB.rb {w : World} {L : RL} {K : RKL} {A : Option Addr} {m cp : Nat} {zs : List Int} (h : RKB w L K A m cp zs) : Rb w L A m cp zs := ⟨h.bs, fun b off h0 e => (h.ap b off h0 e).1⟩
theorem RKB.link {w w' : World} {L L' : RL} {K : RKL} {A : Option Addr} {m cp : Nat} {zs : List Int} (h : RKB w L K A m cp zs) (l : RKLink w w' L L' K) : RKB w' L' K A m cp zs :=
  ⟨h.bs.keeps l.keeps (fun b off h0 _ e hj => hj.elim (h.ap b off h0 e).1 (h.ap b off h0 e).2), fun b off h0 e => ⟨fun hO => (l.o b hO).elim (h.ap b off h0 e).1 (fun hc => by
    obtain ⟨b', off', e', hb, _⟩ := h.bs.at_ h0
    rw [e] at e'; cases e'; omega), (h.ap b off h0 e).2⟩⟩
theorem RKAt.hb {w : World} {B : Nat} {L : RL} {s : FS} {K : RKL} {q f c : Nat} {k : RS} (h : RKAt w B L s K q f c k) : RKB w L K K.A k.held.length K.cap k.held := ⟨h.held, fun b off h0 e => ⟨(h.hap b off h0 e).1, (h.hap b off h0 e).2.1⟩⟩
theorem RKAt.recell {w w' : World} {B : Nat} {L : RL} {s : FS} {cb rb eb : Nat} {A A' : Option Addr} {cap cap' : Nat} {q f c : Nat} {k k' : RS} (h : RKAt w B L s ⟨cb, rb, eb, A, cap⟩ q f c k) (hk : Keeps (fun j => j = cb) w w') (hb : Blk w' cb (rkcells ⟨cb, rb, eb, A', cap'⟩ q f c k') 92) (r1 : k'.rdy = k.rdy) (r2 : k'.ent = k.ent)
    (hh : Bs w' A' k'.held.length cap' k'.held) (ha : ∀ b off, 0 < k'.held.length → A' = some ⟨b, off, none⟩ → ¬ L.O b ∧ ¬ RKL.X ⟨cb, rb, eb, A, cap⟩ b ∧ B ≤ b) (h8 : k'.held.length ≤ 8) (na : k'.held.length ≤ k'.at_) (al : k'.at_ ≤ 1024 * c) : RKAt w' B L s ⟨cb, rb, eb, A', cap'⟩ q f c k' :=
  ⟨h.fl.keeps hk (fun j hj e => h.no _ (.inl rfl) (e ▸ hj)), h.hq, hb, by rw [r1]; exact hk.blk h.rdy (fun e => h.d1 e.symm), by rw [r2]; exact hk.blk h.ent (fun e => h.d2 e.symm), by rw [r1]; exact h.rl, by rw [r2]; exact h.el, hh, ha, h.no, h.lo, h.d1, h.d2, h.d3, h8, na, al, h.fc⟩
theorem RKAt.putDead {w : World} {B : Nat} {L : RL} {s : FS} {cb rb eb : Nat} {A : Option Addr} {cap : Nat} {q f c : Nat} {k : RS} (h : RKAt w B L s ⟨cb, rb, eb, A, cap⟩ q f c k) (e : Int) : RKAt (w.setCell ⟨cb, 5, none⟩ (.int .i64 e)) B L s ⟨cb, rb, eb, A, cap⟩ q f c { k with dead := e } :=
  h.recell ((Keeps.self cb w).put 5 _) (h.cell.set 5 (.int .i64 e)) rfl rfl (h.held.keeps ((Keeps.self cb w).put 5 _) (fun b off h0 _ e hj => (h.hap b off h0 e).2.1 (.inl hj))) h.hap h.h8 h.na h.al
theorem RKAt.putNil {w : World} {B : Nat} {L : RL} {s : FS} {cb rb eb : Nat} {A : Option Addr} {cap : Nat} {q f c : Nat} {k : RS} (h : RKAt w B L s ⟨cb, rb, eb, A, cap⟩ q f c k) : RKAt (w.setCell ⟨cb, 4, none⟩ (.slice none 0 0)) B L s ⟨cb, rb, eb, none, 0⟩ q f c { k with held := [] } :=
  h.recell ((Keeps.self cb w).put 4 _) (h.cell.set 4 (.slice none 0 0)) rfl rfl ⟨rfl, Nat.le_refl _, by decide, fun _ => ⟨rfl, rfl⟩, (by simp), fun hn => absurd hn (Nat.lt_irrefl 0)⟩ (fun b off h0 => absurd h0 (Nat.lt_irrefl 0)) (Nat.zero_le _) (Nat.zero_le _) h.al

set_option maxRecDepth 100000 in
set_option maxHeartbeats 1600000 in
theorem rkword_any (B : Nat) (L : RL) (s : FS) (K : RKL) (q f c : Nat) (k : RS) (a : Nat) (A : Option Addr) (m cp : Nat) (zs : List Int) (w : World) (h : RKAt w B L s K q f c k) (hb : RKB w L K A m cp zs) (ha : a < 1024 * c) (hm : m ≤ 8) (hr : Room s 264) :
    Calls Try.prog 94 #[.pointer (some ⟨K.cb, 0, none⟩), .int .i64 a, .slice A m cp] w (RKTurn w B L K q f c (rword f c s k a zs)) := by
  have hc9 : f + c ≤ 256 := by have := h.fc; have := h.fl.n9; omega
  obtain ⟨x, hx⟩ : ∃ x, a / 1024 = x := ⟨_, rfl⟩
  have hxc : x < c := by omega
  have hxi : ((a : Int) / 1024) = x := by omega
  have hml := hb.bs.len
  have H := Lib.hid h
  have HB := Lib.hid hb
  have ge := h.ecell (i := x) (by omega)
  have i1 : IntKind.i64.wrap ((x : Int) + 1) = ((x + 1 : Nat) : Int) := by rw [show (x : Int) + 1 = ((x + 1 : Nat) : Int) by omega]; exact wrap_nat _ (by omega)
  have PG := Lib.hid (fun (w' : World) (L' : RL) (s' : FS) (h' : RAt w' B L' s') (hq' : L'.bf = q) (hb' : Rb w' L' A m cp zs) (hr' : Room s' 8) => rgprogram_any B L' s' q f c a A m cp zs w' h' hq' hc9 hb' (by have := hr'.st; omega))
  have PA := Lib.hid (fun (w' : World) (L' : RL) (s' : FS) (k' : RS) (x : Nat) (h' : RKAt w' B L' s' K q f c k') (hx : x ≤ c) (hr' : Room s' 1) => rkprep_any B L' s' K q f c k' x w' h' hx (by have := hr'.st; omega) (fun i => by have := hr'.er i; omega))
  have WD : Hid (rword f c s k a zs = if k.ent.getD x false = true then rprog f c s k a zs else if (rboth f c s k x).2.2 ≠ 0 then rboth f c s k x
      else rprog f c (rboth f c s k x).1 { (rboth f c s k x).2.1 with ent := (rboth f c s k x).2.1.ent.set x true } a zs) := by show rword f c s k a zs = _; rw [← hx]; rfl
  generalize rword f c s k a zs = p at *
  have c0 := H.out.cell.cellD 0 _ rfl
  have c1 := H.out.cell.cellD 1 _ rfl
  have c2 := H.out.cell.cellD 2 _ rfl
  have c3 := H.out.cell.cellD 3 _ rfl
  have c4 := H.out.cell.cellD 4 _ rfl
  have c5 := H.out.cell.cellD 5 _ rfl
  have c6 := H.out.cell.cellD 6 _ rfl
  have c7 := H.out.cell.cellD 7 _ rfl
  clear h hb c3 c4 c5 c6
  have HML := Lib.hid hml
  have HRM := Lib.hid hr
  clear hml hr hx
  cases hen : k.ent.getD x false with
  | true =>
    rw [hen] at ge
    have PP : Hid (p = rprog f c s k a zs) := by show _ = _; rw [WD.out, if_pos hen]
    clear WD hen
    go_enter Try.func94, Try.ntmps94
    go_wp2_with fail
    refine (PG.out _ L s H.out.fl H.out.hq HB.out.rb (HRM.out.less (by decide))).mono ?_
    rintro e w2 ⟨rfl, L2, t2⟩
    go_wp2
    go_ret
    rw [PP.out]
    exact ⟨rfl, L2, H.out.turn t2, RKLink.turn K t2⟩
  | false =>
    rw [hen] at ge
    have PP : Hid (p = if (rboth f c s k x).2.2 ≠ 0 then rboth f c s k x
      else rprog f c (rboth f c s k x).1 { (rboth f c s k x).2.1 with ent := (rboth f c s k x).2.1.ent.set x true } a zs) := by show _ = _; rw [WD.out, if_neg (by rw [hen]; decide)]
    have RBD : Hid (rboth f c s k x = if (rprep f c s k x).2.2 = 0 then rprep f c (rprep f c s k x).1 (rprep f c s k x).2.1 (x + 1) else rprep f c s k x) := rfl
    have RM1 : Hid (Room (rprep f c s k x).1 262) := Room.rprep (HRM.out.less (by decide)) x
    have PA1 := Lib.hid (PA.out w L s k x H.out (by omega) (HRM.out.less (by decide)))
    obtain ⟨s1, k1, e1, hp1⟩ : ∃ s1 k1 e1, rprep f c s k x = (s1, k1, e1) := ⟨_, _, _, rfl⟩
    rw [hp1] at RBD RM1 PA1
    dsimp only at RBD RM1
    clear WD hen hp1
    go_enter Try.func94, Try.ntmps94
    go_wp2_with fail
    refine PA1.out.mono ?_
    rintro e w1 ⟨rfl, L1, h1, l1⟩
    have H1 := Lib.hid h1
    have LK1 := Lib.hid l1
    clear h1 l1
    by_cases q1 : e1 = 0
    · subst q1
      have RM2 : Hid (Room (rprep f c s1 k1 (x + 1)).1 200) := Room.rprep (RM1.out.less (by decide)) (x + 1)
      have PA2 := Lib.hid (PA.out w1 L1 s1 k1 (x + 1) H1.out (by omega) (RM1.out.less (by decide)))
      have RBE : Hid (rboth f c s k x = rprep f c s1 k1 (x + 1)) := by show _ = _; rw [RBD.out, if_pos rfl]
      obtain ⟨s2, k2, e2, hp2⟩ : ∃ s2 k2 e2, rprep f c s1 k1 (x + 1) = (s2, k2, e2) := ⟨_, _, _, rfl⟩
      rw [hp2] at RBE RM2 PA2
      dsimp only at RM2
      rw [RBE.out] at PP
      dsimp only at PP
      clear RBD RBE hp2 PA1 ge c0 c1 c2 c7
      go_wp2_with fail
      refine PA2.out.mono ?_
      rintro e w2 ⟨rfl, L2, h2, l2⟩
      have H2 := Lib.hid h2
      have LK2 := Lib.hid (LK1.out.trans l2 (fun _ h => h))
      simp only [] at H2
      clear h2 l2
      by_cases q2 : e2 = 0
      · subst q2
        have PQ : Hid (p = rprog f c s2 { k2 with ent := k2.ent.set x true } a zs) := by show _ = _; rw [PP.out, if_neg (by decide)]
        have b7 := H2.out.cell.cellD 7 _ rfl
        have g2 := H2.out.ecell (i := x) (by omega)
        have z2 := H2.out.ent.frozen x
        have hh3 := H2.out.putEnt x true
        have ll3 := LK2.out.trans (RKLink.put w2 L2 (.inr (.inr rfl)) x (.bool true)) (fun _ h => h)
        have H3 := Lib.hid hh3
        have LK3 := Lib.hid ll3
        have d0 := hh3.cell.cellD 0 _ rfl
        have d1 := hh3.cell.cellD 1 _ rfl
        have d2 := hh3.cell.cellD 2 _ rfl
        clear hh3 ll3 PP
        go_wp2_with fail
        refine (PG.out _ L2 s2 H3.out.fl H3.out.hq (HB.out.link LK3.out).rb (RM2.out.less (by decide))).mono ?_
        rintro e w4 ⟨rfl, L4, t4⟩
        go_wp2
        go_ret
        rw [PQ.out]
        exact ⟨rfl, L4, H3.out.turn t4, LK3.out.trans (RKLink.turn K t4) (fun _ h => h)⟩
      · have d1 : (e2 != 0) = true := by simp [q2]
        have d2 : decide (e2 = 0) = false := decide_eq_false q2
        have PQ : Hid (p = (s2, k2, e2)) := by show _ = _; rw [PP.out, if_pos q2]
        clear PP
        go_wp2
        go_ret
        rw [PQ.out]
        exact ⟨rfl, L2, H2.out, LK2.out⟩
    · have d1 : (e1 != 0) = true := by simp [q1]
      have d2 : (e1 == 0) = false := by simp [q1]
      have d3 : decide (e1 = 0) = false := decide_eq_false q1
      have RBE : Hid (rboth f c s k x = (s1, k1, e1)) := by show _ = _; rw [RBD.out, if_neg q1]
      have PQ : Hid (p = (s1, k1, e1)) := by show _ = _; rw [PP.out, RBE.out, if_pos q1]
      clear PP RBD RBE
      go_wp2
      go_ret
      rw [PQ.out]
      exact ⟨rfl, L1, H1.out, LK1.out⟩
end Go.Proofs.Ytngofnlhbhfigaa
