/- The reference's cursor: in plain words, in memory; the walks of Clear, prepare and word. -/
import Derived.Test.YtngofnlhbhfigaaRgSim
import Derived.Test.YtngofnlhbhfigaaKc2
namespace Go.Proofs.Ytngofnlhbhfigaa
open Go.RowKit

/-- The reference's cursor in plain words. -/
structure RS where
  at_ : Nat
  held : List Int
  dead : Int
  rdy : List Bool
  ent : List Bool
def FS.gclear (s : FS) (f c : Nat) (k : Int) : FS × Int :=
  if (s.gblank f c k).2 ≠ 0 ∨ (s.gblank f c k).1 = true then (s, (s.gblank f c k).2) else s.gerase f c k
def rprep (f c : Nat) (s : FS) (k : RS) (x : Nat) : FS × RS × Int :=
  if c ≤ x ∨ k.rdy.getD x false = true then (s, k, 0)
  else ((s.gclear f c x).1, if (s.gclear f c x).2 = 0 then { k with rdy := k.rdy.set x true } else k, (s.gclear f c x).2)
def rboth (f c : Nat) (s : FS) (k : RS) (x : Nat) : FS × RS × Int :=
  if (rprep f c s k x).2.2 = 0 then rprep f c (rprep f c s k x).1 (rprep f c s k x).2.1 (x + 1) else rprep f c s k x
def rprog (f c : Nat) (s : FS) (k : RS) (a : Nat) (zs : List Int) : FS × RS × Int := ((s.gprog f c a zs).1, k, (s.gprog f c a zs).2)
def rword (f c : Nat) (s : FS) (k : RS) (a : Nat) (zs : List Int) : FS × RS × Int :=
  if k.ent.getD (a / 1024) false = true then rprog f c s k a zs
  else if (rboth f c s k (a / 1024)).2.2 ≠ 0 then rboth f c s k (a / 1024)
  else rprog f c (rboth f c s k (a / 1024)).1 { (rboth f c s k (a / 1024)).2.1 with ent := (rboth f c s k (a / 1024)).2.1.ent.set (a / 1024) true } a zs

/-- Where it lies. -/
structure RKL where
  cb : Nat
  rb : Nat
  eb : Nat
  A : Option Addr
  cap : Nat
def RKL.X (K : RKL) (j : Nat) : Prop := j = K.cb ∨ j = K.rb ∨ j = K.eb
def rkcells (K : RKL) (q f c : Nat) (k : RS) : List Value :=
  [.pointer (some ⟨q, 0, none⟩), .int .i64 f, .int .i64 c, .int .i64 k.at_, .slice K.A k.held.length K.cap, .int .i64 k.dead, .slice (some ⟨K.rb, 0, none⟩) (c + 1) (c + 1), .slice (some ⟨K.eb, 0, none⟩) (c + 1) (c + 1)]
structure RKAt (w : World) (B : Nat) (L : RL) (s : FS) (K : RKL) (q f c : Nat) (k : RS) : Prop where
  fl : RAt w B L s
  hq : L.bf = q
  cell : Blk w K.cb (rkcells K q f c k) 92
  rdy : Blk w K.rb (k.rdy.map .bool) 4
  ent : Blk w K.eb (k.ent.map .bool) 4
  rl : k.rdy.length = c + 1
  el : k.ent.length = c + 1
  held : Bs w K.A k.held.length K.cap k.held
  hap : ∀ b off, 0 < k.held.length → K.A = some ⟨b, off, none⟩ → ¬ L.O b ∧ ¬ K.X b ∧ B ≤ b
  no : ∀ j, K.X j → ¬ L.O j
  lo : ∀ j, K.X j → B ≤ j
  d1 : K.cb ≠ K.rb
  d2 : K.cb ≠ K.eb
  d3 : K.rb ≠ K.eb
  h8 : k.held.length ≤ 8
  na : k.held.length ≤ k.at_
  al : k.at_ ≤ 1024 * c
  fc : f + c ≤ L.n
section
variable {w w' : World} {B : Nat} {L L' : RL} {s s' : FS} {K : RKL} {q f c : Nat} {k : RS}
theorem RKAt.xlt (h : RKAt w B L s K q f c k) : ∀ j, K.X j → j < w.heap.size := fun j hj => by
  rcases hj with rfl | rfl | rfl
  · exact h.cell.lt
  · exact h.rdy.lt
  · exact h.ent.lt
theorem RKAt.keeps {S : Nat → Prop} (h : RKAt w B L s K q f c k) (hk : Keeps S w w') (h1 : ∀ j, L.O j → ¬ S j) (h2 : ∀ j, K.X j → ¬ S j) (h3 : ∀ b off, 0 < k.held.length → K.A = some ⟨b, off, none⟩ → ¬ S b) : RKAt w' B L s K q f c k :=
  ⟨h.fl.keeps hk h1, h.hq, hk.blk h.cell (h2 _ (.inl rfl)), hk.blk h.rdy (h2 _ (.inr (.inl rfl))), hk.blk h.ent (h2 _ (.inr (.inr rfl))), h.rl, h.el, h.held.keeps hk (fun b off h0 _ e => h3 b off h0 e), h.hap, h.no, h.lo, h.d1, h.d2, h.d3, h.h8, h.na, h.al, h.fc⟩
theorem RKAt.later (h : RKAt w B L s K q f c k) (hk : Keeps None w w') : RKAt w' B L s K q f c k := h.keeps hk (fun _ _ h => h) (fun _ _ h => h) (fun _ _ _ _ h => h)
theorem RKAt.drew (h : RKAt w B L s K q f c k) : RKAt w.drew B L s K q f c k := h.later (Keeps.refl None w).drew
theorem RKAt.alloc (h : RKAt w B L s K q f c k) (o : Obj) : RKAt (w.alloc o) B L s K q f c k := h.later ((Keeps.refl None w).alloc o)
/-- The flash turned. -/
theorem RKAt.turn (h : RKAt w B L s K q f c k) (t : RTurn w w' B L L' s') : RKAt w' B L' s' K q f c k :=
  ⟨t.at_, t.bf.trans h.hq, t.keeps.blk h.cell (h.no _ (.inl rfl)), t.keeps.blk h.rdy (h.no _ (.inr (.inl rfl))), t.keeps.blk h.ent (h.no _ (.inr (.inr rfl))), h.rl, h.el,
    h.held.keeps t.keeps (fun b off h0 _ e => (h.hap b off h0 e).1), fun b off h0 e => ⟨fun hO => (t.o b hO).elim (h.hap b off h0 e).1 (fun hc => by
      obtain ⟨b', off', e', hb, _⟩ := h.held.at_ h0
      rw [e] at e'; cases e'; omega), (h.hap b off h0 e).2⟩, fun j hj hO => (t.o j hO).elim (h.no j hj) (fun hc => by have := h.xlt j hj; omega), h.lo, h.d1, h.d2, h.d3, h.h8, h.na, h.al, by rw [t.n]; exact h.fc⟩
/-- A cell of ready or of entered. -/
theorem RKAt.putRdy (h : RKAt w B L s K q f c k) (i : Nat) (b : Bool) : RKAt (w.setCell ⟨K.rb, i, none⟩ (.bool b)) B L s K q f c { k with rdy := k.rdy.set i b } := by
  have hk := (Keeps.self K.rb w).put i (.bool b)
  exact ⟨h.fl.keeps hk (fun j hj e => h.no _ (.inr (.inl rfl)) (e ▸ hj)), h.hq, hk.blk h.cell h.d1, by have := h.rdy.set i (.bool b); rwa [← List.map_set] at this, hk.blk h.ent (fun e => h.d3 e.symm), by show (k.rdy.set i b).length = _; rw [List.length_set]; exact h.rl, h.el,
    h.held.keeps hk (fun b off h0 _ e e2 => (h.hap b off h0 e).2.1 (.inr (.inl e2))), h.hap, h.no, h.lo, h.d1, h.d2, h.d3, h.h8, h.na, h.al, h.fc⟩
theorem RKAt.putEnt (h : RKAt w B L s K q f c k) (i : Nat) (b : Bool) : RKAt (w.setCell ⟨K.eb, i, none⟩ (.bool b)) B L s K q f c { k with ent := k.ent.set i b } := by
  have hk := (Keeps.self K.eb w).put i (.bool b)
  exact ⟨h.fl.keeps hk (fun j hj e => h.no _ (.inr (.inr rfl)) (e ▸ hj)), h.hq, hk.blk h.cell h.d2, hk.blk h.rdy h.d3, by have := h.ent.set i (.bool b); rwa [← List.map_set] at this, h.rl, by show (k.ent.set i b).length = _; rw [List.length_set]; exact h.el,
    h.held.keeps hk (fun b off h0 _ e e2 => (h.hap b off h0 e).2.1 (.inr (.inr e2))), h.hap, h.no, h.lo, h.d1, h.d2, h.d3, h.h8, h.na, h.al, h.fc⟩
theorem RKAt.rcell (h : RKAt w B L s K q f c k) {i : Nat} (hi : i ≤ c) : w.cell? ⟨K.rb, i, none⟩ = some (.bool (k.rdy.getD i false)) := h.rdy.cellD i _ (map_getD false (by rw [h.rl]; omega))
theorem RKAt.ecell (h : RKAt w B L s K q f c k) {i : Nat} (hi : i ≤ c) : w.cell? ⟨K.eb, i, none⟩ = some (.bool (k.ent.getD i false)) := h.ent.cellD i _ (map_getD false (by rw [h.el]; omega))
end
/-- What a call on it leaves. -/
structure RKLink (w w' : World) (L L' : RL) (K : RKL) : Prop where
  keeps : Keeps (fun j => L.O j ∨ K.X j) w w'
  o : ∀ j, L'.O j → L.O j ∨ w.heap.size ≤ j
theorem RKLink.trans {a b d : World} {L L' M : RL} {K K' : RKL} (h : RKLink a b L L' K) (k : RKLink b d L' M K') (hX : ∀ j, K'.X j → K.X j) : RKLink a d L M K :=
  ⟨h.keeps.trans k.keeps (fun _ h => h) (fun i hi hj => hj.elim (fun hO => (h.o i hO).elim .inl (fun hc => by omega)) (fun hO => .inr (hX i hO))), fun j hj => (k.o j hj).elim (h.o j) (fun hc => .inr (Nat.le_trans h.keeps.size hc))⟩
theorem RKLink.quiet {a b : World} (L : RL) (K : RKL) (h : Keeps None a b) : RKLink a b L L K := ⟨h.mono (fun _ _ h => h.elim), fun _ h => .inl h⟩
theorem RKLink.turn {a b : World} {B : Nat} {L L' : RL} {s : FS} (K : RKL) (t : RTurn a b B L L' s) : RKLink a b L L' K := ⟨t.keeps.mono (fun _ _ h => .inl h), t.o⟩
theorem RKLink.put (a : World) (L : RL) {K : RKL} {x : Nat} (hx : K.X x) (i : Nat) (v : Value) : RKLink a (a.setCell ⟨x, i, none⟩ v) L L K := ⟨((Keeps.self x a).put i v).mono (fun _ _ h => .inr (h ▸ hx)), fun _ h => .inl h⟩
def RKTurn (w : World) (B : Nat) (L : RL) (K : RKL) (q f c : Nat) (p : FS × RS × Int) (e : Ending) (w' : World) : Prop :=
  e = .returned (.int .i64 p.2.2) ∧ ∃ L', RKAt w' B L' p.1 K q f c p.2.1 ∧ RKLink w w' L L' K

set_option maxRecDepth 100000 in
theorem rgclear_any (B : Nat) (L : RL) (s : FS) (q first count : Nat) (k : Int) (w : World) (h : RAt w B L s) (hq : L.bf = q) (hf : first + count ≤ L.n) (hst : 0 ≤ s.steps ∧ s.steps ≤ 1000000000000) (her : ∀ i, 0 ≤ s.er.getD i 0 ∧ s.er.getD i 0 ≤ 1000000000000) :
    Calls Try.prog 107 #[.agg #[.pointer (some ⟨q, 0, none⟩), .int .i64 first, .int .i64 count], .int .i64 k] w (RProgTold w B L (s.gclear first count k)) := by
  have hn9 := h.n9
  have GR : Hid (s.gclear first count k = if (s.gblank first count k).2 ≠ 0 ∨ (s.gblank first count k).1 = true then (s, (s.gblank first count k).2) else s.gerase first count k) := rfl
  have BL := Lib.hid (fun w' (hh : RAt w' B L s) => rgblank_any B L s q first count k w' hh hq hf)
  have ER := Lib.hid (fun w' (hh : RAt w' B L s) => rgerase_any B L s q first count k w' hh hq (by omega) hst her)
  obtain ⟨bk, er, hbk⟩ : ∃ bk er, s.gblank first count k = (bk, er) := ⟨_, _, rfl⟩
  rw [hbk] at BL GR
  have HW := Lib.hid h
  have k0 : Keeps None w (w.alloc (.cells #[.pointer (some ⟨q, 0, none⟩), .int .i64 first, .int .i64 count] 66)) := (Keeps.refl None w).alloc _
  have bx : Blk (w.alloc (.cells #[.pointer (some ⟨q, 0, none⟩), .int .i64 first, .int .i64 count] 66)) w.heap.size [.pointer (some ⟨q, 0, none⟩), .int .i64 first, .int .i64 count] 66 := Blk.new w [.pointer (some ⟨q, 0, none⟩), .int .i64 first, .int .i64 count] 66
  have K0 := Lib.hid k0
  have BX := Lib.hid bx
  have H0 := Lib.hid (h.later K0.out)
  have dk := H0.out.dk hq
  have y0 := bx.cellD 0 _ rfl
  have y1 := bx.cellD 1 _ rfl
  have y2 := bx.cellD 2 _ rfl
  clear k0 bx
  have D0 := Lib.hid dk
  clear h dk hbk
  by_cases q1 : er = 0
  · subst q1
    cases bk with
    | true =>
      have GG : Hid (s.gclear first count k = (s, 0)) := by show _ = _; rw [GR.out, if_pos (.inr rfl)]
      clear GR
      go_enter Try.func107, Try.ntmps107
      go_wp2_with fail
      refine (BL.out _ H0.out).mono ?_
      rintro e w2 ⟨rfl, k2⟩
      have K2 := Lib.hid (K0.out.trans k2 (T := None) (fun _ h => h) (fun _ _ h => h))
      clear k2
      go_wp2
      go_ret
      rw [GG.out]
      exact ⟨rfl, _, RTurn.still HW.out K2.out⟩
    | false =>
      have GG : Hid (s.gclear first count k = s.gerase first count k) := by show _ = _; rw [GR.out, if_neg (by simp)]
      rw [GG.out]
      clear GR GG
      go_enter Try.func107, Try.ntmps107
      go_wp2_with fail
      refine (BL.out _ H0.out).mono ?_
      rintro e w2 ⟨rfl, k2⟩
      have K2 := Lib.hid (K0.out.trans k2 (T := None) (fun _ h => h) (fun _ _ h => h))
      have H2 := Lib.hid (H0.out.later k2)
      have B2 := Lib.hid (k2.blk BX.out (fun h => h))
      clear k2 y0 y1 y2
      have y0 := B2.out.cellD 0 _ rfl
      have y1 := B2.out.cellD 1 _ rfl
      have y2 := B2.out.cellD 2 _ rfl
      generalize s.gerase first count k = r at *
      go_wp2_with fail
      refine (ER.out _ H2.out).mono ?_
      rintro e w3 ⟨rfl, L3, t3⟩
      go_wp2
      go_ret
      exact ⟨rfl, L3, RTurn.from K2.out t3⟩
  · have d1 : (er != 0) = true := by simp [q1]
    have GG : Hid (s.gclear first count k = (s, er)) := by show _ = _; rw [GR.out, if_pos (.inl q1)]
    clear GR
    go_enter Try.func107, Try.ntmps107
    go_wp2_with fail
    refine (BL.out _ H0.out).mono ?_
    rintro e w2 ⟨rfl, k2⟩
    have K2 := Lib.hid (K0.out.trans k2 (T := None) (fun _ h => h) (fun _ _ h => h))
    clear k2
    go_wp2
    go_ret
    rw [GG.out]
    exact ⟨rfl, _, RTurn.still HW.out K2.out⟩

set_option maxRecDepth 100000 in
set_option maxHeartbeats 800000 in
theorem rkprep_any (B : Nat) (L : RL) (s : FS) (K : RKL) (q f c : Nat) (k : RS) (x : Nat) (w : World) (h : RKAt w B L s K q f c k) (hx : x ≤ c) (hst : 0 ≤ s.steps ∧ s.steps ≤ 1000000000000) (her : ∀ i, 0 ≤ s.er.getD i 0 ∧ s.er.getD i 0 ≤ 1000000000000) :
    Calls Try.prog 104 #[.pointer (some ⟨K.cb, 0, none⟩), .int .i64 x] w (RKTurn w B L K q f c (rprep f c s k x)) := by
  have hc9 : f + c ≤ 256 := by have := h.fc; have := h.fl.n9; omega
  have H := Lib.hid h
  have PR : Hid (rprep f c s k x = if c ≤ x ∨ k.rdy.getD x false = true then (s, k, 0) else ((s.gclear f c x).1, if (s.gclear f c x).2 = 0 then { k with rdy := k.rdy.set x true } else k, (s.gclear f c x).2)) := rfl
  have CL := Lib.hid (fun w' (hh : RAt w' B L s) => rgclear_any B L s q f c x w' hh h.hq h.fc hst her)
  generalize rprep f c s k x = p at *
  have g1 := h.rcell hx
  have zr := h.rdy.frozen x
  have c0 := H.out.cell.cellD 0 _ rfl
  have c1 := H.out.cell.cellD 1 _ rfl
  have c2 := H.out.cell.cellD 2 _ rfl
  have c3 := H.out.cell.cellD 3 _ rfl
  have c4 := H.out.cell.cellD 4 _ rfl
  have c5 := H.out.cell.cellD 5 _ rfl
  have c6 := H.out.cell.cellD 6 _ rfl
  have c7 := H.out.cell.cellD 7 _ rfl
  clear h c3 c4 c5 c7
  by_cases q1 : c ≤ x
  · obtain rfl : x = c := by omega
    have PP : Hid (p = (s, k, 0)) := by show _ = _; rw [PR.out, if_pos (.inl (Nat.le_refl _))]
    clear PR
    go_enter Try.func104, Try.ntmps104
    go_wp2
    go_ret
    rw [PP.out]
    exact ⟨rfl, L, H.out, RKLink.quiet L K (Keeps.refl None w)⟩
  · have d1 : decide ((c : Int) ≤ x) = false := decide_eq_false (by omega)
    cases hr : k.rdy.getD x false with
    | true =>
      rw [hr] at g1
      have PP : Hid (p = (s, k, 0)) := by show _ = _; rw [PR.out, if_pos (.inr hr)]
      clear PR hr
      go_enter Try.func104, Try.ntmps104
      go_wp2
      go_ret
      rw [PP.out]
      exact ⟨rfl, L, H.out, RKLink.quiet L K (Keeps.refl None w)⟩
    | false =>
      rw [hr] at g1
      have PP : Hid (p = ((s.gclear f c x).1, if (s.gclear f c x).2 = 0 then { k with rdy := k.rdy.set x true } else k, (s.gclear f c x).2)) := by show _ = _; rw [PR.out, if_neg (by rw [hr]; simp; omega)]
      obtain ⟨r, er, hrr⟩ : ∃ r er, s.gclear f c x = (r, er) := ⟨_, _, rfl⟩
      rw [hrr] at PP CL
      clear PR hr hrr
      go_enter Try.func104, Try.ntmps104
      go_wp2_with fail
      refine (CL.out _ H.out.fl).mono ?_
      rintro e w2 ⟨rfl, L2, t2⟩
      have H2 := Lib.hid (H.out.turn t2)
      have LK2 := Lib.hid (RKLink.turn K t2)
      clear t2
      by_cases q2 : er = 0
      · subst q2
        have PP2 : Hid (p = (r, { k with rdy := k.rdy.set x true }, 0)) := by show _ = _; rw [PP.out]; rfl
        have b6 := H2.out.cell.cellD 6 _ rfl
        have g2 := H2.out.rcell hx
        have zr2 := H2.out.rdy.frozen x
        clear PP c0 c1 c2 c6 g1 zr
        go_wp2
        go_ret
        rw [PP2.out]
        exact ⟨rfl, L2, H2.out.putRdy x true, LK2.out.trans (RKLink.put w2 L2 (.inr (.inl rfl)) x (.bool true)) (fun _ h => h)⟩
      · have d2 : (er == 0) = false := by simp [q2]
        have d3 : decide (er = 0) = false := decide_eq_false q2
        have PP2 : Hid (p = (r, k, er)) := by show _ = _; rw [PP.out, if_neg q2]
        clear PP c0 c1 c2 c6 g1 zr
        go_wp2
        go_ret
        rw [PP2.out]
        exact ⟨rfl, L2, H2.out, LK2.out⟩
end Go.Proofs.Ytngofnlhbhfigaa
