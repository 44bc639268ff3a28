
/- Texts put together: Qj, Qj2, Qj3, BytesAt, Qj4. -/
import Derived.Test.YtobgbilanibodaaGreatLPle
import Derived.Test.YtobgbilanibodaaGreatLPlh
import Derived.Test.YtobgbilanibodaaGreatLPld
import Derived.Test.YtobgbilanibodaaGreatLPla
import Derived.Maps.AppendAt
namespace Go.Proofs.YtobgbilanibodaaGreat
open Go.RowKit
def qcells (q : Nat) (lv : Value) (j : JS) : List Value := [.pointer (some ⟨q, 0, none⟩), .int .i64 0, .int .i64 2, lv, .int .i64 j.cur, .int .i64 (j.epoch : Int), .bool j.torn, .int .i64 (j.used : Int), .int .i64 j.err]
structure QX where
  L : RL
  jb : Nat
  lv : Value
  rs : List RV
def QX.S (X : QX) (k : Nat) : Prop := X.L.O k ∨ k = X.jb ∨ X.lv.ownBlock = some k ∨ ∃ r ∈ X.rs, r.at_ k
structure QAt (w : World) (B q : Nat) (X : QX) (s : FS) (j : JS) : Prop where
  f : RAt w B X.L s
  hq : X.L.bf = q
  c : Blk w X.jb (qcells q X.lv j) 78
  l : OwnR w B X.lv X.rs
  bd : Bds w (fun b => B ≤ b ∧ ¬ X.L.O b ∧ b ≠ X.jb ∧ ¬ X.lv.ownBlock = some b) X.rs
  recs : X.rs.map RV.r = j.l
  jo : ¬ X.L.O X.jb
  jB : B ≤ X.jb
  lo : ∀ b, X.lv.ownBlock = some b → ¬ X.L.O b ∧ b ≠ X.jb
theorem QAt.keeps {w w' : World} {B q : Nat} {X : QX} {s : FS} {j : JS} {S : Nat → Prop} (h : QAt w B q X s j) (hk : Keeps S w w') (hS : ∀ k, X.S k → ¬ S k) : QAt w' B q X s j :=
  ⟨h.f.keeps hk (fun k hO => hS k (.inl hO)), h.hq, hk.blk h.c (hS _ (.inr (.inl rfl))), h.l.keeps hk (fun b hb => hS b (.inr (.inr (.inl hb)))),
    ⟨fun r hr => (h.bd.bs r hr).keeps hk (fun b off h0 _ e hb => hS b (.inr (.inr (.inr ⟨r, hr, off, h0, e⟩))) hb), fun r hr b hb => ⟨(h.bd.p r hr b hb).1, Nat.lt_of_lt_of_le (h.bd.p r hr b hb).2 hk.size⟩⟩, h.recs, h.jo, h.jB, h.lo⟩
theorem QAt.later {w w' : World} {B q : Nat} {X : QX} {s : FS} {j : JS} (h : QAt w B q X s j) (hk : Keeps None w w') : QAt w' B q X s j := h.keeps hk (fun _ _ h => h)
theorem QAt.lt {w : World} {B q : Nat} {X : QX} {s : FS} {j : JS} (h : QAt w B q X s j) : ∀ k, X.S k → k < w.heap.size := fun k hk => by
  rcases hk with hk | rfl | hk | ⟨r, hr, hb⟩
  · exact h.f.lt k hk
  · exact h.c.lt
  · exact (h.l.block hk).2
  · exact (h.bd.p r hr k hb).2
theorem QAt.low {w : World} {B q : Nat} {X : QX} {s : FS} {j : JS} (h : QAt w B q X s j) : ∀ k, X.S k → B ≤ k := fun k hk => by
  rcases hk with hk | rfl | hk | ⟨r, hr, hb⟩
  · exact h.f.low k hk
  · exact h.jB
  · exact (h.l.block hk).1
  · exact (h.bd.p r hr k hb).1.1
structure QTurn (w w' : World) (B q : Nat) (X X' : QX) (s' : FS) (j' : JS) : Prop where
  at_ : QAt w' B q X' s' j'
  keeps : Keeps X.S w w'
  o : ∀ k, X'.S k → X.S k ∨ w.heap.size ≤ k
  jb : X'.jb = X.jb
theorem QAt.turn {w w' : World} {B q : Nat} {X : QX} {s s' : FS} {j : JS} {L' : RL} (h : QAt w B q X s j) (t : RTurn w w' B X.L L' s') : QTurn w w' B q X { X with L := L' } s' j := by
 exact tl102 _
theorem QTurn.self {w : World} {B q : Nat} {X : QX} {s : FS} {j : JS} (h : QAt w B q X s j) : QTurn w w B q X X s j := ⟨h, Keeps.refl _ _, fun _ h => .inl h, rfl⟩
theorem QTurn.still {w w1 : World} {B q : Nat} {X : QX} {s : FS} {j : JS} (h : QAt w B q X s j) (k : Keeps None w w1) : QTurn w w1 B q X X s j := ⟨h.later k, k.mono (fun _ _ h => h.elim), fun _ h => .inl h, rfl⟩
theorem QTurn.from {w w1 w' : World} {B q : Nat} {X X' : QX} {s' : FS} {j' : JS} (k : Keeps None w w1) (t : QTurn w1 w' B q X X' s' j') : QTurn w w' B q X X' s' j' :=
  ⟨t.at_, k.trans t.keeps (fun _ h => h.elim) (fun _ _ h => h), fun x hx => (t.o x hx).imp id (fun h => Nat.le_trans k.size h), t.jb⟩
theorem QTurn.later {w w1 w' : World} {B q : Nat} {X X' : QX} {s' : FS} {j' : JS} (t : QTurn w w1 B q X X' s' j') (k : Keeps None w1 w') : QTurn w w' B q X X' s' j' :=
  ⟨t.at_.later k, t.keeps.trans k (fun _ h => h) (fun _ _ h => h.elim), t.o, t.jb⟩
theorem QTurn.trans {w w1 w' : World} {B q : Nat} {X X1 X' : QX} {s1 s' : FS} {j1 j' : JS} (t : QTurn w w1 B q X X1 s1 j1) (u : QTurn w1 w' B q X1 X' s' j') : QTurn w w' B q X X' s' j' :=
  ⟨u.at_, t.keeps.trans u.keeps (fun _ h => h) (fun k hk h => (t.o k h).elim id (fun h2 => by omega)), fun x hx => (u.o x hx).elim (fun h => t.o x h) (fun h => .inr (Nat.le_trans t.keeps.size h)), u.jb.trans t.jb⟩
structure QStay (w w' : World) (B q : Nat) (X X' : QX) (s' : FS) (j' : JS) : Prop where
  t : QTurn w w' B q X X' s' j'
  l : X'.L = X.L
  k : Keeps (fun b => X.S b ∧ ¬ X.L.O b) w w'
theorem QStay.at_ {w w' : World} {B q : Nat} {X X' : QX} {s' : FS} {j' : JS} (h : QStay w w' B q X X' s' j') : QAt w' B q X' s' j' := h.t.at_
theorem QStay.keeps {w w' : World} {B q : Nat} {X X' : QX} {s' : FS} {j' : JS} (h : QStay w w' B q X X' s' j') : Keeps X.S w w' := h.t.keeps
theorem QStay.o {w w' : World} {B q : Nat} {X X' : QX} {s' : FS} {j' : JS} (h : QStay w w' B q X X' s' j') : ∀ k, X'.S k → X.S k ∨ w.heap.size ≤ k := h.t.o
theorem QStay.jb {w w' : World} {B q : Nat} {X X' : QX} {s' : FS} {j' : JS} (h : QStay w w' B q X X' s' j') : X'.jb = X.jb := h.t.jb
theorem QStay.self {w : World} {B q : Nat} {X : QX} {s : FS} {j : JS} (h : QAt w B q X s j) : QStay w w B q X X s j := ⟨QTurn.self h, rfl, Keeps.refl _ _⟩
theorem QStay.later {w w1 w' : World} {B q : Nat} {X X' : QX} {s' : FS} {j' : JS} (t : QStay w w1 B q X X' s' j') (k : Keeps None w1 w') : QStay w w' B q X X' s' j' :=
  ⟨t.t.later k, t.l, t.k.trans k (fun _ h => h) (fun _ _ h => h.elim)⟩
theorem QStay.trans {w w1 w' : World} {B q : Nat} {X X1 X' : QX} {s1 s' : FS} {j1 j' : JS} (t : QStay w w1 B q X X1 s1 j1) (u : QStay w1 w' B q X1 X' s' j') : QStay w w' B q X X' s' j' :=
  ⟨t.t.trans u.t, u.l.trans t.l, t.k.trans u.k (fun _ h => h) (fun k hk h => ⟨(t.o k h.1).elim id (fun h2 => by omega), by rw [← t.l]; exact h.2⟩)⟩
theorem QAt.put {w : World} {B q : Nat} {X : QX} {s : FS} {j j' : JS} (h : QAt w B q X s j) (i : Nat) (x : Value) (e : qcells q X.lv j' = (qcells q X.lv j).set i x) (el : j'.l = j.l) : QStay w (w.setCell ⟨X.jb, i, none⟩ x) B q X X s j' := by
 exact tl104 _
theorem QAt.push {w0 w w4 : World} {B q : Nat} {X : QX} {s : FS} {j : JS} {v' : Value} {r : RV} (h : QAt w0 B q X s j) (k0 : Keeps None w0 w) (k : Keeps (fun k => X.lv.ownBlock = some k) w w4) (o : OwnR w4 B v' (X.rs ++ [r]))
    (hat : v'.ownBlock = X.lv.ownBlock ∨ ∃ n, v'.ownBlock = some n ∧ w.heap.size ≤ n) (hb : Bs w r.A r.b.length r.c r.b) (hp : ∀ b, r.at_ b → w0.heap.size ≤ b ∧ b < w.heap.size) :
    QStay w0 (w4.setCell ⟨X.jb, 3, none⟩ v') B q X ⟨X.L, X.jb, v', X.rs ++ [r]⟩ s { j with l := j.l ++ [r.r] } := by
 exact tl112 _
theorem QTurn.push {wA w0 w w4 : World} {B q : Nat} {XA X : QX} {s : FS} {j : JS} {v' : Value} {r : RV} (t : QTurn wA w0 B q XA X s j) (hBA : B ≤ wA.heap.size) (k0 : Keeps None w0 w) (k : Keeps (fun k => X.lv.ownBlock = some k) w w4) (o : OwnR w4 B v' (X.rs ++ [r]))
    (hat : v'.ownBlock = X.lv.ownBlock ∨ ∃ n, v'.ownBlock = some n ∧ w.heap.size ≤ n) (hb : Bs w r.A r.b.length r.c r.b) (hp : ∀ b, r.at_ b → wA.heap.size ≤ b ∧ b < w.heap.size ∧ ¬ X.S b) :
    QTurn wA (w4.setCell ⟨X.jb, 3, none⟩ v') B q XA ⟨X.L, X.jb, v', X.rs ++ [r]⟩ s { j with l := j.l ++ [r.r] } := by
 exact tl131 _
theorem QTurn.relist {wA w0 : World} {B q : Nat} {XA X : QX} {s : FS} {j : JS} {v : Value} {rs' : List RV} (t : QTurn wA w0 B q XA X s j) (hBA : B ≤ wA.heap.size) (o : OwnR w0 wA.heap.size v rs') (bd : Bds w0 (fun b => wA.heap.size ≤ b ∧ ¬ v.ownBlock = some b) rs')
    (hv : ∀ b, v.ownBlock = some b → ¬ X.S b) (hr : ∀ r ∈ rs', ∀ b, r.at_ b → ¬ X.S b) : QTurn wA (w0.setCell ⟨X.jb, 3, none⟩ v) B q XA ⟨X.L, X.jb, v, rs'⟩ s { j with l := rs'.map RV.r } := by
 exact tl154 _
theorem QAt.rb {w : World} {B q : Nat} {X : QX} {s : FS} {j : JS} (_ : QAt w B q X s j) {A : Option Addr} {m c : Nat} {zs : List Int} (hb : Bs w A m c zs) (hA : ∀ b off, 0 < m → A = some ⟨b, off, none⟩ → ¬ X.S b) : Rb w X.L A m c zs := ⟨hb, fun b off h0 e hS => hA b off h0 e (.inl hS)⟩
theorem QAt.prog {w : World} {B q : Nat} {X : QX} {s : FS} {j : JS} (h : QAt w B q X s j) (a : Int) {A : Option Addr} {m c : Nat} {zs : List Int} (hb : Bs w A m c zs) (hst : 0 ≤ s.steps ∧ s.steps + m ≤ 1000000000000) (hA : ∀ b off, 0 < m → A = some ⟨b, off, none⟩ → ¬ X.S b) :
    Calls Tryz.prog 88 #[.agg #[.pointer (some ⟨q, 0, none⟩), .int .i64 0, .int .i64 2], .int .i64 a, .slice A m c] w fun e w' => e = .returned (.int .i64 (s.gprog 0 2 a zs).2) ∧ ∃ L', QTurn w w' B q X { X with L := L' } (s.gprog 0 2 a zs).1 j :=
  (rgprogram_any B X.L s q 0 2 a A m c zs w h.f h.hq (by decide) (h.rb hb hA) hst).mono fun _ _ ⟨he, L', t⟩ => ⟨he, L', h.turn t⟩
theorem QAt.clear {w : World} {B q : Nat} {X : QX} {s : FS} {j : JS} (h : QAt w B q X s j) (hn : 2 ≤ s.er.length) (k : Int) (hst : 0 ≤ s.steps ∧ s.steps ≤ 1000000000000) (her : ∀ i, 0 ≤ s.er.getD i 0 ∧ s.er.getD i 0 ≤ 1000000000000) :
    Calls Tryz.prog 89 #[.agg #[.pointer (some ⟨q, 0, none⟩), .int .i64 0, .int .i64 2], .int .i64 k] w fun e w' => e = .returned (.int .i64 (s.gclear 0 2 k).2) ∧ ∃ L', QTurn w w' B q X { X with L := L' } (s.gclear 0 2 k).1 j :=
  (rgclear_any B X.L s q 0 2 k w h.f h.hq (by rw [← h.f.el]; exact hn) hst her).mono fun _ _ ⟨he, L', t⟩ => ⟨he, L', h.turn t⟩
open Go.RowKit
set_option maxRecDepth 100000 in
set_option maxHeartbeats 800000 in
theorem rjgood_any (A : Option Addr) (n cap : Nat) (zs : List Int) (w : World) (h : Bs w A n cap zs) (hn : n ≤ 1000000) : Calls Tryz.prog 46 #[.slice A n cap] w (Pure (.int .i64 (epochF zs)) w) := by
 have H := Lib.hid h
 clear h
 go_enter Tryz.func46, Tryz.ntmps46
 go_wp2_with fail
 refine (rsget_any A n cap zs w H.out hn).mono ?_
 exact tl105 _
set_option maxRecDepth 100000 in
theorem rjroom_any (B q : Nat) (X : QX) (s : FS) (j : JS) (w : World) (h : QAt w B q X s j) (hu : j.used ≤ 1024) (hc : j.cur = -1 ∨ j.cur = 0 ∨ j.cur = 1) : Calls Tryz.prog 87 #[.pointer (some ⟨X.jb, 0, none⟩)] w (Same (.int .i64 j.room) w) := by
 have y6 := h.c.cellD 6 _ rfl
 have y4 := h.c.cellD 4 _ rfl
 have y7 := h.c.cellD 7 _ rfl
 have RM : Hid (j.room = if j.torn = true ∨ j.cur = -1 then 0 else 1024 - (j.used : Int)) := rfl
 obtain ⟨jl, je, jc, ju, jt, jr⟩ := j
 dsimp only at y7 y4 y6 RM hu hc
 clear h
 by_cases h1 : jc = -1
 ·have e : Hid ((⟨jl, je, jc, ju, jt, jr⟩ : JS).room = 0) := RM.out.trans (if_pos (.inr h1))
  have d1 : decide (jc < 0) = true := decide_eq_true (by omega)
  rw [e.out]
  clear RM e hc h1
  go_enter Tryz.func87, Tryz.ntmps87
  go_wp2
  go_ret
  exact ⟨rfl, rfl⟩
 ·have d1 : decide (jc < 0) = false := decide_eq_false (by omega)
  cases jt with
  | true =>
   have e : Hid ((⟨jl, je, jc, ju, true, jr⟩ : JS).room = 0) := RM.out.trans (if_pos (.inl rfl))
   rw [e.out]
   clear RM e hc h1
   go_enter Tryz.func87, Tryz.ntmps87
   go_wp2
   go_ret
   exact ⟨rfl, rfl⟩
  | false =>
   have e : Hid ((⟨jl, je, jc, ju, false, jr⟩ : JS).room = 1024 - (ju : Int)) := RM.out.trans (if_neg (fun h => h.elim (fun h => by cases h) h1))
   rw [e.out]
   clear RM e hc h1
   go_enter Tryz.func87, Tryz.ntmps87
   go_wp2
   go_ret
   exact ⟨rfl, rfl⟩
open Go.RowKit
def QDone (w : World) (B q : Nat) (X : QX) (r : FS × JS × Int) (e : Ending) (w' : World) : Prop := e = .returned (.int .i64 r.2.2) ∧ ∃ X', QTurn w w' B q X X' r.1 r.2.1
theorem tl223 (P : Prop) (h : P := by
 have d4 : (x1 == 0) = false := by simpa using q4
 have E0 := Lib.hid (APP4.out.trans (if_pos q4))
 exact tl146 _) : P := h
set_option maxRecDepth 100000 in
theorem tl222 (P : Prop) (h : P := by
 refine MixK.on (InS.mk ((mH.out _).2 ((HLV.out ▸ (HJ.out.later K3.out).c.cellD 3 _ rfl)))) ?_
 refine wpMix_nil ?_
 clear mk0 mn mH
 have J3 := Lib.hid (HJ.out.later K3.out)
 have PUT := Lib.hid (fun w (h : Bs w A2 n c2 body) => rsput_any kind ((ll : Int) + 1) A2 n c2 body w h hn)
 obtain ⟨pl, HPL⟩ : ∃ x, Hid (putL kind ((ll : Int) + 1) body = x) := ⟨_, rfl⟩
 have PL : pl.length ≤ 600 := by rw [← HPL.out]; exact putL_le _ _ _
 obtain ⟨pn, HPN⟩ : ∃ x, Hid (pl.length = x) := ⟨_, rfl⟩
 rw [HPL.out] at PUT APP2
 rw [HPN.out] at PL APP2
 have n0 := N3.out.cellD 0 _ rfl
 have n1 := N3.out.cellD 1 _ rfl
 have n2 := N3.out.cellD 2 _ rfl
 go_wp2_with fail
 refine (PUT.out _ V3.out).mono ?_
 rintro e w5 ⟨v5, rfl, o5, k5⟩
 obtain ⟨A5, c5, rfl, b5, in5⟩ := o5.shape
 rw [HPN.out] at b5 ⊢
 have l5 := b5.le
 have m5 := b5.max
 have B5 := Lib.hid b5
 have I5 := Lib.hid in5
 have K5 := Lib.hid (K3.out.trans k5 (T := None) (fun _ h => h) (fun _ _ h => h))
 have J5 := Lib.hid (J3.out.later k5)
 have N5 := Lib.hid (k5.blk N3.out (fun h => h))
 have V5 := Lib.hid (V3.out.keeps k5 (fun _ _ _ _ _ h => h))
 have S35 := Lib.hid k5.size
 have K35 := Lib.hid K3.out.size
 have TS := Lib.hid (QTurn.still HJ.out K5.out)
 clear o5 k5 b5 in5 PUT J3 N3 V3 K3 n0 n1 n2
 by_cases q1 : kind = 1
 ·exact tl141 _
 have d1 : (kind == 1) = false := by simpa using q1
 by_cases q2 : pn = 0
 ·exact tl142 _
 have d2 : ((pn : Int) == 0) = false := by simp; omega
 have d2n : (pn == 0) = false := by simp; omega
 have APP3 := Lib.hid (APP2.out.trans (if_neg (fun h => h.elim q1 q2)))
 clear APP2 q1
 have RM := Lib.hid (rjroom_any B q _ s j w5 J5.out OK.out.used OK.out.cur)
 obtain ⟨rm, HRM⟩ : ∃ x, Hid (j.room = x) := ⟨_, rfl⟩
 rw [HRM.out] at RM APP3
 go_wp2_with fail
 refine RM.out.mono ?_
 rintro e w' ⟨rfl, rfl⟩
 by_cases q3 : rm < (pn : Int)
 ·exact tl143 _
 have d3 : decide (rm < (pn : Int)) = false := decide_eq_false q3
 have APP4 := Lib.hid (APP3.out.trans (if_neg q3))
 clear APP3
 have hcur : 0 ≤ j.cur ∧ j.cur ≤ 1 := by
  exact tl144 _
 obtain ⟨hc0, hc1⟩ := hcur
 have hu := OK.out.used
 obtain ⟨jc, HJC⟩ : ∃ x, Hid (j.cur = x) := ⟨_, rfl⟩
 obtain ⟨ju, HJU⟩ : ∃ x, Hid (j.used = x) := ⟨_, rfl⟩
 rw [HJC.out] at hc0 hc1
 rw [HJU.out] at hu
 have r0 := J5.out.c.cellD 0 _ rfl
 have r1 := J5.out.c.cellD 1 _ rfl
 have r2 := J5.out.c.cellD 2 _ rfl
 have r4 := J5.out.c.cellD 4 _ rfl
 have r7 := J5.out.c.cellD 7 _ rfl
 dsimp only at r0 r1 r2 r4 r7
 rw [HJC.out] at r4 APP4
 rw [HJU.out] at r7 APP4
 have PRG := Lib.hid ((J5.out.later (Keeps.refl None w5).drew).prog (jc * 1024 + (ju : Int)) B5.out.drew (by obtain ⟨h1, h2⟩ := hst; omega) (fun b off h0 e hS => by have h1 := (I5.out b off e).1; have h2 := HJ.out.lt b hS; have h3 := K35.out; omega))
 obtain ⟨⟨s1, x1⟩, HG⟩ : ∃ x, Hid (s.gprog 0 2 (jc * 1024 + (ju : Int)) pl = x) := ⟨_, rfl⟩
 rw [HG.out] at PRG APP4
 dsimp only at PRG APP4
 have NX : Hid (∀ k, QX.S ⟨L, jb, lv, rs⟩ k → k < w.heap.size) := HJ.out.lt
 clear RM
 go_wp2
 obtain ⟨mpS, mph⟩ : ∃ S : World → Prop, ∀ w', S w' ↔ (w'.cell? ⟨jb, 0, none⟩ = some (.pointer (some ⟨q, 0, none⟩)) ∧ w'.cell? ⟨jb, 1, none⟩ = some (.int .i64 0) ∧ w'.cell? ⟨jb, 2, none⟩ = some (.int .i64 2) ∧ w'.cell? ⟨jb, 4, none⟩ = some (.int .i64 jc) ∧ w'.cell? ⟨jb, 7, none⟩ = some (.int .i64 (ju : Int))) := ⟨_, fun _ => Iff.rfl⟩
 have mpk0 : ∀ x : Memb mpS, x.at_.cell? ⟨jb, 0, none⟩ = some (.pointer (some ⟨q, 0, none⟩)) := fun x => ((mph _).1 x.is).1
 have mpk1 : ∀ x : Memb mpS, x.at_.cell? ⟨jb, 1, none⟩ = some (.int .i64 0) := fun x => ((mph _).1 x.is).2.1
 have mpk2 : ∀ x : Memb mpS, x.at_.cell? ⟨jb, 2, none⟩ = some (.int .i64 2) := fun x => ((mph _).1 x.is).2.2.1
 have mpk3 : ∀ x : Memb mpS, x.at_.cell? ⟨jb, 4, none⟩ = some (.int .i64 jc) := fun x => ((mph _).1 x.is).2.2.2.1
 have mpk4 : ∀ x : Memb mpS, x.at_.cell? ⟨jb, 7, none⟩ = some (.int .i64 (ju : Int)) := fun x => ((mph _).1 x.is).2.2.2.2
 have mpn : Nonempty (Memb mpS) := ⟨⟨(w5).drew, (mph _).2 ⟨r0, r1, r2, r4, r7⟩⟩⟩
 have mpH := Lib.hid mph
 clear mph
 refine wp_region_mix [16, 19] (InS mpS) (by kernel_rfl) (by kernel_rfl) (InS.mk ((mpH.out _).2 ⟨r0, r1, r2, r4, r7⟩)) ?_
 refine wpMix_seg 16 (by kernel_rfl) (by decide) ?_
 simp only [tds]
 repeat (go_big_quiet_step (fail))
 refine wpQuiet_nil ?_
 refine wpMix_eff (by kernel_rfl) ?_
 go_wp2_with fail
 refine PRG.out.mono ?_
 rintro e w6 ⟨rfl, L6, t6⟩
 have T6 := Lib.hid (QTurn.from (Keeps.refl None w5).drew t6)
 have e8 := T6.out.at_.c.cellD 8 _ rfl
 have z8 := T6.out.at_.c.frozen 8
 have T7 := Lib.hid (T6.out.trans (T6.out.at_.put (j' := { j with err := x1 }) 8 (.int .i64 x1) rfl rfl).t)
 try dsimp only at e8 z8 T7
 clear t6
 go_wp2
 refine MixK.on (InS.mk ((mpH.out _).2 (⟨T6.out.at_.c.cellD 0 _ rfl, T6.out.at_.c.cellD 1 _ rfl, T6.out.at_.c.cellD 2 _ rfl, HJC.out ▸ T6.out.at_.c.cellD 4 _ rfl, HJU.out ▸ T6.out.at_.c.cellD 7 _ rfl⟩))) ?_
 refine wpMix_seg 2 (by kernel_rfl) (by decide) ?_
 simp only [tds]
 repeat (go_big_quiet_step (fail))
 refine wpQuiet_nil ?_
 refine wpMix_eff (by kernel_rfl) ?_
 go_wp2
 refine Exists.elim (⟨_, rfl⟩ : ∃ x, w6.setCell ⟨jb, 8, none⟩ (.int .i64 x1) = x) fun w7 hw7 => ?_
 rw [hw7] at T7 ⊢
 clear hw7 T6 e8 z8
 refine MixK.on (InS.mk ((mpH.out _).2 (⟨T7.out.at_.c.cellD 0 _ rfl, T7.out.at_.c.cellD 1 _ rfl, T7.out.at_.c.cellD 2 _ rfl, HJC.out ▸ T7.out.at_.c.cellD 4 _ rfl, HJU.out ▸ T7.out.at_.c.cellD 7 _ rfl⟩))) ?_
 refine wpMix_nil ?_
 clear mpk0 mpk1 mpk2 mpk3 mpk4 mpn mpH
 clear PRG r0 r1 r2 r4 r7
 have TW := Lib.hid (TS.out.trans T7.out)
 have y8 := T7.out.at_.c.cellD 8 _ rfl
 try dsimp only at y8
 by_cases q4 : x1 ≠ 0
 ·exact tl223 _
 obtain rfl : x1 = 0 := Classical.byContradiction q4
 have E0 := Lib.hid (APP4.out.trans (if_neg q4))
 clear APP4 q4
 have N7 := Lib.hid (T7.out.keeps.blk N5.out (fun hS => by have h1 := NX.out _ hS; have h2 := NBL.out; omega))
 have V7 := Lib.hid (V5.out.keeps T7.out.keeps (fun b off h0 _ e hS => by have h1 := NX.out _ hS; have h2 := (PB3.out b off e).1; omega))
 have NB7 : Hid (nb < w5.heap.size) := N5.out.lt
 have LVN : Hid (∀ b, lv.ownBlock = some b → b < w.heap.size) := fun b e => HJ.out.lt b (.inr (.inr (.inl e)))
 have y3 := T7.out.at_.c.cellD 3 _ rfl
 dsimp only at y3
 rw [HLV.out] at y3
 go_wp2
 obtain ⟨mmS, mmh⟩ : ∃ S : World → Prop, ∀ w', S w' ↔ (w'.cell? ⟨jb, 3, none⟩ = some (.slice A1 ll c1) ∧ w'.cell? ⟨nb, 0, none⟩ = some (.int .i64 kind) ∧ w'.cell? ⟨nb, 1, none⟩ = some (.int .i64 ((ll : Int) + 1)) ∧ w'.cell? ⟨nb, 2, none⟩ = some (.slice A2 n c2)) := ⟨_, fun _ => Iff.rfl⟩
 have mmk0 : ∀ x : Memb mmS, x.at_.cell? ⟨jb, 3, none⟩ = some (.slice A1 ll c1) := fun x => ((mmh _).1 x.is).1
 have mmk1 : ∀ x : Memb mmS, x.at_.cell? ⟨nb, 0, none⟩ = some (.int .i64 kind) := fun x => ((mmh _).1 x.is).2.1
 have mmk2 : ∀ x : Memb mmS, x.at_.cell? ⟨nb, 1, none⟩ = some (.int .i64 ((ll : Int) + 1)) := fun x => ((mmh _).1 x.is).2.2.1
 have mmk3 : ∀ x : Memb mmS, x.at_.cell? ⟨nb, 2, none⟩ = some (.slice A2 n c2) := fun x => ((mmh _).1 x.is).2.2.2
 have mmn : Nonempty (Memb mmS) := ⟨⟨(w7).drew, (mmh _).2 ⟨y3, N7.out.cellD 0 _ rfl, N7.out.cellD 1 _ rfl, N7.out.cellD 2 _ rfl⟩⟩⟩
 have mmH := Lib.hid mmh
 clear mmh
 refine wp_region_mix [6, 7, 10] (InS mmS) (by kernel_rfl) (by kernel_rfl) (InS.mk ((mmH.out _).2 ⟨y3, N7.out.cellD 0 _ rfl, N7.out.cellD 1 _ rfl, N7.out.cellD 2 _ rfl⟩)) ?_
 refine wpMix_seg 6 (by kernel_rfl) (by decide) ?_
 simp only [tds]
 repeat (go_big_quiet_step (fail))
 refine wpQuiet_nil ?_
 refine wpMix_eff (by kernel_rfl) ?_
 go_wp2
 first | (refine Exists.elim (⟨_, rfl⟩ : ∃ x, (w7.alloc (.cells #[.int .i64 kind, .int .i64 ((ll : Int) + 1), .slice A2 n c2] 95)).drew = x) fun w8 hw8 => ?_; rw [hw8]) | (refine Exists.elim (⟨_, rfl⟩ : ∃ x, w7.drew.alloc (.cells #[.int .i64 kind, .int .i64 ((ll : Int) + 1), .slice A2 n c2] 95) = x) fun w8 hw8 => ?_; rw [hw8])
 have K8 : Hid (Keeps None w7 w8) := by show Keeps _ _ _; rw [← hw8]; first | exact ((Keeps.refl None w7).alloc _).drew | exact (Keeps.refl None w7).drew.alloc _
 have N8 : Hid (Blk w8 w7.heap.size [.int .i64 kind, .int .i64 ((ll : Int) + 1), .slice A2 n c2] 95) := by show Blk _ _ _ _; rw [← hw8]; first | exact (Blk.new _ [_, _, _] _).drew | exact Blk.new w7.drew [_, _, _] _
 have M8 := Lib.hid (K8.out.blk N7.out (fun h => h))
 have J8 := Lib.hid (T7.out.at_.later K8.out)
 have x3 := J8.out.c.cellD 3 _ rfl
 try dsimp only at x3
 rw [HLV.out] at x3
 clear hw8
 refine MixK.on (InS.mk ((mmH.out _).2 (⟨x3, M8.out.cellD 0 _ rfl, M8.out.cellD 1 _ rfl, M8.out.cellD 2 _ rfl⟩))) ?_
 refine wpMix_eff (by kernel_rfl) ?_
 go_wp2_with (at_builtin; refine Hid.out ?_)
 refine Lib.hid ?_
 refine wpList_append_recs (B := B) (rs := rs) (ns := [⟨kind, (ll : Int) + 1, A2, c2, body⟩]) (HLV.out ▸ J8.out.l) (Rws.one _ (by show Blk _ _ [_, _, .slice A2 body.length c2] _; rw [HL.out]; exact N8.out)) (by rw [RLL.out]; omega) (Nat.le_of_lt (Nat.lt_of_le_of_lt J8.out.jB J8.out.c.lt)) rfl rfl rfl rfl rfl ?_
 intro v9 w9 o9 k9 hat9
 rw [← HLV.out] at k9 hat9
 obtain ⟨A9, c9, hv9, r9, -⟩ := o9.shape
 have m9 := r9.max
 have l9 := r9.le
 have n9e : (rs ++ [(⟨kind, (ll : Int) + 1, A2, c2, body⟩ : RV)]).length = ll + 1 := by rw [List.length_append, RLL.out]; rfl
 rw [n9e] at hv9 l9
 subst hv9
 have PU := Lib.hid (TW.out.push HBA.out K8.out k9 o9 (hat9.imp id (fun h => ⟨_, h, Nat.le_refl _⟩)) ((show Bs w7 A2 body.length c2 body from by rw [HL.out]; exact V7.out).keeps K8.out (fun _ _ _ _ _ h => h)) (fun b ⟨o, h0, e⟩ => ⟨(PB3.out b o e).1, by have h1 := (PB3.out b o e).2; have h2 := S35.out; have h3 := T7.out.keeps.size; have h4 := K8.out.size; omega, fun hS => by have h1 := (PB3.out b o e); have h2 := S35.out; rcases T7.out.o b hS with h3 | h3; exact absurd (NX.out b h3) (by omega); omega⟩))
 have Y9 := Lib.hid (k9.blk J8.out.c (fun e => (J8.out.lo _ e).2 rfl))
 have M9 := Lib.hid (k9.blk M8.out (fun e => by have h1 := LVN.out _ e; have h2 := NBL.out; omega))
 have x3 := Y9.out.cellD 3 _ rfl
 have g3 := Y9.out.frozen 3
 have g7 := Y9.out.frozen 7
 have x7 := Y9.out.cellD 7 _ rfl
 have x8 := Y9.out.cellD 8 _ rfl
 try dsimp only at x3 x7 x8
 rw [HLV.out] at x3
 rw [HJU.out] at x7
 clear o9 k9 hat9 r9 n9e
 go_wp2
 refine MixK.on (InS.mk ((mmH.out _).2 (⟨x3, M9.out.cellD 0 _ rfl, M9.out.cellD 1 _ rfl, M9.out.cellD 2 _ rfl⟩))) ?_
 refine wpMix_seg 2 (by kernel_rfl) (by decide) ?_
 simp only [tds]
 repeat (go_big_quiet_step (fail))
 refine wpQuiet_nil ?_
 refine wpMix_eff (by kernel_rfl) ?_
 go_wp2
 refine MixK.last (by kernel_rfl) ?_
 refine wpMix_nil ?_
 clear mmk0 mmk1 mmk2 mmk3 mmn mmH
 have P7 := Lib.hid (PU.out.at_.put (j' := { j with err := 0, l := j.l ++ [⟨kind, (ll : Int) + 1, body⟩], used := ju + pn }) 7 (.int .i64 ((ju + pn : Nat) : Int)) rfl rfl)
 try dsimp only at P7
 have e6 : ((ju + pn : Nat) : Int) = (ju : Int) + (pn : Int) := by omega
 rw [e6] at P7
 clear e6 y8
 go_wp2
 go_ret
 exact ⟨by rw [E0.out]; rfl, ⟨L6, jb, .slice A9 (ll + 1) c9, rs ++ [⟨kind, (ll : Int) + 1, A2, c2, body⟩]⟩, by rw [E0.out, ← HJC.out]; exact PU.out.trans P7.out.t⟩) : P := h
set_option maxRecDepth 100000 in
set_option maxHeartbeats 3200000 in
theorem rjappend_any (B q : Nat) (X : QX) (s : FS) (j : JS) (kind : Int) (A : Option Addr) (n cap : Nat) (body : List Int) (w : World) (h : QAt w B q X s j) (ok : JOk j) (hb : Bs w A n cap body) (hn : n ≤ 1000000) (hst : 0 ≤ s.steps ∧ s.steps ≤ 1000000000) :
    Calls Tryz.prog 64 #[.pointer (some ⟨X.jb, 0, none⟩), .int .i64 kind, .slice A n cap] w (QDone w B q X (appF s j kind body)) := by
 obtain ⟨L, jb, lv, rs⟩ := X
 dsimp only at h ⊢
 have OK := Lib.hid ok
 have HL := Lib.hid hb.len
 have HB := Lib.hid hb
 have hle := hb.le
 have hmx := hb.max
 obtain ⟨A1, c1, hlv, r1, -⟩ := h.l.shape
 dsimp only at hlv r1
 have l1 := r1.le
 have m1 := r1.max
 have hrl : rs.length = j.l.length := by rw [← h.recs, List.length_map]
 obtain ⟨ll, HLL⟩ : ∃ x, Hid (j.l.length = x) := ⟨_, rfl⟩
 rw [hrl, HLL.out] at hlv l1
 have RLL : Hid (rs.length = ll) := hrl.trans HLL.out
 have HLV := Lib.hid hlv
 have hll : ll ≤ 100000 := by have := ok.ll; rw [HLL.out] at this; exact this
 have y3 := h.c.cellD 3 _ rfl
 have y8 := h.c.cellD 8 _ rfl
 dsimp only at y3 y8
 rw [HLV.out] at y3
 have HJ := Lib.hid h
 have HBA : Hid (B ≤ w.heap.size) := Nat.le_of_lt (Nat.lt_of_le_of_lt h.jB h.c.lt)
 have APP : Hid (appF s j kind body = if j.err ≠ 0 then (s, j, j.err)
 else if kind = 1 ∨ (putL kind ((ll : Int) + 1) body).length = 0 then (s, j, 1)
 else if j.room < ((putL kind ((ll : Int) + 1) body).length : Int) then (s, j, 14)
 else
  if (s.gprog 0 2 (j.cur * 1024 + j.used) (putL kind ((ll : Int) + 1) body)).2 ≠ 0 then
   ((s.gprog 0 2 (j.cur * 1024 + j.used) (putL kind ((ll : Int) + 1) body)).1, { j with err := (s.gprog 0 2 (j.cur * 1024 + j.used) (putL kind ((ll : Int) + 1) body)).2 }, (s.gprog 0 2 (j.cur * 1024 + j.used) (putL kind ((ll : Int) + 1) body)).2)
  else ((s.gprog 0 2 (j.cur * 1024 + j.used) (putL kind ((ll : Int) + 1) body)).1, { j with err := 0, l := j.l ++ [⟨kind, (ll : Int) + 1, body⟩], used := j.used + (putL kind ((ll : Int) + 1) body).length }, 0)) := by
  show _ = _
  rw [← HLL.out]
  rfl
 obtain ⟨res, HRES⟩ : ∃ x, Hid (appF s j kind body = x) := ⟨_, rfl⟩
 rw [HRES.out] at APP ⊢
 clear h hlv r1 hb hrl HRES ok
 by_cases q0 : j.err ≠ 0
 ·have d0n : (j.err != 0) = true := by simpa using q0
  have E0 : Hid (res = (s, j, j.err)) := APP.out.trans (if_pos q0)
  clear APP
  go_enter Tryz.func64, Tryz.ntmps64
  go_wp2
  go_ret
  exact ⟨by rw [E0.out]; rfl, ⟨L, jb, lv, rs⟩, by rw [E0.out]; exact QTurn.self HJ.out⟩
 have q0e : j.err = 0 := Classical.byContradiction q0
 have APP2 := Lib.hid (APP.out.trans (if_neg q0))
 rw [q0e] at y8
 clear APP q0 q0e
 go_enter Tryz.func64, Tryz.ntmps64
 go_wp2
 clear y8
 obtain ⟨mS, mh⟩ : ∃ S : World → Prop, ∀ w', S w' ↔ (w'.cell? ⟨jb, 3, none⟩ = some (.slice A1 ll c1)) := ⟨_, fun _ => Iff.rfl⟩
 have mk0 : ∀ x : Memb mS, x.at_.cell? ⟨jb, 3, none⟩ = some (.slice A1 ll c1) := fun x => ((mh _).1 x.is)
 have mn : Nonempty (Memb mS) := ⟨⟨(w).drew, (mh _).2 (y3)⟩⟩
 have mH := Lib.hid mh
 clear mh
 refine wp_region_mix_swap [8, 10, 11] (InS mS) 0 10 11 8 10 (by kernel_rfl) (by kernel_rfl) (InS.mk ((mH.out _).2 (y3))) ?_ ?_
 ·
  refine wpMix_seg 8 (by kernel_rfl) (by decide) ?_
  simp only [tds, Nat.reduceSub]
  repeat (go_big_quiet_step (fail))
  refine wpQuiet_nil ?_
  refine wpMix_eff (by kernel_rfl) ?_
  go_wp2_with (at_builtin; refine Hid.out ?_)
  refine Lib.hid ?_
  refine wpList_append_bs (Own.nil _ _) HB.out.drew (by simp; omega) (Nat.le_refl _) rfl rfl rfl rfl rfl ?_
  intro v2 w2 o2 kz2
  rw [List.nil_append] at o2
  have k2 := kz2.mono (T := None) (fun i hi e => by simp [Value.ownBlock] at e)
  clear kz2
  obtain ⟨A2, c2, rfl, b2, in2⟩ := o2.shape
  rw [HL.out] at b2 o2 ⊢
  have K2 := Lib.hid ((Keeps.refl None w).drew.trans k2 (T := None) (fun _ h => h) (fun _ _ h => h))
  have B2 := Lib.hid b2
  have I2 := Lib.hid in2
  clear o2 k2 b2 in2
  go_wp2
  refine MixK.on (InS.mk ((mH.out _).2 ((HLV.out ▸ (HJ.out.later K2.out).c.cellD 3 _ rfl)))) ?_
  refine wpMix_seg 1 (by kernel_rfl) (by decide) ?_
  simp only [tds, Nat.reduceSub]
  repeat (go_big_quiet_step (fail))
  refine wpQuiet_nil ?_
  refine wpMix_eff (by kernel_rfl) ?_
  go_wp2
  refine MixK.on (InS.mk ((mH.out _).2 ((HLV.out ▸ (HJ.out.later (K2.out.alloc _)).c.cellD 3 _ rfl)))) ?_
  refine wpMix_eff (by kernel_rfl) ?_
  go_wp2
  refine Exists.elim (⟨_, rfl⟩ : ∃ x, w2.alloc (.cells #[.int .i64 kind, .int .i64 ((ll : Int) + 1), .slice A2 n c2] 95) = x) fun w3 hw3 => ?_
  refine Exists.elim (⟨_, rfl⟩ : ∃ x, w2.heap.size = x) fun nb hnb => ?_
  rw [hw3, hnb]
  have K3 : Hid (Keeps None w w3) := by show Keeps _ _ _; rw [← hw3]; exact K2.out.alloc _
  have N3 : Hid (Blk w3 nb [.int .i64 kind, .int .i64 ((ll : Int) + 1), .slice A2 n c2] 95) := by show Blk _ _ _ _; rw [← hw3, ← hnb]; exact Blk.new _ [_, _, _] _
  have V3 : Hid (Bs w3 A2 n c2 body) := by show Bs _ _ _ _ _; rw [← hw3]; exact B2.out.alloc _
  have PB3 : Hid (∀ b off, A2 = some ⟨b, off, none⟩ → w.heap.size ≤ b ∧ b < w3.heap.size) := fun b off e => by have h1 := I2.out b off e; have h2 : w2.heap.size ≤ w3.heap.size := (by rw [← hw3]; simp); exact ⟨h1.1, by omega⟩
  have NBL : Hid (w.heap.size ≤ nb) := by show _ ≤ _; rw [← hnb]; exact K2.out.size
  clear hw3 hnb K2 B2 I2
  exact tl222 _
 ·
  try dsimp only
  try simp only [tds, Nat.reduceSub]
  refine wpMix_nil ?_
  try dsimp only
  try simp only [tds, Nat.reduceSub]
  refine wpMix_eff (by kernel_rfl) ?_
  go_wp2
  refine Exists.elim (⟨_, rfl⟩ : ∃ x, (w.alloc (.cells #[.int .i64 0, .int .i64 0, .slice none 0 0] 95)).drew = x) fun wy hwy => ?_
  refine Exists.elim (⟨_, rfl⟩ : ∃ x, w.heap.size = x) fun nb hnb => ?_
  rw [hwy, hnb]
  have NBL : Hid (w.heap.size ≤ nb) := by show _ ≤ _; rw [← hnb]; exact Nat.le_refl _
  have KY : Hid (Keeps None w wy) := by show Keeps _ _ _; rw [← hwy]; exact ((Keeps.refl None w).alloc _).drew
  have NY : Hid (Blk wy nb [.int .i64 0, .int .i64 0, .slice none 0 0] 95) := by show Blk _ _ _ _; rw [← hwy, ← hnb]; exact (Blk.new _ [_, _, _] _).drew
  refine MixK.on (InS.mk ((mH.out _).2 ((HLV.out ▸ (HJ.out.later KY.out).c.cellD 3 _ rfl)))) ?_
  refine wpMix_nil ?_
  try dsimp only
  try simp only [tds, Nat.reduceSub]
  refine wpMix_seg 8 (by kernel_rfl) (by decide) ?_
  simp only [tds, Nat.reduceSub]
  repeat (go_big_quiet_step (fail))
  refine wpQuiet_nil ?_
  refine wpMix_eff (by kernel_rfl) ?_
  go_wp2_with (at_builtin; refine Hid.out ?_)
  refine Lib.hid ?_
  refine wpList_append_bs (Own.nil _ _) (HB.out.keeps KY.out (fun _ _ _ _ _ h => h)) (by simp; omega) (Nat.le_refl _) rfl rfl rfl rfl rfl ?_
  intro v2 w2 o2 kz2
  rw [List.nil_append] at o2
  have k2 := kz2.mono (T := None) (fun i hi e => by simp [Value.ownBlock] at e)
  clear kz2
  obtain ⟨A2, c2, rfl, b2, in2⟩ := o2.shape
  rw [HL.out] at b2 o2 ⊢
  have K2 := Lib.hid (KY.out.trans k2 (T := None) (fun _ h => h) (fun _ _ h => h))
  have N2 := Lib.hid (k2.blk NY.out (fun h => h))
  have B2 := Lib.hid b2
  have I2 := Lib.hid in2
  have nq0 := N2.out.cellD 0 _ rfl
  have nq1 := N2.out.cellD 1 _ rfl
  have nq2 := N2.out.cellD 2 _ rfl
  have nf0 := N2.out.frozen 0
  have nf1 := N2.out.frozen 1
  have nf2 := N2.out.frozen 2
  clear o2 k2 b2 in2
  go_wp2
  refine MixK.on (InS.mk ((mH.out _).2 ((HLV.out ▸ (HJ.out.later K2.out).c.cellD 3 _ rfl)))) ?_
  refine wpMix_seg 1 (by kernel_rfl) (by decide) ?_
  simp only [tds, Nat.reduceSub]
  repeat (go_big_quiet_step (fail))
  refine wpQuiet_nil ?_
  refine wpMix_nil ?_
  try dsimp only
  try simp only [tds, Nat.reduceSub]
  refine wpMix_eff (by kernel_rfl) ?_
  go_wp2
  refine Exists.elim (⟨_, rfl⟩ : ∃ x, ((w2.setCell ⟨nb, 0, none⟩ (.int .i64 kind)).setCell ⟨nb, 1, none⟩ (.int .i64 ((ll : Int) + 1))).setCell ⟨nb, 2, none⟩ (.slice A2 n c2) = x) fun w3 hw3 => ?_
  rw [hw3]
  have KS : Hid (Keeps (fun i => i = nb) w2 w3) := by show Keeps _ _ _; rw [← hw3]; exact (((Keeps.refl (fun i => i = nb) w2).put 0 _).put 1 _).put 2 _
  have K3 : Hid (Keeps None w w3) := by show Keeps _ _ _; exact K2.out.trans KS.out (fun _ h => h) (fun i hi e => by have h1 := NBL.out; have e : i = nb := e; omega)
  have N3 : Hid (Blk w3 nb [.int .i64 kind, .int .i64 ((ll : Int) + 1), .slice A2 n c2] 95) := by show Blk _ _ _ _; rw [← hw3]; exact ((N2.out.set 0 _).set 1 _).set 2 _
  have V3 : Hid (Bs w3 A2 n c2 body) := B2.out.keeps KS.out (fun b off _ _ e hb => by have h1 := (I2.out b off e).1; have h2 := NY.out.lt; have hb : b = nb := hb; omega)
  have PB3 : Hid (∀ b off, A2 = some ⟨b, off, none⟩ → w.heap.size ≤ b ∧ b < w3.heap.size) := fun b off e => by have h1 := I2.out b off e; have h2 := KS.out.size; have h3 := KY.out.size; exact ⟨by omega, by omega⟩
  clear hw3 hnb hwy K2 B2 I2 KS N2 NY KY nq0 nq1 nq2 nf0 nf1 nf2
  exact tl222 _
open Go.RowKit
theorem run_append_bs_at {w : World} {B : Nat} {v : Value} {zs ns : List Int} {A : Option Addr} {m c : Nat} (hown : Own w B v zs) (hs : Bs w A m c ns) (hlen : zs.length + m ≤ 140737488355328) (hB : B ≤ w.heap.size) :
    ∃ v' w', (Builtin.append_ #[37, 37] 37 #[v, .slice A m c]).run Tryz.prog w = .ok v' w' ∧ Own w' B v' (zs ++ ns) ∧ Keeps (fun k => v.ownBlock = some k) w w' ∧ (v'.ownBlock = v.ownBlock ∨ v'.ownBlock = some w.heap.size) := by
 obtain ⟨i, hi, hz0, hz1, hz2⟩ := info_parts Tryz.info5
 cases A with
 | none =>
  obtain ⟨rfl, rfl⟩ := hs.nil rfl
  have e : ns = [] := List.eq_nil_of_length_eq_zero hs.len
  subst e
  exact ⟨v, w, run_append_owned_none (P := Tryz.prog) w B 37 37 5 i 1 Tryz.underlying37 hi v _ _ hown.1, by rw [List.append_nil]; exact hown, Keeps.refl _ _, .inl rfl⟩
 | some a =>
  have hcells : ∀ j u, (ns.map (Value.int .u8))[j]? = some u → w.cell? (a.add j) = some u := by
   exact tl31 _
  obtain ⟨v', w', hr, ho, hg, -, hat⟩ := run_append_own_at (P := Tryz.prog) w B 37 37 5 i (.int .u8 0) 1 1 Tryz.underlying37 hi hz0 hz1 hz2 rfl (by decide) v zs.length (zs.map (.int .u8)) hown.1 a m c (ns.map (.int .u8)) (by simp [hs.len]) hcells
   (by intro u hu; obtain ⟨z, _, rfl⟩ := List.mem_map.1 hu; rfl) (by unfold maxLen; omega) (by omega) hB
  refine ⟨v', w', hr, ⟨?_, ?_⟩, (Keeps.refl _ w).grown hg (fun k hk _ => hk), hat⟩
  ·rw [List.length_append, hs.len, List.map_append]; exact ho
  ·intro z hz
   rcases List.mem_append.1 hz with hz | hz
   ·exact hown.2 z hz
   ·exact hs.byte z hz
theorem wpList_append_bs_at {ops : Array Oper} {rest : List Oper} {o : Oper} {a : Act} {Q : Exit → Act → World → Prop} {s x : Operand} {w : World} {B : Nat} {v : Value} {zs ns : List Int} {A : Option Addr} {m c : Nat}
    (hown : Own w B v zs) (hs : Bs w A m c ns) (hlen : zs.length + m ≤ 140737488355328) (hB : B ≤ w.heap.size) (hg : o.guard = none) (hty : o.type = 37) (ho : o.op = .call { callee := .builtin .append, args := #[s, x], argTypes := #[37, 37] }) (h1 : a.eval s = v) (h2 : a.eval x = .slice A m c)
    (h : ∀ v' w', Own w' B v' (zs ++ ns) → Keeps (fun k => v.ownBlock = some k) w w' → (v'.ownBlock = v.ownBlock ∨ v'.ownBlock = some w.heap.size) → wpList Tryz.prog ops Q rest (a.put o.dst v') w') : wpList Tryz.prog ops Q (o :: rest) a w := by
 obtain ⟨v', w', hr, h3, h4, h5⟩ := run_append_bs_at hown hs hlen hB
 exact wpList_append_run hr hg hty ho h1 h2 (h v' w' h3 h4 h5)
theorem Own.blockB {w : World} {B : Nat} {v : Value} {zs : List Int} (h : Own w B v zs) {b : Nat} (hb : v.ownBlock = some b) : B ≤ b ∧ b < w.heap.size := by
 rcases h.1.2 with ⟨rfl, _⟩ | ⟨g, cap, cur, rfl, hg, hgg, _⟩
 ·cases hb
 ·obtain rfl : g = b := by simpa [Value.ownBlock] using hb
  exact ⟨hg, (Array.getElem?_eq_some_iff.1 hgg).1⟩
open Go.RowKit
theorem packF_if : ∀ (l : List Rec) (out : List Int), out.length ≤ 1008 → packF out l = if (∀ r ∈ l, r.k ≠ 1 ∧ 0 < r.put.length) ∧ out.length + (pkL l).length ≤ 1008 then some (out ++ pkL l) else none
  | [], out, h => by
    unfold packF
    rw [if_pos ⟨fun r hr => (by cases hr), by simp [pkL]; exact h⟩]
    simp [pkL]
  | r :: l, out, h => by
    have e : pkL (r :: l) = r.put ++ pkL l := rfl
    unfold packF
    by_cases hb : r.k = 1 ∨ r.put.length = 0 ∨ 1008 < out.length + r.put.length
    · rw [if_pos hb, if_neg]
      rintro ⟨h1, h2⟩
      have h3 := h1 r List.mem_cons_self
      rw [e, List.length_append] at h2
      rcases hb with hb | hb | hb
      · exact h3.1 hb
      · omega
      · omega
    · have hb1 : r.k ≠ 1 := fun h => hb (.inl h)
      have hb2 : ¬ r.put.length = 0 := fun h => hb (.inr (.inl h))
      have hb3 : ¬ 1008 < out.length + r.put.length := fun h => hb (.inr (.inr h))
      rw [if_neg hb, packF_if l (out ++ r.put) (by rw [List.length_append]; omega)]
      have c : ((∀ x ∈ l, x.k ≠ 1 ∧ 0 < x.put.length) ∧ (out ++ r.put).length + (pkL l).length ≤ 1008) ↔ ((∀ x ∈ r :: l, x.k ≠ 1 ∧ 0 < x.put.length) ∧ out.length + (pkL (r :: l)).length ≤ 1008) := by
        rw [e, List.length_append, List.length_append]
        constructor
        · rintro ⟨h1, h2⟩
          refine ⟨fun x hx => ?_, by omega⟩
          rcases List.mem_cons.1 hx with rfl | hx
          · exact ⟨hb1, by omega⟩
          · exact h1 x hx
        · rintro ⟨h1, h2⟩
          exact ⟨fun x hx => h1 x (List.mem_cons_of_mem _ hx), by omega⟩
      by_cases hc : (∀ x ∈ r :: l, x.k ≠ 1 ∧ 0 < x.put.length) ∧ out.length + (pkL (r :: l)).length ≤ 1008
      · rw [if_pos (c.2 hc), if_pos hc, e, List.append_assoc]
      · rw [if_neg (fun h => hc (c.1 h)), if_neg hc]
theorem packF_bad {l : List Rec} {i : Nat} {r : Rec} (h : l[i]? = some r) (hb : r.k = 1 ∨ r.put.length = 0) : packF [] l = none := by
 rw [packF_if l [] (by decide), if_neg]
 rintro ⟨h1, -⟩
 have h2 := h1 r (List.mem_of_getElem? h)
 rcases hb with hb | hb
 ·exact h2.1 hb
 ·omega
theorem pkL_take_succ {l : List Rec} {i : Nat} {r : Rec} (h : l[i]? = some r) : pkL (l.take (i + 1)) = pkL (l.take i) ++ r.put := by
 rw [List.take_add_one, h, pkL_append]
 simp [pkL]
theorem numR_get {l : List Rec} {i : Nat} {r : Rec} (h : l[i]? = some r) : (numR 0 l)[i]? = some ⟨r.k, (i : Int) + 1, r.b⟩ := by
 have key : ∀ (l : List Rec) (j i : Nat) (r : Rec), l[i]? = some r → (numR j l)[i]? = some ⟨r.k, ((j + i : Nat) : Int) + 1, r.b⟩ := by
  intro l
  induction l with
  | nil => intro j i r h; cases h
  | cons x l ih =>
   intro j i r h
   cases i with
   | zero =>
    obtain rfl : x = r := by simpa using h
    simp [numR]
   | succ i =>
    have h2 : l[i]? = some r := by simpa using h
    have h3 := ih (j + 1) i r h2
    simp only [numR, List.getElem?_cons_succ]
    rw [h3, show j + 1 + i = j + (i + 1) by omega]
 have h1 := key l 0 i r h
 rw [Nat.zero_add] at h1
 exact h1
theorem tl224 (P : Prop) (h : P := by
 go_enter Tryz.func65, Tryz.ntmps65
 go_wp2
 go_ret
 exact ⟨by rw [E0.out]; rfl, ⟨L, jb, lv, rs⟩, by rw [E0.out]; exact QTurn.self HJ.out⟩) : P := h
theorem tl226 (P : Prop) (h : P := by
 have d1 : (rk == 1) = true := by simpa using q1
 have E0 : Hid (res = (s, j, 1)) := by
  show res = _
  rw [CMP3.out, packF_bad RI.out (.inl (show rk = 1 from q1))]
 clear CMP3 q1
 go_wp2
 go_ret
 exact ⟨by rw [E0.out]; rfl, ⟨L, jb, lv, rs⟩, by rw [E0.out]; exact QTurn.still HJ.out KW5.out⟩) : P := h
theorem tl228 (P : Prop) (h : P := by
 show res = _
 rw [CMP3.out, packF_bad RI.out (.inr (show (putL rk ((i : Int) + 1) rb).length = 0 by rw [HPL.out, HPN.out]; exact q2))]) : P := h
theorem tl227 (P : Prop) (h : P := by
 have E0 : Hid (res = (s, j, 1)) := by
  exact tl228 _
 have d2 : ((pn : Int) == 0) = true := by simpa using q2
 have d2n : (pn == 0) = true := by simpa using q2
 clear CMP3 q2 q1
 go_wp2
 go_ret
 exact ⟨by rw [E0.out]; rfl, ⟨L, jb, lv, rs⟩, by rw [E0.out]; exact QTurn.still HJ.out KW5.out⟩) : P := h
theorem tl229 (P : Prop) (h : P := by
 have ha := (OA7.out.block e).2
 rcases NEWB.out b h with h2 | h2
 ·rcases NEWA.out b e with h1 | h1
  ·exact SEP.out b h1 h2
  ·have := OLDB.out b h2; omega
 ·omega) : P := h
theorem tl231 (P : Prop) (h : P := by
 obtain ⟨⟨p1, p2, p3⟩, p4⟩ := BD.out.p x hx b hb
 refine ⟨⟨p1, fun e => ?_, fun e => ?_⟩, Nat.lt_of_lt_of_le p4 K78.out.size⟩
 ·rcases NEWA.out b e with h1 | h1
  ·exact p2 h1
  ·omega
 ·rcases NEWB.out b e with h1 | h1
  ·exact p3 h1
  ·omega) : P := h
theorem tl232 (P : Prop) (h : P := by
 obtain ⟨off, h0, e⟩ := hb
 have h1 := PB3.out b off e
 have z8 := k8.size
 refine ⟨⟨by omega, fun e2 => ?_, fun e2 => ?_⟩, by omega⟩
 ·rcases NEWA.out b e2 with h2 | h2
  ·have := OLD.out b h2; omega
  ·omega
 ·rcases NEWB.out b e2 with h2 | h2
  ·have := OLDB.out b h2; omega
  ·omega) : P := h
theorem tl230 (P : Prop) (h : P := by
 refine Bds.append ⟨fun x hx => (BD.out.keeps K78.out (fun b hp _ h => h.elim hp.2.1 hp.2.2)).bs x hx, fun x hx b hb => ?_⟩ (Bds.one (by show Bs w8 A2 rb.length c2 rb; rw [HRN.out]; exact V7.out.keeps k8 (fun b off _ _ e h => by have h1 := OLDB.out b h; have h2 := (PB3.out b off e).1; omega)) (fun b hb => ?_))
 ·exact tl231 _
 ·exact tl232 _) : P := h
theorem tl234 (P : Prop) (h : P := by
 obtain rfl : r = ⟨rk, (i : Int) + 1, rb⟩ := by simpa using h
 exact ⟨q1, by show 0 < (putL _ _ _).length; rw [HPL.out, HPN.out]; omega⟩) : P := h
theorem tl233 (P : Prop) (h : P := by
 rw [List.take_add_one, RI.out] at hr
 rcases List.mem_append.1 hr with h | h
 ·exact HOK.out r h
 ·exact tl234 _) : P := h
set_option maxRecDepth 100000 in
theorem tl225 (P : Prop) (h : P := by
 refine MixK.on (InS.mk ((mH.out _).2 (⟨(AC.out _ K3.out).1, (AC.out _ K3.out).2⟩))) ?_
 refine wpMix_nil ?_
 clear mk0 mk1 mn mH
 have PUT := Lib.hid (fun w (h : Bs w A2 rn c2 rb) => rsput_any rk ((i : Int) + 1) A2 rn c2 rb w h (by omega))
 obtain ⟨pl, HPL⟩ : ∃ x, Hid (putL rk ((i : Int) + 1) rb = x) := ⟨_, rfl⟩
 have PL : pl.length ≤ 600 := by rw [← HPL.out]; exact putL_le _ _ _
 obtain ⟨pn, HPN⟩ : ∃ x, Hid (pl.length = x) := ⟨_, rfl⟩
 rw [HPL.out] at PUT
 rw [HPN.out] at PL
 have n0 := N3.out.cellD 0 _ rfl
 have n1 := N3.out.cellD 1 _ rfl
 have n2 := N3.out.cellD 2 _ rfl
 go_wp2_with fail
 refine (PUT.out _ V3.out).mono ?_
 rintro e w5 ⟨v5, rfl, o5, k5⟩
 obtain ⟨A5, c5, rfl, b5, in5⟩ := o5.shape
 rw [HPN.out] at b5 ⊢
 have l5 := b5.le
 have m5 := b5.max
 have B5 := Lib.hid b5
 have I5 := Lib.hid in5
 have K5 := Lib.hid (K3.out.trans k5 (T := None) (fun _ h => h) (fun _ _ h => h))
 have N5 := Lib.hid (k5.blk N3.out (fun h => h))
 have V5 := Lib.hid (V3.out.keeps k5 (fun _ _ _ _ _ h => h))
 have Z35 : w3.heap.size ≤ w5.heap.size := k5.size
 have Z3 : wv.heap.size ≤ w3.heap.size := K3.out.size
 have Z5 : nb < w5.heap.size := N5.out.lt
 have KW5 := Lib.hid (HK.out.trans K5.out (T := None) (fun _ h => h) (fun _ _ h => h))
 have NIL := NBL.out
 clear o5 k5 b5 in5 PUT N3 V3 K3 n0 n1 n2
 have n0 := N5.out.cellD 0 _ rfl
 by_cases q1 : rk = 1
 ·exact tl226 _
 have d1 : (rk == 1) = false := by simpa using q1
 by_cases q2 : pn = 0
 ·exact tl227 _
 have d2 : ((pn : Int) == 0) = false := by simp; omega
 have d2n : (pn == 0) = false := by simp; omega
 have OA5 := Lib.hid (OA.out.keeps K5.out (fun _ _ h => h))
 have OB5 := Lib.hid (OB.out.keeps K5.out (fun _ _ h => h))
 have n1 := N5.out.cellD 1 _ rfl
 have n2 := N5.out.cellD 2 _ rfl
 go_wp2_with (at_builtin; refine Hid.out ?_)
 obtain ⟨w6, hw6⟩ : ∃ x, w5.alloc (.cells #[.int .i64 rk, .int .i64 ((i : Int) + 1), .slice A2 rn c2] 95) = x := ⟨_, rfl⟩
 have K56 : Hid (Keeps None w5 w6) := by rw [← hw6]; exact (Keeps.refl None w5).alloc _
 have LIT : Hid (Blk w6 w5.heap.size [.int .i64 rk, .int .i64 ((i : Int) + 1), .slice A2 rn c2] 95) := by rw [← hw6]; exact Blk.new w5 [.int .i64 rk, .int .i64 ((i : Int) + 1), .slice A2 rn c2] 95
 rw [hw6]
 clear hw6
 have ZW : w.heap.size ≤ wv.heap.size := HK.out.size
 have Z56 : w5.heap.size ≤ w6.heap.size := K56.out.size
 refine Lib.hid ?_
 refine wpList_append_recs (B := w.heap.size) (rs := rsA) (ns := [⟨rk, (i : Int) + 1, A2, c2, rb⟩]) (OA5.out.keeps K56.out (fun _ _ h => h)) (Rws.one _ (by show Blk _ _ [_, _, .slice A2 rb.length c2] _; rw [HRN.out]; exact LIT.out)) (by have := HMA.out; have h1 := congrArg List.length this; rw [List.length_map, List.length_take] at h1; omega) (by omega) (by rfl) (by rfl) (by rfl) (by rfl) (by rfl) ?_
 intro va7 w7 o7 k7 hat7
 have Z67 : w6.heap.size ≤ w7.heap.size := k7.size
 have OLD : Hid (∀ b, va.ownBlock = some b → b < wv.heap.size) := fun b e => (OA.out.block e).2
 have OLDB : Hid (∀ b, vb.ownBlock = some b → b < wv.heap.size) := fun b e => (OB.out.blockB e).2
 have NEWA : Hid (∀ b, va7.ownBlock = some b → va.ownBlock = some b ∨ b = w6.heap.size) := fun b e => by
  rcases hat7 with h | h
  ·exact .inl (h.symm.trans e)
  ·rw [e] at h; exact .inr (Option.some.inj h)
 have KV7 : Hid (Keeps (fun k => va.ownBlock = some k) wv w7) := (K5.out.trans K56.out (T := None) (fun _ h => h) (fun _ _ h => h)).trans k7 (fun _ h => h.elim) (fun _ _ h => h)
 have OB7 := Lib.hid (OB.out.keeps KV7.out (fun b e h => SEP.out b h e))
 have B7 := Lib.hid ((B5.out.keeps K56.out (fun _ _ _ _ _ h => h)).keeps k7 (fun b off _ _ e h => by have h1 := OLD.out b h; have h2 := (I5.out b off e).1; omega))
 have V7 := Lib.hid ((V5.out.keeps K56.out (fun _ _ _ _ _ h => h)).keeps k7 (fun b off _ _ e h => by have h1 := OLD.out b h; have h2 := (PB3.out b off e).1; omega))
 have LB7 : (pkL (recs.take i)).length ≤ 60000000 := LBD.out i (by omega)
 have OA7 := Lib.hid o7
 obtain ⟨Aq, cq, hvq, rq, -⟩ := o7.shape
 have lq := rq.le
 have mq := rq.max
 have HVQ := Lib.hid hvq
 clear o7 hat7 rq hvq OA5 OB5 B5 V5 LIT n0 n1 n2 N5
 go_wp2_with (at_builtin; refine Hid.out ?_)
 refine Lib.hid ?_
 refine wpList_append_bs_at OB7.out B7.out (by omega) (by omega) rfl rfl rfl rfl rfl ?_
 intro vb8 w8 o8 k8 hat8
 have NEWB : Hid (∀ b, vb8.ownBlock = some b → vb.ownBlock = some b ∨ b = w7.heap.size) := fun b e => by
  rcases hat8 with h | h
  ·exact .inl (h.symm.trans e)
  ·rw [e] at h; exact .inr (Option.some.inj h)
 have OA8 := Lib.hid (OA7.out.keeps k8 (fun b e h => by
  rcases NEWA.out b e with h1 | h1
  ·exact SEP.out b h1 h
  ·have h2 := OLDB.out b h; omega))
 have SEP8 : Hid (∀ b, va7.ownBlock = some b → ¬ vb8.ownBlock = some b) := fun b e h => by
  exact tl229 _
 have K78 : Hid (Keeps (fun k => va.ownBlock = some k ∨ vb.ownBlock = some k) wv w8) := KV7.out.trans k8 (fun _ h => .inl h) (fun _ _ h => .inr h)
 have BD8 : Hid (Bds w8 (fun b => w.heap.size ≤ b ∧ ¬ va7.ownBlock = some b ∧ ¬ vb8.ownBlock = some b) (rsA ++ [⟨rk, (i : Int) + 1, A2, c2, rb⟩])) := by
  exact tl230 _
 have OB8 : Hid (Own w8 w.heap.size vb8 (pkL (recs.take (i + 1)))) := by
  show Own _ _ _ _
  rw [pkL_take_succ RI.out, show (Rec.put ⟨rk, (i : Int) + 1, rb⟩) = pl from HPL.out]
  exact o8
 have MA8 : Hid ((rsA ++ [(⟨rk, (i : Int) + 1, A2, c2, rb⟩ : RV)]).map RV.r = recs.take (i + 1)) := by
  show _ = _
  rw [List.map_append, HMA.out, List.take_add_one, RI.out]
  rfl
 have OK8 : Hid (∀ r ∈ recs.take (i + 1), r.k ≠ 1 ∧ 0 < r.put.length) := fun r hr => by
  exact tl233 _
 have KW8 : Hid (Keeps None w w8) := HK.out.trans K78.out (fun _ h => h) (fun b hb h => by
  rcases h with h | h
  ·have := (OA.out.block h).1; omega
  ·have := (OB.out.blockB h).1; omega)
 clear o8 k8 hat8 k7 OA OB BD SEP OLD OLDB NEWA NEWB KV7 OB7 B7 V7 OA7 K78 HMA HOK CMP3 K56 KW5 K5
 go_wp2
 go_roundw
 case rel => exact ⟨i + 1, va7, vb8, rsA ++ [⟨rk, (i : Int) + 1, A2, c2, rb⟩], by omega, ⟨rfl, rfl, by go_num⟩, OA8.out, BD8.out, OB8.out, SEP8.out, MA8.out, OK8.out, KW8.out⟩
 case measure => simp [intOf]; omega) : P := h
theorem tl235 (P : Prop) (h : P := by
 have E0 : Hid (res = (s1, { j with err := x1 }, x1)) := by show res = _; rw [CMP4.out, LF.out, if_pos qx]
 clear CMP4 LF
 go_wp2
 go_ret
 exact ⟨by rw [E0.out]; rfl, ⟨L1, jb, lv, rs⟩, by rw [E0.out]; exact TS.out.trans U1.out⟩) : P := h
theorem tl236 (P : Prop) (h : P := by
 have E0 : Hid (res = (s2, { j with err := x2 }, x2)) := by show res = _; rw [CMP4.out, LF.out, if_pos qx]
 clear CMP4 LF
 go_wp2
 go_ret
 exact ⟨by rw [E0.out]; rfl, ⟨L2, jb, lv, rs⟩, by rw [E0.out]; exact TS.out.trans U2.out⟩) : P := h
theorem tl237 (P : Prop) (h : P := by
 have dx : (x3 == 0) = false := by simpa using qx
 have E0 : Hid (res = (s3, { j with err := x3 }, x3)) := by show res = _; rw [CMP4.out, LF.out, if_pos qx]
 clear CMP4 LF
 go_wp2
 go_ret
 exact ⟨by rw [E0.out]; rfl, ⟨L4, jb, lv, rs⟩, by rw [E0.out]; exact TS.out.trans U4.out⟩) : P := h
theorem tl238 (P : Prop) (h : P := by
 try dsimp only at P3 P4 P5 P6 P7
 have e4 : ((ep + 1 : Nat) : Int) = (ep : Int) + 1 := by omega
 have e6 : ((16 + bn : Nat) : Int) = 16 + (bn : Int) := by omega
 have PF := Lib.hid (P3.out.trans (P5.out.t.trans (P4.out.t.trans (P6.out.t.trans P7.out.t))))
 rw [e4, e6] at PF
 clear P3 P4 P5 P6 P7 e4 e6 e0 e1 e2 e5
 have z5 := U4.out.at_.c.cellD 5 _ rfl
 have f3 := U4.out.at_.c.frozen 3
 have f4 := U4.out.at_.c.frozen 4
 have f5 := U4.out.at_.c.frozen 5
 have f6 := U4.out.at_.c.frozen 6
 have f7 := U4.out.at_.c.frozen 7
 have z3 := U4.out.at_.c.cellD 3 _ rfl
 have z4 := U4.out.at_.c.cellD 4 _ rfl
 have z6 := U4.out.at_.c.cellD 6 _ rfl
 have z7 := U4.out.at_.c.cellD 7 _ rfl
 dsimp only at z3 z4 z5 z6 z7 f3 f4 f5 f6 f7
 rw [HEP.out] at z5
 obtain ⟨A9, c9, hlv9, r9, -⟩ := HJ.out.l.shape
 dsimp only at hlv9
 rw [hlv9] at z3
 obtain ⟨Aw, cw, hva, -, -⟩ := OA.out.shape
 rw [hva] at PF ⊢
 clear hlv9 r9 O4 D4 U4 OA BD OB
 go_wp2
 go_ret
 exact ⟨by rw [E0.out]; rfl, ⟨L4, jb, _, rsA⟩, by rw [E0.out, HBN.out, HEP.out]; exact PF.out⟩) : P := h
set_option maxRecDepth 100000 in
set_option maxHeartbeats 6400000 in
theorem rjcompact_any (B q : Nat) (X : QX) (s : FS) (j : JS) (A : Option Addr) (n cap : Nat) (rs0 : List RV) (P : Nat → Prop) (w : World) (h : QAt w B q X s j) (hn2 : 2 ≤ s.er.length) (ok : JOk j) (hr : Rws w A n cap rs0) (hb : Bds w P rs0) (hn : n ≤ 100000) (hbl : ∀ r ∈ rs0, r.b.length ≤ 1000000) (m : Nat) (rm : JRm s (m + 1625)) :
    Calls Tryz.prog 65 #[.pointer (some ⟨X.jb, 0, none⟩), .slice A n cap] w (QDone w B q X (cmpF s j (rs0.map RV.r))) := by
 obtain ⟨L, jb, lv, rs⟩ := X
 dsimp only at h ⊢
 have HJ := Lib.hid h
 have OK := Lib.hid ok
 have HRM := Lib.hid rm
 have HBA : Hid (B ≤ w.heap.size) := Nat.le_of_lt (Nat.lt_of_le_of_lt h.jB h.c.lt)
 have HR := Lib.hid hr
 have HBD := Lib.hid hb
 have HRL := Lib.hid hr.len
 have hle := hr.le
 have hmx := hr.max
 have HBL := Lib.hid hbl
 have HN2 := Lib.hid hn2
 obtain ⟨recs, HRE⟩ : ∃ x, Hid (numR 0 (rs0.map RV.r) = x) := ⟨_, rfl⟩
 have CMP : Hid (cmpF s j (rs0.map RV.r) = if j.err ≠ 0 then (s, j, j.err)
 else if 4294967295 ≤ j.epoch then (s, j, 14)
 else match packF [] recs with
  | none => (s, j, 1)
  | some b => if (layF s (nextZ j.cur) j.epoch b).2 ≠ 0 then ((layF s (nextZ j.cur) j.epoch b).1, { j with err := (layF s (nextZ j.cur) j.epoch b).2 }, (layF s (nextZ j.cur) j.epoch b).2)
   else ((layF s (nextZ j.cur) j.epoch b).1, ⟨recs, j.epoch + 1, nextZ j.cur, 16 + b.length, false, 0⟩, 0)) := by
  show _ = _
  rw [← HRE.out]
  rfl
 have HRC : Hid (recs.length = n) := by show _ = _; rw [← HRE.out, numR_len, List.length_map, HRL.out]
 have HGET : Hid (∀ (i : Nat) (r : RV), rs0[i]? = some r → recs[i]? = some ⟨r.k, (i : Int) + 1, r.b⟩) := fun i r hi => by
  rw [← HRE.out]
  exact numR_get (l := rs0.map RV.r) (r := r.r) (by rw [List.getElem?_map, hi]; rfl)
 have LBD : Hid (∀ i, i ≤ n → (pkL (recs.take i)).length ≤ 60000000) := fun i hi => by
  have key : ∀ l : List Rec, (pkL l).length ≤ 600 * l.length := by
   intro l
   induction l with
   | nil => simp [pkL]
   | cons r l ih =>
    have h1 : (r.put).length ≤ 600 := putL_le _ _ _
    have e : pkL (r :: l) = r.put ++ pkL l := rfl
    rw [e, List.length_append, List.length_cons]
    omega
  have h1 := key (recs.take i)
  have h2 : (recs.take i).length ≤ i := List.length_take_le _ _
  omega
 obtain ⟨res, HRES⟩ : ∃ x, Hid (cmpF s j (rs0.map RV.r) = x) := ⟨_, rfl⟩
 rw [HRES.out] at CMP ⊢
 have y3 := h.c.cellD 3 _ rfl
 have y5 := h.c.cellD 5 _ rfl
 have y8 := h.c.cellD 8 _ rfl
 dsimp only at y3 y5 y8
 obtain ⟨ep, HEP⟩ : ∃ x, Hid (j.epoch = x) := ⟨_, rfl⟩
 have hep : ep ≤ 4294967295 := by rw [← HEP.out]; exact ok.epoch
 rw [HEP.out] at y5
 clear h hr hb hbl HRES ok rm hn2
 by_cases q0 : j.err ≠ 0
 ·have d0n : (j.err != 0) = true := by simpa using q0
  have E0 : Hid (res = (s, j, j.err)) := CMP.out.trans (if_pos q0)
  clear CMP
  exact tl224 _
 have q0e : j.err = 0 := Classical.byContradiction q0
 have CMP2 := Lib.hid (CMP.out.trans (if_neg q0))
 rw [q0e] at y8
 clear CMP q0 q0e
 by_cases q1 : 4294967295 ≤ ep
 ·have d1 : decide ((4294967295 : Int) < (ep : Int) + 1) = true := decide_eq_true (by omega)
  have E0 : Hid (res = (s, j, 14)) := CMP2.out.trans (if_pos (by rw [HEP.out]; exact q1))
  clear CMP2
  exact tl224 _
 have d1 : decide ((4294967295 : Int) < (ep : Int) + 1) = false := decide_eq_false (by omega)
 have CMP3 := Lib.hid (CMP2.out.trans (if_neg (by rw [HEP.out]; exact q1)))
 clear CMP2
 go_enter Tryz.func65, Tryz.ntmps65
 go_wp2
 clear y3 y5 y8 d1
 go_loopw [5, 6, 7] (fun va vb iv wr => ∃ (i : Nat) (va' vb' : Value) (rsA : List RV), i ≤ n ∧ (va = va' ∧ vb = vb' ∧ iv = .int .i64 (i : Int)) ∧ OwnR wr w.heap.size va' rsA ∧ Bds wr (fun b => w.heap.size ≤ b ∧ ¬ va'.ownBlock = some b ∧ ¬ vb'.ownBlock = some b) rsA ∧ Own wr w.heap.size vb' (pkL (recs.take i)) ∧ (∀ b, va'.ownBlock = some b → ¬ vb'.ownBlock = some b) ∧ rsA.map RV.r = recs.take i ∧ (∀ r ∈ recs.take i, r.k ≠ 1 ∧ 0 < r.put.length) ∧ Keeps None w wr) (fun _ _ iv _ => n - (intOf iv).toNat)
 case atStart => exact ⟨0, _, _, [], Nat.zero_le _, ⟨rfl, rfl, rfl⟩, OwnR.nil _ _, Bds.nil _ _, Own.nil _ _, (fun b e => by cases e), rfl, (fun r hr => by cases hr), Keeps.refl _ _⟩
 case round =>
  obtain ⟨i, va, vb, rsA, hi, ⟨ea, eb, rfl⟩, hoa, hbd, hob, hsep, hma, hok, hk⟩ := hrel
  obtain rfl := ea.symm
  obtain rfl := eb.symm
  obtain ⟨wv, rfl⟩ : ∃ x, x = wr := ⟨_, rfl⟩
  have OA := Lib.hid hoa
  have BD := Lib.hid hbd
  have OB := Lib.hid hob
  have SEP := Lib.hid hsep
  have HMA := Lib.hid hma
  have HOK := Lib.hid hok
  have HK := Lib.hid hk
  clear hoa hbd hob hsep hma hok hk
  by_cases hlt : i < n
  ·have hir : i < rs0.length := by rw [HRL.out]; exact hlt
   obtain ⟨r, hr0⟩ : ∃ r, rs0[i]? = some r := ⟨_, List.getElem?_eq_getElem hir⟩
   obtain ⟨gb, off, rfl, hgb, hc⟩ := HR.out.at_ (by omega)
   obtain ⟨x0, x1, x2⟩ := hc i r hr0
   have BR := Lib.hid ((HBD.out.bs r (List.mem_of_getElem? hr0)).keeps HK.out (fun _ _ _ _ _ h => h))
   have RI := Lib.hid (HGET.out i r hr0)
   have hrb := HBL.out r (List.mem_of_getElem? hr0)
   have hc2 := hc i r hr0
   clear hc
   obtain ⟨rk, rsq, rA, rc, rb⟩ := r
   unfold RV.v at x2 hc2
   dsimp only at x0 x1 x2 BR RI hrb hc2
   obtain ⟨rn, hrn⟩ : ∃ z, rb.length = z := ⟨_, rfl⟩
   have HRN := Lib.hid hrn
   rw [hrn] at x2 BR hrb hc2
   have br1 := BR.out.le
   have br2 := BR.out.max
   have AC : Hid (∀ w', Keeps None wv w' → w'.cell? ⟨gb, off + i * 3, none⟩ = some (.int .i64 rk) ∧ w'.cell? ⟨gb, off + i * 3 + 2, none⟩ = some (.slice rA rn rc)) := fun w' k => by
    have k2 := HK.out.trans k (T := None) (fun _ h => h) (fun _ _ h => h)
    exact ⟨(k2.cell hgb (fun h => h)).trans hc2.1, (k2.cell hgb (fun h => h)).trans hc2.2.2⟩
   have x0 := (AC.out _ (Keeps.refl None wv)).1
   have x2 := (AC.out _ (Keeps.refl None wv)).2
   clear hrn hr0 hc2 hir x1
   go_wp2
   obtain ⟨mS, mh⟩ : ∃ S : World → Prop, ∀ w', S w' ↔ (w'.cell? ⟨gb, off + i * 3, none⟩ = some (.int .i64 rk) ∧ w'.cell? ⟨gb, off + i * 3 + 2, none⟩ = some (.slice rA rn rc)) := ⟨_, fun _ => Iff.rfl⟩
   have mk0 : ∀ x : Memb mS, x.at_.cell? ⟨gb, off + i * 3, none⟩ = some (.int .i64 rk) := fun x => ((mh _).1 x.is).1
   have mk1 : ∀ x : Memb mS, x.at_.cell? ⟨gb, off + i * 3 + 2, none⟩ = some (.slice rA rn rc) := fun x => ((mh _).1 x.is).2
   have mn : Nonempty (Memb mS) := ⟨⟨(wv).drew, (mh _).2 ⟨x0, x2⟩⟩⟩
   have mH := Lib.hid mh
   clear mh
   refine wp_region_mix_swap [12, 14, 15] (InS mS) 0 14 15 12 14 (by kernel_rfl) (by kernel_rfl) (InS.mk ((mH.out _).2 ⟨x0, x2⟩)) ?_ ?_
   ·
    refine wpMix_seg 12 (by kernel_rfl) (by decide) ?_
    simp only [tds, Nat.reduceSub]
    repeat (go_big_quiet_step (fail))
    refine wpQuiet_nil ?_
    refine wpMix_eff (by kernel_rfl) ?_
    go_wp2_with (at_builtin; refine Hid.out ?_)
    refine Lib.hid ?_
    refine wpList_append_bs (Own.nil _ _) BR.out.drew (by simp; omega) (Nat.le_refl _) rfl rfl rfl rfl rfl ?_
    intro v2 w2 o2 kz2
    rw [List.nil_append] at o2
    have k2 := kz2.mono (T := None) (fun i hi e => by simp [Value.ownBlock] at e)
    clear kz2
    obtain ⟨A2, c2, rfl, b2, in2⟩ := o2.shape
    rw [HRN.out] at b2 o2 ⊢
    have K2 := Lib.hid ((Keeps.refl None wv).drew.trans k2 (T := None) (fun _ h => h) (fun _ _ h => h))
    have B2 := Lib.hid b2
    have I2 := Lib.hid in2
    clear o2 k2 b2 in2
    go_wp2
    refine MixK.on (InS.mk ((mH.out _).2 (⟨(AC.out _ K2.out).1, (AC.out _ K2.out).2⟩))) ?_
    refine wpMix_seg 1 (by kernel_rfl) (by decide) ?_
    simp only [tds, Nat.reduceSub]
    repeat (go_big_quiet_step (fail))
    refine wpQuiet_nil ?_
    refine wpMix_eff (by kernel_rfl) ?_
    go_wp2
    refine MixK.on (InS.mk ((mH.out _).2 (⟨(AC.out _ (K2.out.alloc _)).1, (AC.out _ (K2.out.alloc _)).2⟩))) ?_
    refine wpMix_eff (by kernel_rfl) ?_
    go_wp2
    refine Exists.elim (⟨_, rfl⟩ : ∃ x, w2.alloc (.cells #[.int .i64 rk, .int .i64 ((i : Int) + 1), .slice A2 rn c2] 95) = x) fun w3 hw3 => ?_
    refine Exists.elim (⟨_, rfl⟩ : ∃ x, w2.heap.size = x) fun nb hnb => ?_
    rw [hw3, hnb]
    have K3 : Hid (Keeps None wv w3) := by show Keeps _ _ _; rw [← hw3]; exact K2.out.alloc _
    have N3 : Hid (Blk w3 nb [.int .i64 rk, .int .i64 ((i : Int) + 1), .slice A2 rn c2] 95) := by show Blk _ _ _ _; rw [← hw3, ← hnb]; exact Blk.new _ [_, _, _] _
    have V3 : Hid (Bs w3 A2 rn c2 rb) := by show Bs _ _ _ _ _; rw [← hw3]; exact B2.out.alloc _
    have PB3 : Hid (∀ b off, A2 = some ⟨b, off, none⟩ → wv.heap.size ≤ b ∧ b < w3.heap.size) := fun b off e => by have h1 := I2.out b off e; have h2 : w2.heap.size ≤ w3.heap.size := (by rw [← hw3]; simp); exact ⟨h1.1, by omega⟩
    have NBL : Hid (wv.heap.size ≤ nb) := by show _ ≤ _; rw [← hnb]; exact K2.out.size
    clear hw3 hnb K2 B2 I2
    exact tl225 _
   ·
    try dsimp only
    try simp only [tds, Nat.reduceSub]
    refine wpMix_nil ?_
    try dsimp only
    try simp only [tds, Nat.reduceSub]
    refine wpMix_eff (by kernel_rfl) ?_
    go_wp2
    refine Exists.elim (⟨_, rfl⟩ : ∃ x, (wv.alloc (.cells #[.int .i64 0, .int .i64 0, .slice none 0 0] 95)).drew = x) fun wy hwy => ?_
    refine Exists.elim (⟨_, rfl⟩ : ∃ x, wv.heap.size = x) fun nb hnb => ?_
    rw [hwy, hnb]
    have NBL : Hid (wv.heap.size ≤ nb) := by show _ ≤ _; rw [← hnb]; exact Nat.le_refl _
    have KY : Hid (Keeps None wv wy) := by show Keeps _ _ _; rw [← hwy]; exact ((Keeps.refl None wv).alloc _).drew
    have NY : Hid (Blk wy nb [.int .i64 0, .int .i64 0, .slice none 0 0] 95) := by show Blk _ _ _ _; rw [← hwy, ← hnb]; exact (Blk.new _ [_, _, _] _).drew
    refine MixK.on (InS.mk ((mH.out _).2 (⟨(AC.out _ KY.out).1, (AC.out _ KY.out).2⟩))) ?_
    refine wpMix_nil ?_
    try dsimp only
    try simp only [tds, Nat.reduceSub]
    refine wpMix_seg 12 (by kernel_rfl) (by decide) ?_
    simp only [tds, Nat.reduceSub]
    repeat (go_big_quiet_step (fail))
    refine wpQuiet_nil ?_
    refine wpMix_eff (by kernel_rfl) ?_
    go_wp2_with (at_builtin; refine Hid.out ?_)
    refine Lib.hid ?_
    refine wpList_append_bs (Own.nil _ _) (BR.out.keeps KY.out (fun _ _ _ _ _ h => h)) (by simp; omega) (Nat.le_refl _) rfl rfl rfl rfl rfl ?_
    intro v2 w2 o2 kz2
    rw [List.nil_append] at o2
    have k2 := kz2.mono (T := None) (fun i hi e => by simp [Value.ownBlock] at e)
    clear kz2
    obtain ⟨A2, c2, rfl, b2, in2⟩ := o2.shape
    rw [HRN.out] at b2 o2 ⊢
    have K2 := Lib.hid (KY.out.trans k2 (T := None) (fun _ h => h) (fun _ _ h => h))
    have N2 := Lib.hid (k2.blk NY.out (fun h => h))
    have B2 := Lib.hid b2
    have I2 := Lib.hid in2
    have nq0 := N2.out.cellD 0 _ rfl
    have nq1 := N2.out.cellD 1 _ rfl
    have nq2 := N2.out.cellD 2 _ rfl
    have nf0 := N2.out.frozen 0
    have nf1 := N2.out.frozen 1
    have nf2 := N2.out.frozen 2
    clear o2 k2 b2 in2
    go_wp2
    refine MixK.on (InS.mk ((mH.out _).2 (⟨(AC.out _ K2.out).1, (AC.out _ K2.out).2⟩))) ?_
    refine wpMix_seg 1 (by kernel_rfl) (by decide) ?_
    simp only [tds, Nat.reduceSub]
    repeat (go_big_quiet_step (fail))
    refine wpQuiet_nil ?_
    refine wpMix_nil ?_
    try dsimp only
    try simp only [tds, Nat.reduceSub]
    refine wpMix_eff (by kernel_rfl) ?_
    go_wp2
    refine Exists.elim (⟨_, rfl⟩ : ∃ x, ((w2.setCell ⟨nb, 0, none⟩ (.int .i64 rk)).setCell ⟨nb, 1, none⟩ (.int .i64 ((i : Int) + 1))).setCell ⟨nb, 2, none⟩ (.slice A2 rn c2) = x) fun w3 hw3 => ?_
    rw [hw3]
    have KS : Hid (Keeps (fun i => i = nb) w2 w3) := by show Keeps _ _ _; rw [← hw3]; exact (((Keeps.refl (fun i => i = nb) w2).put 0 _).put 1 _).put 2 _
    have K3 : Hid (Keeps None wv w3) := by show Keeps _ _ _; exact K2.out.trans KS.out (fun _ h => h) (fun i hi e => by have h1 := NBL.out; have e : i = nb := e; omega)
    have N3 : Hid (Blk w3 nb [.int .i64 rk, .int .i64 ((i : Int) + 1), .slice A2 rn c2] 95) := by show Blk _ _ _ _; rw [← hw3]; exact ((N2.out.set 0 _).set 1 _).set 2 _
    have V3 : Hid (Bs w3 A2 rn c2 rb) := B2.out.keeps KS.out (fun b off _ _ e hb => by have h1 := (I2.out b off e).1; have h2 := NY.out.lt; have hb : b = nb := hb; omega)
    have PB3 : Hid (∀ b off, A2 = some ⟨b, off, none⟩ → wv.heap.size ≤ b ∧ b < w3.heap.size) := fun b off e => by have h1 := I2.out b off e; have h2 := KS.out.size; have h3 := KY.out.size; exact ⟨by omega, by omega⟩
    clear hw3 hnb hwy K2 B2 I2 KS N2 NY KY nq0 nq1 nq2 nf0 nf1 nf2
    exact tl225 _
  ·obtain rfl : i = n := by omega
   have TK : recs.take i = recs := List.take_of_length_le (by rw [HRC.out]; exact Nat.le_refl _)
   rw [TK] at OB HMA HOK
   have lbd := LBD.out i (Nat.le_refl _)
   rw [TK] at lbd
   have PKF : Hid (packF [] recs = if (pkL recs).length ≤ 1008 then some (pkL recs) else none) := by
    show _ = _
    rw [packF_if recs [] (by decide)]
    by_cases hq : (pkL recs).length ≤ 1008
    ·rw [if_pos hq, if_pos ⟨HOK.out, by simpa using hq⟩]; rfl
    ·rw [if_neg hq, if_neg (fun h => hq (by simpa using h.2))]
   obtain ⟨b, hb⟩ : ∃ x, pkL recs = x := ⟨_, rfl⟩
   rw [hb] at OB PKF lbd
   clear hb TK LBD HOK
   obtain ⟨Ab, cb, rfl, bb, inb⟩ := OB.out.shape
   have INB := Lib.hid inb
   clear inb
   obtain ⟨bn, hbn⟩ : ∃ x, b.length = x := ⟨_, rfl⟩
   have HBN := Lib.hid hbn
   rw [hbn] at bb PKF lbd OB SEP BD ⊢
   have lb := bb.le
   have mb := bb.max
   have BB := Lib.hid bb
   clear bb hbn
   by_cases q2 : 1008 < bn
   ·have d2 : decide (1008 < (bn : Int)) = true := decide_eq_true (by omega)
    have E0 : Hid (res = (s, j, 1)) := by
     show res = _
     rw [CMP3.out, PKF.out, if_neg (by omega)]
    clear CMP3
    go_wp2
    go_ret
    exact ⟨by rw [E0.out]; rfl, ⟨L, jb, lv, rs⟩, by rw [E0.out]; exact QTurn.still HJ.out HK.out⟩
   have d2 : decide (1008 < (bn : Int)) = false := decide_eq_false (by omega)
   have CMP4 : Hid (res = if (layF s (nextZ j.cur) j.epoch b).2 ≠ 0 then ((layF s (nextZ j.cur) j.epoch b).1, { j with err := (layF s (nextZ j.cur) j.epoch b).2 }, (layF s (nextZ j.cur) j.epoch b).2) else ((layF s (nextZ j.cur) j.epoch b).1, ⟨recs, j.epoch + 1, nextZ j.cur, 16 + b.length, false, 0⟩, 0)) := by
    show res = _
    rw [CMP3.out, PKF.out, if_pos (by omega)]
   have TS := Lib.hid (QTurn.still HJ.out HK.out)
   have y4 := TS.out.at_.c.cellD 4 _ rfl
   dsimp only at y4
   clear CMP3 PKF
   by_cases qc : j.cur = 0
   ·have d5 : (j.cur == 0) = true := by simpa using qc
    rw [qc] at y4
    have NZ : Hid (nextZ j.cur = 1) := by show _ = _; unfold nextZ; first | exact if_pos qc | exact if_neg qc
    rw [NZ.out] at CMP4
    try dsimp only at CMP4
    have z0 := TS.out.at_.c.cellD 0 _ rfl
    have z1 := TS.out.at_.c.cellD 1 _ rfl
    have z2 := TS.out.at_.c.cellD 2 _ rfl
    have z8 := TS.out.at_.c.cellD 8 _ rfl
    have f8 := TS.out.at_.c.frozen 8
    dsimp only at z0 z1 z2 z8 f8
    have CLR := Lib.hid (TS.out.at_.clear HN2.out (1) (by have := HRM.out.st; omega) (fun i => by have := HRM.out.er i; omega))
    rw [← layE_clear] at CLR
    obtain ⟨⟨s1, x1⟩, HG1⟩ : ∃ x, Hid (layE s (1) = x) := ⟨_, rfl⟩
    have R1 : Hid (JRm s1 (m + 1608)) := by
     have h : JRm (layE s (1)).1 (m + 1608) := by
      unfold layE
      split
      ·exact JRm.erase (HRM.out.less (by omega)) _ _ _
      ·exact HRM.out.less (by omega)
     rw [HG1.out] at h
     exact h
    rw [HG1.out] at CLR
    dsimp only at CLR
    go_wp2_with fail
    refine CLR.out.mono ?_
    rintro e w1 ⟨rfl, L1, t1⟩
    have T1 := Lib.hid t1
    have NX : Hid (∀ k, QX.S ⟨L, jb, lv, rs⟩ k → k < w.heap.size) := HJ.out.lt
    have ZW : w.heap.size ≤ wv.heap.size := HK.out.size
    have BK : Hid (∀ bb off, Ab = some ⟨bb, off, none⟩ → w.heap.size ≤ bb ∧ bb < wv.heap.size) := fun bb off e => ⟨(INB.out bb off e).1, (INB.out bb off e).2.1⟩
    have NX1 : Hid (∀ k, QX.S ⟨L1, jb, lv, rs⟩ k → k < w.heap.size ∨ wv.heap.size ≤ k) := fun k hk => (T1.out.o k hk).imp (NX.out k) id
    have B1 := Lib.hid (BB.out.keeps T1.out.keeps (fun bb off h0 _ e hS => by have h1 := BK.out bb off e; have h2 := NX.out bb hS; omega))
    have e0 := t1.at_.c.cellD 0 _ rfl
    have e1 := t1.at_.c.cellD 1 _ rfl
    have e2 := t1.at_.c.cellD 2 _ rfl
    have e8 := t1.at_.c.cellD 8 _ rfl
    have g8 := t1.at_.c.frozen 8
    have U1 := Lib.hid (T1.out.trans (T1.out.at_.put (j' := { j with err := x1 }) 8 (.int .i64 x1) rfl rfl).t)
    try dsimp only at e0 e1 e2 e8 g8 U1
    clear t1 CLR z0 z1 z2 z8 f8 T1
    by_cases qx : x1 ≠ 0
    ·have dx : (x1 == 0) = false := by simpa using qx
     have LF : Hid (layF s (1) j.epoch b = (s1, x1)) := by
      show layF _ _ _ _ = _
      unfold layF layP layH
      rw [HG1.out, if_neg qx, if_neg qx]
     exact tl235 _
    obtain rfl : x1 = 0 := Classical.byContradiction qx
    clear qx
    go_wp2_with fail
    obtain ⟨wA, hwA⟩ : ∃ x, w1.setCell ⟨jb, 8, none⟩ (.int .i64 0) = x := ⟨_, rfl⟩
    rw [hwA] at U1 ⊢
    have KA : Hid (Keeps (fun k => k = jb) w1 wA) := by rw [← hwA]; exact (Keeps.self jb w1).put 8 _
    have HWA := Lib.hid hwA
    clear hwA e0 e1 e2 e8 g8
    have BA := Lib.hid (BB.out.keeps U1.out.keeps (fun bb off h0 _ e hS => by have h1 := BK.out bb off e; have h2 := NX.out bb hS; omega))
    have PRG := Lib.hid (U1.out.at_.prog (1040) BA.out (by have := R1.out.st; omega) (fun bb off h0 e hS => by have h1 := BK.out bb off e; rcases NX1.out bb hS with h2 | h2 <;> omega))
    obtain ⟨⟨s2, x2⟩, HG2⟩ : ∃ x, Hid (s1.gprog 0 2 (1040) b = x) := ⟨_, rfl⟩
    have R2 : Hid (JRm s2 (m + 600)) := by
     have h := JRm.prog (zs := b) (R1.out.less (k := m + 600 + b.length) (by rw [HBN.out]; omega)) 0 2 (1040)
     rw [HG2.out] at h
     exact h
    rw [HG2.out] at PRG
    dsimp only at PRG
    refine PRG.out.mono ?_
    rintro e w2 ⟨rfl, L2, t2⟩
    have T2 := Lib.hid (U1.out.trans t2)
    have e0 := t2.at_.c.cellD 0 _ rfl
    have e1 := t2.at_.c.cellD 1 _ rfl
    have e2 := t2.at_.c.cellD 2 _ rfl
    have e5 := t2.at_.c.cellD 5 _ rfl
    have e8 := t2.at_.c.cellD 8 _ rfl
    have g8 := t2.at_.c.frozen 8
    have U2 := Lib.hid (T2.out.trans (T2.out.at_.put (j' := { j with err := x2 }) 8 (.int .i64 x2) rfl rfl).t)
    try dsimp only at e0 e1 e2 e5 e8 g8 U2
    rw [HEP.out] at e5
    have NX2 : Hid (∀ k, QX.S ⟨L2, jb, lv, rs⟩ k → k < w.heap.size ∨ wv.heap.size ≤ k) := fun k hk => (T2.out.o k hk).imp (NX.out k) id
    clear t2 PRG U1 KA HWA BA B1
    by_cases qx : x2 ≠ 0
    ·have dx : (x2 == 0) = false := by simpa using qx
     have LF : Hid (layF s (1) j.epoch b = (s2, x2)) := by
      show layF _ _ _ _ = _
      unfold layF layP layH
      rw [HG1.out, if_pos rfl, show ((1 : Int) * 1024 + 16) = 1040 by decide, HG2.out, if_neg qx]
     exact tl236 _
    obtain rfl : x2 = 0 := Classical.byContradiction qx
    clear qx
    go_wp2
    obtain ⟨wB, hwB⟩ : ∃ x, w2.setCell ⟨jb, 8, none⟩ (.int .i64 0) = x := ⟨_, rfl⟩
    rw [hwB] at U2 ⊢
    clear hwB e0 e1 e2 e5 e8 g8 T2
    have e0 := U2.out.at_.c.cellD 0 _ rfl
    have e1 := U2.out.at_.c.cellD 1 _ rfl
    have e2 := U2.out.at_.c.cellD 2 _ rfl
    have e5 := U2.out.at_.c.cellD 5 _ rfl
    try dsimp only at e0 e1 e2 e5
    rw [HEP.out] at e5
    have PUT := Lib.hid (fun w => rsput_any 1 ((ep : Int) + 1) none 0 0 [] w ⟨rfl, Nat.le_refl _, by decide, (fun _ => ⟨rfl, rfl⟩), (fun z hz => by cases hz), fun h => absurd h (Nat.lt_irrefl _)⟩ (by decide))
    obtain ⟨hd, HHD⟩ : ∃ x, Hid (putL 1 ((ep : Int) + 1) [] = x) := ⟨_, rfl⟩
    rw [HHD.out] at PUT
    have HDL : hd.length ≤ 600 := by rw [← HHD.out]; exact putL_le _ _ _
    obtain ⟨hdn, HDN⟩ : ∃ x, Hid (hd.length = x) := ⟨_, rfl⟩
    rw [HDN.out] at HDL
    obtain ⟨meS, meh⟩ : ∃ S : World → Prop, ∀ w', S w' ↔ (w'.cell? ⟨jb, 0, none⟩ = some (.pointer (some ⟨q, 0, none⟩)) ∧ w'.cell? ⟨jb, 1, none⟩ = some (.int .i64 0) ∧ w'.cell? ⟨jb, 2, none⟩ = some (.int .i64 2) ∧ w'.cell? ⟨jb, 5, none⟩ = some (.int .i64 (ep : Int))) := ⟨_, fun _ => Iff.rfl⟩
    have mek0 : ∀ x : Memb meS, x.at_.cell? ⟨jb, 0, none⟩ = some (.pointer (some ⟨q, 0, none⟩)) := fun x => ((meh _).1 x.is).1
    have mek1 : ∀ x : Memb meS, x.at_.cell? ⟨jb, 1, none⟩ = some (.int .i64 0) := fun x => ((meh _).1 x.is).2.1
    have mek2 : ∀ x : Memb meS, x.at_.cell? ⟨jb, 2, none⟩ = some (.int .i64 2) := fun x => ((meh _).1 x.is).2.2.1
    have mek3 : ∀ x : Memb meS, x.at_.cell? ⟨jb, 5, none⟩ = some (.int .i64 (ep : Int)) := fun x => ((meh _).1 x.is).2.2.2
    have men : Nonempty (Memb meS) := ⟨⟨(wB).drew, (meh _).2 ⟨e0, e1, e2, e5⟩⟩⟩
    have meH := Lib.hid meh
    clear meh
    refine wp_region_mix [13, 14, 17] (InS meS) (by kernel_rfl) (by kernel_rfl) (InS.mk ((meH.out _).2 ⟨e0, e1, e2, e5⟩)) ?_
    refine wpMix_seg 13 (by kernel_rfl) (by decide) ?_
    simp only [tds]
    repeat (go_big_quiet_step (fail))
    refine wpQuiet_nil ?_
    refine wpMix_eff (by kernel_rfl) ?_
    go_wp2_with fail
    refine (PUT.out _).mono ?_
    rintro e w3 ⟨v3, rfl, o3, k3⟩
    obtain ⟨A3, c3, rfl, b3, in3⟩ := o3.shape
    rw [HDN.out] at b3 ⊢
    have l3 := b3.le
    have m3 := b3.max
    have B3 := Lib.hid b3
    have I3 := Lib.hid in3
    have K3 := Lib.hid ((Keeps.refl None wB).drew.trans k3 (T := None) (fun _ h => h) (fun _ _ h => h))
    have J3 := Lib.hid (U2.out.at_.later K3.out)
    have PRG := Lib.hid (J3.out.prog (1024) B3.out (by have := R2.out.st; omega) (fun bb off h0 e hS => by have h1 := (I3.out bb off e).1; have h2 := U2.out.at_.lt bb hS; have h3 : wB.drew.heap.size = wB.heap.size := rfl; omega))
    obtain ⟨⟨s3, x3⟩, HG3⟩ : ∃ x, Hid (s2.gprog 0 2 (1024) hd = x) := ⟨_, rfl⟩
    rw [HG3.out] at PRG
    dsimp only at PRG
    clear o3 k3 b3 in3 PUT
    go_wp2
    refine MixK.on (InS.mk ((meH.out _).2 (⟨J3.out.c.cellD 0 _ rfl, J3.out.c.cellD 1 _ rfl, J3.out.c.cellD 2 _ rfl, HEP.out ▸ J3.out.c.cellD 5 _ rfl⟩))) ?_
    refine wpMix_eff (by kernel_rfl) ?_
    go_wp2_with fail
    refine PRG.out.mono ?_
    rintro e w4 ⟨rfl, L4, t4⟩
    have T4 := Lib.hid (U2.out.trans (QTurn.from K3.out t4))
    have e8 := t4.at_.c.cellD 8 _ rfl
    have g8 := t4.at_.c.frozen 8
    have U4 := Lib.hid (T4.out.trans (T4.out.at_.put (j' := { j with err := x3 }) 8 (.int .i64 x3) rfl rfl).t)
    try dsimp only at e8 g8 U4
    clear t4 PRG J3 K3 B3 I3
    go_wp2
    refine MixK.on (InS.mk ((meH.out _).2 (⟨T4.out.at_.c.cellD 0 _ rfl, T4.out.at_.c.cellD 1 _ rfl, T4.out.at_.c.cellD 2 _ rfl, HEP.out ▸ T4.out.at_.c.cellD 5 _ rfl⟩))) ?_
    refine wpMix_seg 2 (by kernel_rfl) (by decide) ?_
    simp only [tds]
    repeat (go_big_quiet_step (fail))
    refine wpQuiet_nil ?_
    refine wpMix_eff (by kernel_rfl) ?_
    go_wp2
    refine Exists.elim (⟨_, rfl⟩ : ∃ x, w4.setCell ⟨jb, 8, none⟩ (.int .i64 x3) = x) fun wC hwC => ?_
    rw [hwC] at U4 ⊢
    clear hwC e8 g8 T4
    refine MixK.on (InS.mk ((meH.out _).2 (⟨U4.out.at_.c.cellD 0 _ rfl, U4.out.at_.c.cellD 1 _ rfl, U4.out.at_.c.cellD 2 _ rfl, HEP.out ▸ U4.out.at_.c.cellD 5 _ rfl⟩))) ?_
    refine wpMix_nil ?_
    clear mek0 mek1 mek2 mek3 men meH
    have y8 := U4.out.at_.c.cellD 8 _ rfl
    try dsimp only at y8
    have LF : Hid (layF s (1) j.epoch b = (s3, x3)) := by
     show layF _ _ _ _ = _
     unfold layF layP layH
     rw [HG1.out, if_pos rfl, show ((1 : Int) * 1024 + 16) = 1040 by decide, HG2.out, if_pos rfl, show ((1 : Int) * 1024) = 1024 by decide, HEP.out, HHD.out, HG3.out]
    by_cases qx : x3 ≠ 0
    ·exact tl237 _
    obtain rfl : x3 = 0 := Classical.byContradiction qx
    have E0 : Hid (res = (s3, ⟨recs, j.epoch + 1, 1, 16 + b.length, false, 0⟩, 0)) := by show res = _; rw [CMP4.out, LF.out, if_neg (by simp)]
    clear qx CMP4 LF
    have T4 := Lib.hid (TS.out.trans U4.out)
    have NX4 : Hid (∀ k, QX.S ⟨L4, jb, lv, rs⟩ k → k < w.heap.size ∨ wv.heap.size ≤ k) := fun k hk => (U4.out.o k hk).imp (NX.out k) id
    have O4 := Lib.hid (OA.out.keeps U4.out.keeps (fun bb e hS => by have h1 := OA.out.block e; have h2 := NX.out bb hS; omega))
    have D4 := Lib.hid ((BD.out.mono (Q := fun b => w.heap.size ≤ b ∧ ¬ va.ownBlock = some b) (fun _ hp _ => ⟨hp.1, hp.2.1⟩)).keeps U4.out.keeps (fun bb hp _ hS => by have h1 := hp.1; have h2 := NX.out bb hS; omega))
    have P3 := Lib.hid (T4.out.relist HBA.out O4.out D4.out (fun bb e hS => by have h1 := OA.out.block e; rcases NX4.out bb hS with h2 | h2 <;> omega) (fun r hr bb hb hS => by have h1 := BD.out.p r hr bb hb; have h0 := h1.1.1; rcases NX4.out bb hS with h2 | h2 <;> omega))
    have P5 := Lib.hid (P3.out.at_.put (j' := ⟨recs, ep + 1, j.cur, j.used, j.torn, 0⟩) 5 (.int .i64 ((ep + 1 : Nat) : Int)) rfl (by rw [← HMA.out]))
    have P4 := Lib.hid (P5.out.at_.put (j' := ⟨recs, ep + 1, 1, j.used, j.torn, 0⟩) 4 (.int .i64 (1)) rfl rfl)
    have P6 := Lib.hid (P4.out.at_.put (j' := ⟨recs, ep + 1, 1, j.used, false, 0⟩) 6 (.bool false) rfl rfl)
    have P7 := Lib.hid (P6.out.at_.put (j' := ⟨recs, ep + 1, 1, 16 + bn, false, 0⟩) 7 (.int .i64 ((16 + bn : Nat) : Int)) rfl rfl)
    exact tl238 _
   ·have d5 : (j.cur == 0) = false := by simpa using qc
    have NZ : Hid (nextZ j.cur = 0) := by show _ = _; unfold nextZ; first | exact if_pos qc | exact if_neg qc
    rw [NZ.out] at CMP4
    try dsimp only at CMP4
    have z0 := TS.out.at_.c.cellD 0 _ rfl
    have z1 := TS.out.at_.c.cellD 1 _ rfl
    have z2 := TS.out.at_.c.cellD 2 _ rfl
    have z8 := TS.out.at_.c.cellD 8 _ rfl
    have f8 := TS.out.at_.c.frozen 8
    dsimp only at z0 z1 z2 z8 f8
    have CLR := Lib.hid (TS.out.at_.clear HN2.out (0) (by have := HRM.out.st; omega) (fun i => by have := HRM.out.er i; omega))
    rw [← layE_clear] at CLR
    obtain ⟨⟨s1, x1⟩, HG1⟩ : ∃ x, Hid (layE s (0) = x) := ⟨_, rfl⟩
    have R1 : Hid (JRm s1 (m + 1608)) := by
     have h : JRm (layE s (0)).1 (m + 1608) := by
      unfold layE
      split
      ·exact JRm.erase (HRM.out.less (by omega)) _ _ _
      ·exact HRM.out.less (by omega)
     rw [HG1.out] at h
     exact h
    rw [HG1.out] at CLR
    dsimp only at CLR
    go_wp2_with fail
    refine CLR.out.mono ?_
    rintro e w1 ⟨rfl, L1, t1⟩
    have T1 := Lib.hid t1
    have NX : Hid (∀ k, QX.S ⟨L, jb, lv, rs⟩ k → k < w.heap.size) := HJ.out.lt
    have ZW : w.heap.size ≤ wv.heap.size := HK.out.size
    have BK : Hid (∀ bb off, Ab = some ⟨bb, off, none⟩ → w.heap.size ≤ bb ∧ bb < wv.heap.size) := fun bb off e => ⟨(INB.out bb off e).1, (INB.out bb off e).2.1⟩
    have NX1 : Hid (∀ k, QX.S ⟨L1, jb, lv, rs⟩ k → k < w.heap.size ∨ wv.heap.size ≤ k) := fun k hk => (T1.out.o k hk).imp (NX.out k) id
    have B1 := Lib.hid (BB.out.keeps T1.out.keeps (fun bb off h0 _ e hS => by have h1 := BK.out bb off e; have h2 := NX.out bb hS; omega))
    have e0 := t1.at_.c.cellD 0 _ rfl
    have e1 := t1.at_.c.cellD 1 _ rfl
    have e2 := t1.at_.c.cellD 2 _ rfl
    have e8 := t1.at_.c.cellD 8 _ rfl
    have g8 := t1.at_.c.frozen 8
    have U1 := Lib.hid (T1.out.trans (T1.out.at_.put (j' := { j with err := x1 }) 8 (.int .i64 x1) rfl rfl).t)
    try dsimp only at e0 e1 e2 e8 g8 U1
    clear t1 CLR z0 z1 z2 z8 f8 T1
    by_cases qx : x1 ≠ 0
    ·have dx : (x1 == 0) = false := by simpa using qx
     have LF : Hid (layF s (0) j.epoch b = (s1, x1)) := by
      show layF _ _ _ _ = _
      unfold layF layP layH
      rw [HG1.out, if_neg qx, if_neg qx]
     exact tl235 _
    obtain rfl : x1 = 0 := Classical.byContradiction qx
    clear qx
    go_wp2_with fail
    obtain ⟨wA, hwA⟩ : ∃ x, w1.setCell ⟨jb, 8, none⟩ (.int .i64 0) = x := ⟨_, rfl⟩
    rw [hwA] at U1 ⊢
    have KA : Hid (Keeps (fun k => k = jb) w1 wA) := by rw [← hwA]; exact (Keeps.self jb w1).put 8 _
    have HWA := Lib.hid hwA
    clear hwA e0 e1 e2 e8 g8
    have BA := Lib.hid (BB.out.keeps U1.out.keeps (fun bb off h0 _ e hS => by have h1 := BK.out bb off e; have h2 := NX.out bb hS; omega))
    have PRG := Lib.hid (U1.out.at_.prog (16) BA.out (by have := R1.out.st; omega) (fun bb off h0 e hS => by have h1 := BK.out bb off e; rcases NX1.out bb hS with h2 | h2 <;> omega))
    obtain ⟨⟨s2, x2⟩, HG2⟩ : ∃ x, Hid (s1.gprog 0 2 (16) b = x) := ⟨_, rfl⟩
    have R2 : Hid (JRm s2 (m + 600)) := by
     have h := JRm.prog (zs := b) (R1.out.less (k := m + 600 + b.length) (by rw [HBN.out]; omega)) 0 2 (16)
     rw [HG2.out] at h
     exact h
    rw [HG2.out] at PRG
    dsimp only at PRG
    refine PRG.out.mono ?_
    rintro e w2 ⟨rfl, L2, t2⟩
    have T2 := Lib.hid (U1.out.trans t2)
    have e0 := t2.at_.c.cellD 0 _ rfl
    have e1 := t2.at_.c.cellD 1 _ rfl
    have e2 := t2.at_.c.cellD 2 _ rfl
    have e5 := t2.at_.c.cellD 5 _ rfl
    have e8 := t2.at_.c.cellD 8 _ rfl
    have g8 := t2.at_.c.frozen 8
    have U2 := Lib.hid (T2.out.trans (T2.out.at_.put (j' := { j with err := x2 }) 8 (.int .i64 x2) rfl rfl).t)
    try dsimp only at e0 e1 e2 e5 e8 g8 U2
    rw [HEP.out] at e5
    have NX2 : Hid (∀ k, QX.S ⟨L2, jb, lv, rs⟩ k → k < w.heap.size ∨ wv.heap.size ≤ k) := fun k hk => (T2.out.o k hk).imp (NX.out k) id
    clear t2 PRG U1 KA HWA BA B1
    by_cases qx : x2 ≠ 0
    ·have dx : (x2 == 0) = false := by simpa using qx
     have LF : Hid (layF s (0) j.epoch b = (s2, x2)) := by
      show layF _ _ _ _ = _
      unfold layF layP layH
      rw [HG1.out, if_pos rfl, show ((0 : Int) * 1024 + 16) = 16 by decide, HG2.out, if_neg qx]
     exact tl236 _
    obtain rfl : x2 = 0 := Classical.byContradiction qx
    clear qx
    go_wp2
    obtain ⟨wB, hwB⟩ : ∃ x, w2.setCell ⟨jb, 8, none⟩ (.int .i64 0) = x := ⟨_, rfl⟩
    rw [hwB] at U2 ⊢
    clear hwB e0 e1 e2 e5 e8 g8 T2
    have e0 := U2.out.at_.c.cellD 0 _ rfl
    have e1 := U2.out.at_.c.cellD 1 _ rfl
    have e2 := U2.out.at_.c.cellD 2 _ rfl
    have e5 := U2.out.at_.c.cellD 5 _ rfl
    try dsimp only at e0 e1 e2 e5
    rw [HEP.out] at e5
    have PUT := Lib.hid (fun w => rsput_any 1 ((ep : Int) + 1) none 0 0 [] w ⟨rfl, Nat.le_refl _, by decide, (fun _ => ⟨rfl, rfl⟩), (fun z hz => by cases hz), fun h => absurd h (Nat.lt_irrefl _)⟩ (by decide))
    obtain ⟨hd, HHD⟩ : ∃ x, Hid (putL 1 ((ep : Int) + 1) [] = x) := ⟨_, rfl⟩
    rw [HHD.out] at PUT
    have HDL : hd.length ≤ 600 := by rw [← HHD.out]; exact putL_le _ _ _
    obtain ⟨hdn, HDN⟩ : ∃ x, Hid (hd.length = x) := ⟨_, rfl⟩
    rw [HDN.out] at HDL
    obtain ⟨meS, meh⟩ : ∃ S : World → Prop, ∀ w', S w' ↔ (w'.cell? ⟨jb, 0, none⟩ = some (.pointer (some ⟨q, 0, none⟩)) ∧ w'.cell? ⟨jb, 1, none⟩ = some (.int .i64 0) ∧ w'.cell? ⟨jb, 2, none⟩ = some (.int .i64 2) ∧ w'.cell? ⟨jb, 5, none⟩ = some (.int .i64 (ep : Int))) := ⟨_, fun _ => Iff.rfl⟩
    have mek0 : ∀ x : Memb meS, x.at_.cell? ⟨jb, 0, none⟩ = some (.pointer (some ⟨q, 0, none⟩)) := fun x => ((meh _).1 x.is).1
    have mek1 : ∀ x : Memb meS, x.at_.cell? ⟨jb, 1, none⟩ = some (.int .i64 0) := fun x => ((meh _).1 x.is).2.1
    have mek2 : ∀ x : Memb meS, x.at_.cell? ⟨jb, 2, none⟩ = some (.int .i64 2) := fun x => ((meh _).1 x.is).2.2.1
    have mek3 : ∀ x : Memb meS, x.at_.cell? ⟨jb, 5, none⟩ = some (.int .i64 (ep : Int)) := fun x => ((meh _).1 x.is).2.2.2
    have men : Nonempty (Memb meS) := ⟨⟨(wB).drew, (meh _).2 ⟨e0, e1, e2, e5⟩⟩⟩
    have meH := Lib.hid meh
    clear meh
    refine wp_region_mix [13, 14, 17] (InS meS) (by kernel_rfl) (by kernel_rfl) (InS.mk ((meH.out _).2 ⟨e0, e1, e2, e5⟩)) ?_
    refine wpMix_seg 13 (by kernel_rfl) (by decide) ?_
    simp only [tds]
    repeat (go_big_quiet_step (fail))
    refine wpQuiet_nil ?_
    refine wpMix_eff (by kernel_rfl) ?_
    go_wp2_with fail
    refine (PUT.out _).mono ?_
    rintro e w3 ⟨v3, rfl, o3, k3⟩
    obtain ⟨A3, c3, rfl, b3, in3⟩ := o3.shape
    rw [HDN.out] at b3 ⊢
    have l3 := b3.le
    have m3 := b3.max
    have B3 := Lib.hid b3
    have I3 := Lib.hid in3
    have K3 := Lib.hid ((Keeps.refl None wB).drew.trans k3 (T := None) (fun _ h => h) (fun _ _ h => h))
    have J3 := Lib.hid (U2.out.at_.later K3.out)
    have PRG := Lib.hid (J3.out.prog (0) B3.out (by have := R2.out.st; omega) (fun bb off h0 e hS => by have h1 := (I3.out bb off e).1; have h2 := U2.out.at_.lt bb hS; have h3 : wB.drew.heap.size = wB.heap.size := rfl; omega))
    obtain ⟨⟨s3, x3⟩, HG3⟩ : ∃ x, Hid (s2.gprog 0 2 (0) hd = x) := ⟨_, rfl⟩
    rw [HG3.out] at PRG
    dsimp only at PRG
    clear o3 k3 b3 in3 PUT
    go_wp2
    refine MixK.on (InS.mk ((meH.out _).2 (⟨J3.out.c.cellD 0 _ rfl, J3.out.c.cellD 1 _ rfl, J3.out.c.cellD 2 _ rfl, HEP.out ▸ J3.out.c.cellD 5 _ rfl⟩))) ?_
    refine wpMix_eff (by kernel_rfl) ?_
    go_wp2_with fail
    refine PRG.out.mono ?_
    rintro e w4 ⟨rfl, L4, t4⟩
    have T4 := Lib.hid (U2.out.trans (QTurn.from K3.out t4))
    have e8 := t4.at_.c.cellD 8 _ rfl
    have g8 := t4.at_.c.frozen 8
    have U4 := Lib.hid (T4.out.trans (T4.out.at_.put (j' := { j with err := x3 }) 8 (.int .i64 x3) rfl rfl).t)
    try dsimp only at e8 g8 U4
    clear t4 PRG J3 K3 B3 I3
    go_wp2
    refine MixK.on (InS.mk ((meH.out _).2 (⟨T4.out.at_.c.cellD 0 _ rfl, T4.out.at_.c.cellD 1 _ rfl, T4.out.at_.c.cellD 2 _ rfl, HEP.out ▸ T4.out.at_.c.cellD 5 _ rfl⟩))) ?_
    refine wpMix_seg 2 (by kernel_rfl) (by decide) ?_
    simp only [tds]
    repeat (go_big_quiet_step (fail))
    refine wpQuiet_nil ?_
    refine wpMix_eff (by kernel_rfl) ?_
    go_wp2
    refine Exists.elim (⟨_, rfl⟩ : ∃ x, w4.setCell ⟨jb, 8, none⟩ (.int .i64 x3) = x) fun wC hwC => ?_
    rw [hwC] at U4 ⊢
    clear hwC e8 g8 T4
    refine MixK.on (InS.mk ((meH.out _).2 (⟨U4.out.at_.c.cellD 0 _ rfl, U4.out.at_.c.cellD 1 _ rfl, U4.out.at_.c.cellD 2 _ rfl, HEP.out ▸ U4.out.at_.c.cellD 5 _ rfl⟩))) ?_
    refine wpMix_nil ?_
    clear mek0 mek1 mek2 mek3 men meH
    have y8 := U4.out.at_.c.cellD 8 _ rfl
    try dsimp only at y8
    have LF : Hid (layF s (0) j.epoch b = (s3, x3)) := by
     show layF _ _ _ _ = _
     unfold layF layP layH
     rw [HG1.out, if_pos rfl, show ((0 : Int) * 1024 + 16) = 16 by decide, HG2.out, if_pos rfl, show ((0 : Int) * 1024) = 0 by decide, HEP.out, HHD.out, HG3.out]
    by_cases qx : x3 ≠ 0
    ·exact tl237 _
    obtain rfl : x3 = 0 := Classical.byContradiction qx
    have E0 : Hid (res = (s3, ⟨recs, j.epoch + 1, 0, 16 + b.length, false, 0⟩, 0)) := by show res = _; rw [CMP4.out, LF.out, if_neg (by simp)]
    clear qx CMP4 LF
    have T4 := Lib.hid (TS.out.trans U4.out)
    have NX4 : Hid (∀ k, QX.S ⟨L4, jb, lv, rs⟩ k → k < w.heap.size ∨ wv.heap.size ≤ k) := fun k hk => (U4.out.o k hk).imp (NX.out k) id
    have O4 := Lib.hid (OA.out.keeps U4.out.keeps (fun bb e hS => by have h1 := OA.out.block e; have h2 := NX.out bb hS; omega))
    have D4 := Lib.hid ((BD.out.mono (Q := fun b => w.heap.size ≤ b ∧ ¬ va.ownBlock = some b) (fun _ hp _ => ⟨hp.1, hp.2.1⟩)).keeps U4.out.keeps (fun bb hp _ hS => by have h1 := hp.1; have h2 := NX.out bb hS; omega))
    have P3 := Lib.hid (T4.out.relist HBA.out O4.out D4.out (fun bb e hS => by have h1 := OA.out.block e; rcases NX4.out bb hS with h2 | h2 <;> omega) (fun r hr bb hb hS => by have h1 := BD.out.p r hr bb hb; have h0 := h1.1.1; rcases NX4.out bb hS with h2 | h2 <;> omega))
    have P5 := Lib.hid (P3.out.at_.put (j' := ⟨recs, ep + 1, j.cur, j.used, j.torn, 0⟩) 5 (.int .i64 ((ep + 1 : Nat) : Int)) rfl (by rw [← HMA.out]))
    have P4 := Lib.hid (P5.out.at_.put (j' := ⟨recs, ep + 1, 0, j.used, j.torn, 0⟩) 4 (.int .i64 (0)) rfl rfl)
    have P6 := Lib.hid (P4.out.at_.put (j' := ⟨recs, ep + 1, 0, j.used, false, 0⟩) 6 (.bool false) rfl rfl)
    have P7 := Lib.hid (P6.out.at_.put (j' := ⟨recs, ep + 1, 0, 16 + bn, false, 0⟩) 7 (.int .i64 ((16 + bn : Nat) : Int)) rfl rfl)
    exact tl238 _
end Go.Proofs.YtobgbilanibodaaGreat
