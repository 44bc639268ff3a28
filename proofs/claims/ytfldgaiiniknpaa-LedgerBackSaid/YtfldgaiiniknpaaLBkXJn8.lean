
/- The walk of journal's Append. -/
import Derived.Test.YtfldgaiiniknpaaLBkXJn7
namespace Go.Proofs.Ytfldgaiiniknpaa
open Go.RowKit

theorem JAt.prog {w : World} {B q : Nat} {X : JX} {s : FS} {j : JS} (h : JAt w B q X s j) (a : Int) {A : Option Addr} {m c : Nat} {zs : List Int} (hb : Bs w A m c zs) (hst : 0 ≤ s.steps ∧ s.steps + m ≤ 1000000000000) (hA : ∀ b off, 0 < m → A = some ⟨b, off, none⟩ → ¬ X.S b) :
    Calls Try.prog 69 #[.agg #[.pointer (some ⟨q, 0, none⟩), .int .i64 0, .int .i64 2], .int .i64 a, .slice A m c] w fun e w' => e = .returned (.int .i64 (s.gprog 0 2 a zs).2) ∧ ∃ L', JTurn w w' B q X { X with L := L' } (s.gprog 0 2 a zs).1 j :=
  (gprogram_any B X.L s q 0 2 a A m c zs w h.f h.hq (by decide) hb hst (fun b off h0 e hS => hA b off h0 e (.inl (.inl hS)))).mono fun _ _ ⟨he, L', t⟩ => ⟨he, L', h.turn t⟩
theorem JAt.erase {w : World} {B q : Nat} {X : JX} {s : FS} {j : JS} (h : JAt w B q X s j) (k : Int) (hst : 0 ≤ s.steps ∧ s.steps ≤ 1000000000000) (her : ∀ i, 0 ≤ s.er.getD i 0 ∧ s.er.getD i 0 ≤ 1000000000000) :
    Calls Try.prog 83 #[.agg #[.pointer (some ⟨q, 0, none⟩), .int .i64 0, .int .i64 2], .int .i64 k] w fun e w' => e = .returned (.int .i64 (s.gerase 0 2 k).2) ∧ ∃ L', JTurn w w' B q X { X with L := L' } (s.gerase 0 2 k).1 j :=
  (gerase_any B X.L s q 0 2 k w h.f h.hq (by decide) hst her).mono fun _ _ ⟨he, L', t⟩ => ⟨he, L', h.turn t⟩
/-- A record is pushed, whose body was made on the way. -/
theorem JTurn.push {wA w0 w w4 : World} {B q : Nat} {XA X : JX} {s : FS} {j : JS} {v' : Value} {r : RV} (t : JTurn wA w0 B q XA X s j) (hBA : B ≤ wA.heap.size) (k0 : Keeps None w0 w) (k : Keeps (fun k => X.lv.ownBlock = some k) w w4) (o : OwnR w4 B v' (X.rs ++ [r]))
    (hat : v'.ownBlock = X.lv.ownBlock ∨ ∃ n, v'.ownBlock = some n ∧ w.heap.size ≤ n) (hb : Bs w r.A r.b.length r.c r.b) (hp : ∀ b, r.at_ b → wA.heap.size ≤ b ∧ b < w.heap.size ∧ ¬ X.S b) :
    JTurn wA (w4.setCell ⟨X.jb, 3, none⟩ v') B q XA ⟨X.L, X.jb, v', X.rs ++ [r]⟩ s { j with l := j.l ++ [r.r] } := by
  have h := t.at_
  have hw := h.later k0
  have ks := (Keeps.self X.jb w4).put 3 v'
  have hA0 : wA.heap.size ≤ w0.heap.size := t.keeps.size
  have nd : ∀ b, v'.ownBlock = some b → X.lv.ownBlock = some b ∨ w.heap.size ≤ b := fun b hb => by
    rcases hat with e | ⟨n, e, hn⟩
    · exact .inl (e.symm.trans hb)
    · rw [hb] at e; obtain rfl := Option.some.inj e; exact .inr hn
  have KK : Keeps (fun b => X.lv.ownBlock = some b ∨ b = X.jb) w (w4.setCell ⟨X.jb, 3, none⟩ v') := k.trans ks (fun _ h => .inl h) (fun _ _ h => .inr h)
  have jlv : ¬ X.lv.ownBlock = some X.jb := fun e => (h.lo _ e).2 rfl
  refine ⟨⟨hw.f.keeps KK (fun b hO e => by
      rcases e with e | e
      · exact (h.lo b e).1 hO
      · exact h.jo (e ▸ hO)), h.hq, (k.blk hw.c jlv).set 3 v', o.keeps ks (fun b hb (e : b = X.jb) => by
      rcases nd b hb with h1 | h1
      · exact (h.lo b h1).2 e
      · have := hw.c.lt; omega), ?_, by simp [h.recs], h.jo, h.jB, fun b hb => ?_⟩, ?_, fun x hx => ?_, t.jb⟩
  · refine Bds.append ⟨fun x hx => (hw.bd.bs x hx).keeps KK (fun b off h0 _ e hb => ?_), fun x hx b hb => ?_⟩ (Bds.one (hb.keeps KK (fun b off h0 _ e hb => ?_)) fun b hb => ?_)
    · have hp := (hw.bd.p x hx b ⟨off, h0, e⟩).1
      rcases hb with hb | hb
      · exact hp.2.2.2 hb
      · exact hp.2.2.1 hb
    · obtain ⟨⟨p1, p2, p3, p4⟩, p5⟩ := h.bd.p x hx b hb
      refine ⟨⟨p1, p2, p3, fun e => ?_⟩, Nat.lt_of_lt_of_le p5 (Nat.le_trans k0.size KK.size)⟩
      rcases nd b e with h1 | h1
      · exact p4 h1
      · have := k0.size; omega
    · have hp := hp b ⟨off, h0, e⟩
      rcases hb with hb | hb
      · exact hp.2.2 (.inr (.inr (.inl hb)))
      · exact hp.2.2 (.inr (.inl hb))
    · have hp := hp b hb
      refine ⟨⟨by omega, fun hO => hp.2.2 (.inl hO), fun e => hp.2.2 (.inr (.inl e)), fun e => ?_⟩, Nat.lt_of_lt_of_le hp.2.1 KK.size⟩
      rcases nd b e with h1 | h1
      · exact hp.2.2 (.inr (.inr (.inl h1)))
      · omega
  · rcases nd b hb with h1 | h1
    · exact h.lo b h1
    · refine ⟨fun hO => ?_, fun e => ?_⟩
      · have := h.f.lt b hO; have := k0.size; omega
      · have e : b = X.jb := e
        have := h.c.lt; have := k0.size; omega
  · refine t.keeps.trans (k0.trans KK (T := fun b => X.lv.ownBlock = some b ∨ b = X.jb) (fun _ h => h.elim) (fun _ _ h => h)) (fun _ h => h) (fun b hb hS => ?_)
    have : X.S b := by
      rcases hS with hS | hS
      · exact .inr (.inr (.inl hS))
      · exact .inr (.inl hS)
    rcases t.o b this with h1 | h1
    · exact h1
    · omega
  · rcases hx with hx | hx | hx | ⟨x', hx', hbx⟩
    · exact t.o x (.inl hx)
    · exact t.o x (.inr (.inl hx))
    · rcases nd x hx with h1 | h1
      · exact t.o x (.inr (.inr (.inl h1)))
      · exact .inr (Nat.le_trans hA0 (Nat.le_trans k0.size h1))
    · rcases List.mem_append.1 hx' with h1 | h1
      · exact t.o x (.inr (.inr (.inr ⟨x', h1, hbx⟩)))
      · obtain rfl := List.mem_singleton.1 h1
        exact .inr (hp x hbx).1
/-- Append in plain words. -/
def appF (s : FS) (j : JS) (kind : Int) (body : List Int) : FS × JS × Int :=
  if j.err ≠ 0 then (s, j, j.err)
  else if kind = 1 ∨ (putL kind ((j.l.length : Int) + 1) body).length = 0 then (s, j, 1)
  else if j.room < ((putL kind ((j.l.length : Int) + 1) body).length : Int) then (s, j, 14)
  else
    if (s.gprog 0 2 (j.cur * 1024 + j.used) (putL kind ((j.l.length : Int) + 1) body)).2 ≠ 0 then
      ((s.gprog 0 2 (j.cur * 1024 + j.used) (putL kind ((j.l.length : Int) + 1) body)).1, { j with err := (s.gprog 0 2 (j.cur * 1024 + j.used) (putL kind ((j.l.length : Int) + 1) body)).2 }, (s.gprog 0 2 (j.cur * 1024 + j.used) (putL kind ((j.l.length : Int) + 1) body)).2)
    else ((s.gprog 0 2 (j.cur * 1024 + j.used) (putL kind ((j.l.length : Int) + 1) body)).1, { j with err := 0, l := j.l ++ [⟨kind, (j.l.length : Int) + 1, body⟩], used := j.used + (putL kind ((j.l.length : Int) + 1) body).length }, 0)
/-- What is good of a journal. -/
structure JOk (j : JS) : Prop where
  ll : j.l.length ≤ 100000
  bl : ∀ r ∈ j.l, r.b.length ≤ 512
  used : j.used ≤ 1024
  cur : j.cur = -1 ∨ j.cur = 0 ∨ j.cur = 1
  epoch : j.epoch ≤ 4294967295
def JDone (w : World) (B q : Nat) (X : JX) (r : FS × JS × Int) (e : Ending) (w' : World) : Prop := e = .returned (.int .i64 r.2.2) ∧ ∃ X', JTurn w w' B q X X' r.1 r.2.1
set_option maxRecDepth 100000 in
set_option maxHeartbeats 3200000 in
theorem jappend_any (B q : Nat) (X : JX) (s : FS) (j : JS) (kind : Int) (A : Option Addr) (n cap : Nat) (body : List Int) (w : World) (h : JAt w B q X s j) (ok : JOk j) (hb : Bs w A n cap body) (hn : n ≤ 140737488355328) (hst : 0 ≤ s.steps ∧ s.steps ≤ 1000000000) :
    Calls Try.prog 59 #[.pointer (some ⟨X.jb, 0, none⟩), .int .i64 kind, .slice A n cap] w (JDone w B q X (appF s j kind body)) := by
  obtain ⟨L, jb, lv, rs⟩ := X
  dsimp only at h ⊢
  have OK := Lib.hid ok
  have HL := Lib.hid hb.len
  have HB := Lib.hid hb
  obtain ⟨A1, c1, hlv, r1, -⟩ := h.l.shape
  dsimp only at hlv r1
  have l1 := r1.le
  have m1 := r1.max
  have hrl : rs.length = j.l.length := by rw [← h.recs, List.length_map]
  obtain ⟨ll, HLL⟩ : ∃ x, Hid (j.l.length = x) := ⟨_, rfl⟩
  rw [hrl, HLL.out] at hlv l1
  have RLL : Hid (rs.length = ll) := hrl.trans HLL.out
  have HLV := Lib.hid hlv
  have hll : ll ≤ 100000 := by have := ok.ll; rw [HLL.out] at this; exact this
  have y3 := h.c.cellD 3 _ rfl
  dsimp only at y3
  rw [HLV.out] at y3
  have HJ := Lib.hid h
  have HBA : Hid (B ≤ w.heap.size) := Nat.le_of_lt (Nat.lt_of_le_of_lt h.jB h.c.lt)
  have APP : Hid (appF s j kind body = if j.err ≠ 0 then (s, j, j.err)
  else if kind = 1 ∨ (putL kind ((ll : Int) + 1) body).length = 0 then (s, j, 1)
  else if j.room < ((putL kind ((ll : Int) + 1) body).length : Int) then (s, j, 14)
  else
    if (s.gprog 0 2 (j.cur * 1024 + j.used) (putL kind ((ll : Int) + 1) body)).2 ≠ 0 then
      ((s.gprog 0 2 (j.cur * 1024 + j.used) (putL kind ((ll : Int) + 1) body)).1, { j with err := (s.gprog 0 2 (j.cur * 1024 + j.used) (putL kind ((ll : Int) + 1) body)).2 }, (s.gprog 0 2 (j.cur * 1024 + j.used) (putL kind ((ll : Int) + 1) body)).2)
    else ((s.gprog 0 2 (j.cur * 1024 + j.used) (putL kind ((ll : Int) + 1) body)).1, { j with err := 0, l := j.l ++ [⟨kind, (ll : Int) + 1, body⟩], used := j.used + (putL kind ((ll : Int) + 1) body).length }, 0)) := by
    show _ = _
    rw [← HLL.out]
    rfl
  obtain ⟨res, HRES⟩ : ∃ x, Hid (appF s j kind body = x) := ⟨_, rfl⟩
  rw [HRES.out] at APP ⊢
  clear h hlv r1 hb hrl HRES ok
  go_enter Try.func59, Try.ntmps59
  go_wp2
  obtain ⟨mS, mh⟩ : ∃ S : World → Prop, ∀ w', S w' ↔ (w'.cell? ⟨jb, 3, none⟩ = some (.slice A1 ll c1)) := ⟨_, fun _ => Iff.rfl⟩
  have mk0 : ∀ x : Memb mS, x.at_.cell? ⟨jb, 3, none⟩ = some (.slice A1 ll c1) := fun x => ((mh _).1 x.is)
  have mn : Nonempty (Memb mS) := ⟨⟨(w).drew, (mh _).2 (y3)⟩⟩
  have mH := Lib.hid mh
  clear mh
  refine wp_region_mix_swap [8, 10, 11] (InS mS) 0 10 11 8 10 (by kernel_rfl) (by kernel_rfl) (InS.mk ((mH.out _).2 (y3))) ?_ ?_
  ·
    refine wpMix_seg 8 (by kernel_rfl) (by decide) ?_
    simp only [List.take_succ_cons, List.take_zero, List.drop_succ_cons, List.drop_zero, Nat.reduceSub]
    repeat (go_big_quiet_step (fail))
    refine wpQuiet_nil ?_
    refine wpMix_eff (by kernel_rfl) ?_
    go_wp2_with fail
    refine (clone_any A n cap body _ HB.out.drew hn).mono ?_
    rintro e w2 ⟨v2, rfl, o2, k2⟩
    obtain ⟨A2, c2, rfl, b2, in2⟩ := o2.shape
    rw [HL.out] at b2 o2 ⊢
    have K2 := Lib.hid ((Keeps.refl None w).drew.trans k2 (T := None) (fun _ h => h) (fun _ _ h => h))
    have B2 := Lib.hid b2
    have I2 := Lib.hid in2
    clear o2 k2 b2 in2
    go_wp2
    refine MixK.on (InS.mk ((mH.out _).2 ((HLV.out ▸ (HJ.out.later K2.out).c.cellD 3 _ rfl)))) ?_
    refine wpMix_seg 1 (by kernel_rfl) (by decide) ?_
    simp only [List.take_succ_cons, List.take_zero, List.drop_succ_cons, List.drop_zero, Nat.reduceSub]
    repeat (go_big_quiet_step (fail))
    refine wpQuiet_nil ?_
    refine wpMix_eff (by kernel_rfl) ?_
    go_wp2
    refine MixK.on (InS.mk ((mH.out _).2 ((HLV.out ▸ (HJ.out.later (K2.out.alloc _)).c.cellD 3 _ rfl)))) ?_
    refine wpMix_eff (by kernel_rfl) ?_
    go_wp2
    refine Exists.elim (⟨_, rfl⟩ : ∃ x, w2.alloc (.cells #[.int .i64 kind, .int .i64 ((ll : Int) + 1), .slice A2 n c2] 58) = x) fun w3 hw3 => ?_
    refine Exists.elim (⟨_, rfl⟩ : ∃ x, w2.heap.size = x) fun nb hnb => ?_
    rw [hw3, hnb]
    have K3 : Hid (Keeps None w w3) := by show Keeps _ _ _; rw [← hw3]; exact K2.out.alloc _
    have N3 : Hid (Blk w3 nb [.int .i64 kind, .int .i64 ((ll : Int) + 1), .slice A2 n c2] 58) := by show Blk _ _ _ _; rw [← hw3, ← hnb]; exact Blk.new _ [_, _, _] _
    have V3 : Hid (Bs w3 A2 n c2 body) := by show Bs _ _ _ _ _; rw [← hw3]; exact B2.out.alloc _
    have PB3 : Hid (∀ b off, A2 = some ⟨b, off, none⟩ → w.heap.size ≤ b ∧ b < w3.heap.size) := fun b off e => by have h1 := I2.out b off e; have h2 : w2.heap.size ≤ w3.heap.size := (by rw [← hw3]; simp); exact ⟨h1.1, by omega⟩
    have NBL : Hid (w.heap.size ≤ nb) := by show _ ≤ _; rw [← hnb]; exact K2.out.size
    clear hw3 hnb K2 B2 I2
    refine MixK.on (InS.mk ((mH.out _).2 ((HLV.out ▸ (HJ.out.later K3.out).c.cellD 3 _ rfl)))) ?_
    refine wpMix_nil ?_
    clear mk0 mn mH
    -- w3, nb, N3 (the record's cells), V3 (its body), K3, PB3 (where the body may lie)
    have J3 := Lib.hid (HJ.out.later K3.out)
    have PUT := Lib.hid (fun w (h : Bs w A2 n c2 body) => sput_all kind ((ll : Int) + 1) A2 n c2 body w h)
    obtain ⟨pl, HPL⟩ : ∃ x, Hid (putL kind ((ll : Int) + 1) body = x) := ⟨_, rfl⟩
    have PL : pl.length ≤ 600 := by rw [← HPL.out]; exact putL_le _ _ _
    obtain ⟨pn, HPN⟩ : ∃ x, Hid (pl.length = x) := ⟨_, rfl⟩
    rw [HPL.out] at PUT APP
    rw [HPN.out] at PL APP
    have n0 := N3.out.cellD 0 _ rfl
    have n1 := N3.out.cellD 1 _ rfl
    have n2 := N3.out.cellD 2 _ rfl
    go_wp2_with fail
    refine (PUT.out _ V3.out).mono ?_
    rintro e w5 ⟨v5, rfl, o5, k5⟩
    obtain ⟨A5, c5, rfl, b5, in5⟩ := o5.shape
    rw [HPN.out] at b5 ⊢
    have l5 := b5.le
    have m5 := b5.max
    have B5 := Lib.hid b5
    have I5 := Lib.hid in5
    have K5 := Lib.hid (K3.out.trans k5 (T := None) (fun _ h => h) (fun _ _ h => h))
    have J5 := Lib.hid (J3.out.later k5)
    have N5 := Lib.hid (k5.blk N3.out (fun h => h))
    have V5 := Lib.hid (V3.out.keeps k5 (fun _ _ _ _ _ h => h))
    have S35 := Lib.hid k5.size
    have K35 := Lib.hid K3.out.size
    have TS := Lib.hid (JTurn.still HJ.out K5.out)
    clear o5 k5 b5 in5 PUT J3 N3 V3 K3 n0 n1 n2
    have y8 := J5.out.c.cellD 8 _ rfl
    dsimp only at y8
    by_cases q0 : j.err ≠ 0
    · have d0 : (j.err == 0) = false := by simpa using q0
      have d0n : (j.err != 0) = true := by simpa using q0
      have E0 : Hid (res = (s, j, j.err)) := APP.out.trans (if_pos q0)
      clear APP
      go_wp2
      go_ret
      exact ⟨by rw [E0.out]; rfl, ⟨L, jb, lv, rs⟩, by rw [E0.out]; exact TS.out⟩
    have q0e : j.err = 0 := Classical.byContradiction q0
    have APP2 := Lib.hid (APP.out.trans (if_neg q0))
    rw [q0e] at y8
    clear APP q0 q0e
    by_cases q1 : kind = 1
    · have d1 : (kind == 1) = true := by simpa using q1
      have E0 : Hid (res = (s, j, 1)) := APP2.out.trans (if_pos (.inl q1))
      clear APP2 q1
      go_wp2
      go_ret
      exact ⟨by rw [E0.out]; rfl, ⟨L, jb, lv, rs⟩, by rw [E0.out]; exact TS.out⟩
    have d1 : (kind == 1) = false := by simpa using q1
    by_cases q2 : pn = 0
    · have E0 : Hid (res = (s, j, 1)) := APP2.out.trans (if_pos (.inr q2))
      have d2 : ((pn : Int) == 0) = true := by simpa using q2
      have d2n : (pn == 0) = true := by simpa using q2
      clear APP2 q2 q1
      go_wp2
      go_ret
      exact ⟨by rw [E0.out]; rfl, ⟨L, jb, lv, rs⟩, by rw [E0.out]; exact TS.out⟩
    have d2 : ((pn : Int) == 0) = false := by simp; omega
    have d2n : (pn == 0) = false := by simp; omega
    have APP3 := Lib.hid (APP2.out.trans (if_neg (fun h => h.elim q1 q2)))
    clear APP2 q1
    have RM := Lib.hid (jroom_any B q _ s j w5 J5.out OK.out.used)
    obtain ⟨rm, HRM⟩ : ∃ x, Hid (j.room = x) := ⟨_, rfl⟩
    rw [HRM.out] at RM APP3
    go_wp2_with fail
    refine RM.out.mono ?_
    rintro e w' ⟨rfl, rfl⟩
    by_cases q3 : rm < (pn : Int)
    · have d3 : decide (rm < (pn : Int)) = true := decide_eq_true q3
      have E0 : Hid (res = (s, j, 14)) := APP3.out.trans (if_pos q3)
      clear APP3
      go_wp2
      go_ret
      exact ⟨by rw [E0.out]; rfl, ⟨L, jb, lv, rs⟩, by rw [E0.out]; exact TS.out⟩
    have d3 : decide (rm < (pn : Int)) = false := decide_eq_false q3
    have APP4 := Lib.hid (APP3.out.trans (if_neg q3))
    clear APP3
    have hcur : 0 ≤ j.cur ∧ j.cur ≤ 1 := by
      have h1 := HRM.out
      have h2 := OK.out.cur
      unfold JS.room at h1
      split at h1
      · omega
      · rename_i h3
        have : j.cur ≠ -1 := fun e => h3 (.inr e)
        omega
    obtain ⟨hc0, hc1⟩ := hcur
    have hu := OK.out.used
    obtain ⟨jc, HJC⟩ : ∃ x, Hid (j.cur = x) := ⟨_, rfl⟩
    obtain ⟨ju, HJU⟩ : ∃ x, Hid (j.used = x) := ⟨_, rfl⟩
    rw [HJC.out] at hc0 hc1
    rw [HJU.out] at hu
    have r0 := J5.out.c.cellD 0 _ rfl
    have r1 := J5.out.c.cellD 1 _ rfl
    have r2 := J5.out.c.cellD 2 _ rfl
    have r5 := J5.out.c.cellD 5 _ rfl
    have r6 := J5.out.c.cellD 6 _ rfl
    dsimp only at r0 r1 r2 r5 r6
    rw [HJC.out] at r5 APP4
    rw [HJU.out] at r6 APP4
    have PRG := Lib.hid ((J5.out.later (Keeps.refl None w5).drew).prog (jc * 1024 + (ju : Int)) B5.out.drew (by obtain ⟨h1, h2⟩ := hst; omega) (fun b off h0 e hS => by have h1 := (I5.out b off e).1; have h2 := HJ.out.lt b hS; have h3 := K35.out; omega))
    obtain ⟨⟨s1, x1⟩, HG⟩ : ∃ x, Hid (s.gprog 0 2 (jc * 1024 + (ju : Int)) pl = x) := ⟨_, rfl⟩
    rw [HG.out] at PRG APP4
    dsimp only at PRG APP4
    have NX : Hid (∀ k, JX.S ⟨L, jb, lv, rs⟩ k → k < w.heap.size) := HJ.out.lt
    clear RM
    go_wp2
    obtain ⟨mpS, mph⟩ : ∃ S : World → Prop, ∀ w', S w' ↔ (w'.cell? ⟨jb, 0, none⟩ = some (.pointer (some ⟨q, 0, none⟩)) ∧ w'.cell? ⟨jb, 1, none⟩ = some (.int .i64 0) ∧ w'.cell? ⟨jb, 2, none⟩ = some (.int .i64 2) ∧ w'.cell? ⟨jb, 5, none⟩ = some (.int .i64 jc) ∧ w'.cell? ⟨jb, 6, none⟩ = some (.int .i64 (ju : Int))) := ⟨_, fun _ => Iff.rfl⟩
    have mpk0 : ∀ x : Memb mpS, x.at_.cell? ⟨jb, 0, none⟩ = some (.pointer (some ⟨q, 0, none⟩)) := fun x => ((mph _).1 x.is).1
    have mpk1 : ∀ x : Memb mpS, x.at_.cell? ⟨jb, 1, none⟩ = some (.int .i64 0) := fun x => ((mph _).1 x.is).2.1
    have mpk2 : ∀ x : Memb mpS, x.at_.cell? ⟨jb, 2, none⟩ = some (.int .i64 2) := fun x => ((mph _).1 x.is).2.2.1
    have mpk3 : ∀ x : Memb mpS, x.at_.cell? ⟨jb, 5, none⟩ = some (.int .i64 jc) := fun x => ((mph _).1 x.is).2.2.2.1
    have mpk4 : ∀ x : Memb mpS, x.at_.cell? ⟨jb, 6, none⟩ = some (.int .i64 (ju : Int)) := fun x => ((mph _).1 x.is).2.2.2.2
    have mpn : Nonempty (Memb mpS) := ⟨⟨(w5).drew, (mph _).2 ⟨r0, r1, r2, r5, r6⟩⟩⟩
    have mpH := Lib.hid mph
    clear mph
    refine wp_region_mix [16, 17] (InS mpS) (by kernel_rfl) (by kernel_rfl) (InS.mk ((mpH.out _).2 ⟨r0, r1, r2, r5, r6⟩)) ?_
    refine wpMix_seg 16 (by kernel_rfl) (by decide) ?_
    simp only [List.take_succ_cons, List.take_zero, List.drop_succ_cons, List.drop_zero]
    repeat (go_big_quiet_step (fail))
    refine wpQuiet_nil ?_
    refine wpMix_eff (by kernel_rfl) ?_
    go_wp2_with fail
    refine PRG.out.mono ?_
    rintro e w6 ⟨rfl, L6, t6⟩
    have T6 := Lib.hid (JTurn.from (Keeps.refl None w5).drew t6)
    clear t6
    go_wp2
    refine MixK.on (InS.mk ((mpH.out _).2 (⟨T6.out.at_.c.cellD 0 _ rfl, T6.out.at_.c.cellD 1 _ rfl, T6.out.at_.c.cellD 2 _ rfl, HJC.out ▸ T6.out.at_.c.cellD 5 _ rfl, HJU.out ▸ T6.out.at_.c.cellD 6 _ rfl⟩))) ?_
    refine wpMix_eff (by kernel_rfl) ?_
    go_wp2_with fail
    refine (jfailed_any B q _ s1 j x1 w6 T6.out.at_).mono ?_
    rintro e w7 ⟨rfl, p7⟩
    have T7 := Lib.hid (T6.out.trans p7.t)
    clear p7 T6
    go_wp2
    refine MixK.on (InS.mk ((mpH.out _).2 (⟨T7.out.at_.c.cellD 0 _ rfl, T7.out.at_.c.cellD 1 _ rfl, T7.out.at_.c.cellD 2 _ rfl, HJC.out ▸ T7.out.at_.c.cellD 5 _ rfl, HJU.out ▸ T7.out.at_.c.cellD 6 _ rfl⟩))) ?_
    refine wpMix_seg 1 (by kernel_rfl) (by decide) ?_
    simp only [List.take_succ_cons, List.take_zero, List.drop_succ_cons, List.drop_zero]
    repeat (go_big_quiet_step (fail))
    refine wpQuiet_nil ?_
    refine wpMix_nil ?_
    clear mpk0 mpk1 mpk2 mpk3 mpk4 mpn mpH
    clear PRG r0 r1 r2 r5 r6 y8
    have TW := Lib.hid (TS.out.trans T7.out)
    by_cases q4 : x1 ≠ 0
    · have d4 : (x1 != 0) = true := by simpa using q4
      have E0 := Lib.hid (APP4.out.trans (if_pos q4))
      have y8 := T7.out.at_.c.cellD 8 _ rfl
      dsimp only at y8
      clear APP4
      go_wp2
      go_ret
      exact ⟨by rw [E0.out]; rfl, ⟨L6, jb, lv, rs⟩, by rw [E0.out, ← HJC.out, ← HJU.out]; exact TW.out⟩
    obtain rfl : x1 = 0 := Classical.byContradiction q4
    have E0 := Lib.hid (APP4.out.trans (if_neg q4))
    clear APP4 q4
    have N7 := Lib.hid (T7.out.keeps.blk N5.out (fun hS => by have h1 := NX.out _ hS; have h2 := NBL.out; omega))
    have V7 := Lib.hid (V5.out.keeps T7.out.keeps (fun b off h0 _ e hS => by have h1 := NX.out _ hS; have h2 := (PB3.out b off e).1; omega))
    have NB7 : Hid (nb < w5.heap.size) := N5.out.lt
    have LVN : Hid (∀ b, lv.ownBlock = some b → b < w.heap.size) := fun b e => HJ.out.lt b (.inr (.inr (.inl e)))
    have y3 := T7.out.at_.c.cellD 3 _ rfl
    dsimp only at y3
    rw [HLV.out] at y3
    go_wp2
    obtain ⟨mmS, mmh⟩ : ∃ S : World → Prop, ∀ w', S w' ↔ (w'.cell? ⟨jb, 3, none⟩ = some (.slice A1 ll c1) ∧ w'.cell? ⟨nb, 0, none⟩ = some (.int .i64 kind) ∧ w'.cell? ⟨nb, 1, none⟩ = some (.int .i64 ((ll : Int) + 1)) ∧ w'.cell? ⟨nb, 2, none⟩ = some (.slice A2 n c2)) := ⟨_, fun _ => Iff.rfl⟩
    have mmk0 : ∀ x : Memb mmS, x.at_.cell? ⟨jb, 3, none⟩ = some (.slice A1 ll c1) := fun x => ((mmh _).1 x.is).1
    have mmk1 : ∀ x : Memb mmS, x.at_.cell? ⟨nb, 0, none⟩ = some (.int .i64 kind) := fun x => ((mmh _).1 x.is).2.1
    have mmk2 : ∀ x : Memb mmS, x.at_.cell? ⟨nb, 1, none⟩ = some (.int .i64 ((ll : Int) + 1)) := fun x => ((mmh _).1 x.is).2.2.1
    have mmk3 : ∀ x : Memb mmS, x.at_.cell? ⟨nb, 2, none⟩ = some (.slice A2 n c2) := fun x => ((mmh _).1 x.is).2.2.2
    have mmn : Nonempty (Memb mmS) := ⟨⟨(w7).drew, (mmh _).2 ⟨y3, N7.out.cellD 0 _ rfl, N7.out.cellD 1 _ rfl, N7.out.cellD 2 _ rfl⟩⟩⟩
    have mmH := Lib.hid mmh
    clear mmh
    refine wp_region_mix [6, 7, 10] (InS mmS) (by kernel_rfl) (by kernel_rfl) (InS.mk ((mmH.out _).2 ⟨y3, N7.out.cellD 0 _ rfl, N7.out.cellD 1 _ rfl, N7.out.cellD 2 _ rfl⟩)) ?_
    refine wpMix_seg 6 (by kernel_rfl) (by decide) ?_
    simp only [List.take_succ_cons, List.take_zero, List.drop_succ_cons, List.drop_zero]
    repeat (go_big_quiet_step (fail))
    refine wpQuiet_nil ?_
    refine wpMix_eff (by kernel_rfl) ?_
    go_wp2
    first | (refine Exists.elim (⟨_, rfl⟩ : ∃ x, (w7.alloc (.cells #[.int .i64 kind, .int .i64 ((ll : Int) + 1), .slice A2 n c2] 58)).drew = x) fun w8 hw8 => ?_; rw [hw8]) | (refine Exists.elim (⟨_, rfl⟩ : ∃ x, w7.drew.alloc (.cells #[.int .i64 kind, .int .i64 ((ll : Int) + 1), .slice A2 n c2] 58) = x) fun w8 hw8 => ?_; rw [hw8])
    have K8 : Hid (Keeps None w7 w8) := by show Keeps _ _ _; rw [← hw8]; first | exact ((Keeps.refl None w7).alloc _).drew | exact (Keeps.refl None w7).drew.alloc _
    have N8 : Hid (Blk w8 w7.heap.size [.int .i64 kind, .int .i64 ((ll : Int) + 1), .slice A2 n c2] 58) := by show Blk _ _ _ _; rw [← hw8]; first | exact (Blk.new _ [_, _, _] _).drew | exact Blk.new w7.drew [_, _, _] _
    have M8 := Lib.hid (K8.out.blk N7.out (fun h => h))
    have J8 := Lib.hid (T7.out.at_.later K8.out)
    have x3 := J8.out.c.cellD 3 _ rfl
    try dsimp only at x3
    rw [HLV.out] at x3
    clear hw8
    refine MixK.on (InS.mk ((mmH.out _).2 (⟨x3, M8.out.cellD 0 _ rfl, M8.out.cellD 1 _ rfl, M8.out.cellD 2 _ rfl⟩))) ?_
    refine wpMix_eff (by kernel_rfl) ?_
    go_wp2_with (at_builtin; refine Hid.out ?_)
    refine Lib.hid ?_
    refine wpList_append_recs (B := B) (rs := rs) (ns := [⟨kind, (ll : Int) + 1, A2, c2, body⟩]) (HLV.out ▸ J8.out.l) (Rws.one _ (by show Blk _ _ [_, _, .slice A2 body.length c2] _; rw [HL.out]; exact N8.out)) (by rw [RLL.out]; omega) (Nat.le_of_lt (Nat.lt_of_le_of_lt J8.out.jB J8.out.c.lt)) rfl rfl rfl rfl rfl ?_
    intro v9 w9 o9 k9 hat9
    rw [← HLV.out] at k9 hat9
    obtain ⟨A9, c9, hv9, r9, -⟩ := o9.shape
    have m9 := r9.max
    have l9 := r9.le
    have n9e : (rs ++ [(⟨kind, (ll : Int) + 1, A2, c2, body⟩ : RV)]).length = ll + 1 := by rw [List.length_append, RLL.out]; rfl
    rw [n9e] at hv9 l9
    subst hv9
    have PU := Lib.hid (TW.out.push HBA.out K8.out k9 o9 (hat9.imp id (fun h => ⟨_, h, Nat.le_refl _⟩)) ((show Bs w7 A2 body.length c2 body from by rw [HL.out]; exact V7.out).keeps K8.out (fun _ _ _ _ _ h => h)) (fun b ⟨o, h0, e⟩ => ⟨(PB3.out b o e).1, by have h1 := (PB3.out b o e).2; have h2 := S35.out; have h3 := T7.out.keeps.size; have h4 := K8.out.size; omega, fun hS => by have h1 := (PB3.out b o e); have h2 := S35.out; rcases T7.out.o b hS with h3 | h3; exact absurd (NX.out b h3) (by omega); omega⟩))
    have Y9 := Lib.hid (k9.blk J8.out.c (fun e => (J8.out.lo _ e).2 rfl))
    have M9 := Lib.hid (k9.blk M8.out (fun e => by have h1 := LVN.out _ e; have h2 := NBL.out; omega))
    have x3 := Y9.out.cellD 3 _ rfl
    have g3 := Y9.out.frozen 3
    have g6 := Y9.out.frozen 6
    have x6 := Y9.out.cellD 6 _ rfl
    try dsimp only at x3 x6
    rw [HLV.out] at x3
    rw [HJU.out] at x6
    clear o9 k9 hat9 r9 n9e
    go_wp2
    refine MixK.on (InS.mk ((mmH.out _).2 (⟨x3, M9.out.cellD 0 _ rfl, M9.out.cellD 1 _ rfl, M9.out.cellD 2 _ rfl⟩))) ?_
    refine wpMix_seg 2 (by kernel_rfl) (by decide) ?_
    simp only [List.take_succ_cons, List.take_zero, List.drop_succ_cons, List.drop_zero]
    repeat (go_big_quiet_step (fail))
    refine wpQuiet_nil ?_
    refine wpMix_eff (by kernel_rfl) ?_
    go_wp2
    refine MixK.last (by kernel_rfl) ?_
    refine wpMix_nil ?_
    clear mmk0 mmk1 mmk2 mmk3 mmn mmH
    have P6 := Lib.hid (PU.out.at_.put (j' := { j with err := 0, l := j.l ++ [⟨kind, (ll : Int) + 1, body⟩], used := ju + pn }) 6 (.int .i64 ((ju + pn : Nat) : Int)) rfl rfl)
    try dsimp only at P6
    have e6 : ((ju + pn : Nat) : Int) = (ju : Int) + (pn : Int) := by omega
    rw [e6] at P6
    clear e6
    go_wp2
    go_ret
    exact ⟨by rw [E0.out]; rfl, ⟨L6, jb, .slice A9 (ll + 1) c9, rs ++ [⟨kind, (ll : Int) + 1, A2, c2, body⟩]⟩, by rw [E0.out, ← HJC.out]; exact PU.out.trans P6.out.t⟩
  ·
    try dsimp only
    try simp only [List.take_succ_cons, List.take_zero, List.drop_succ_cons, List.drop_zero, Nat.reduceSub]
    refine wpMix_nil ?_
    try dsimp only
    try simp only [List.take_succ_cons, List.take_zero, List.drop_succ_cons, List.drop_zero, Nat.reduceSub]
    refine wpMix_eff (by kernel_rfl) ?_
    go_wp2
    refine Exists.elim (⟨_, rfl⟩ : ∃ x, (w.alloc (.cells #[.int .i64 0, .int .i64 0, .slice none 0 0] 58)).drew = x) fun wy hwy => ?_
    refine Exists.elim (⟨_, rfl⟩ : ∃ x, w.heap.size = x) fun nb hnb => ?_
    rw [hwy, hnb]
    have NBL : Hid (w.heap.size ≤ nb) := by show _ ≤ _; rw [← hnb]; exact Nat.le_refl _
    have KY : Hid (Keeps None w wy) := by show Keeps _ _ _; rw [← hwy]; exact ((Keeps.refl None w).alloc _).drew
    have NY : Hid (Blk wy nb [.int .i64 0, .int .i64 0, .slice none 0 0] 58) := by show Blk _ _ _ _; rw [← hwy, ← hnb]; exact (Blk.new _ [_, _, _] _).drew
    refine MixK.on (InS.mk ((mH.out _).2 ((HLV.out ▸ (HJ.out.later KY.out).c.cellD 3 _ rfl)))) ?_
    refine wpMix_nil ?_
    try dsimp only
    try simp only [List.take_succ_cons, List.take_zero, List.drop_succ_cons, List.drop_zero, Nat.reduceSub]
    refine wpMix_seg 8 (by kernel_rfl) (by decide) ?_
    simp only [List.take_succ_cons, List.take_zero, List.drop_succ_cons, List.drop_zero, Nat.reduceSub]
    repeat (go_big_quiet_step (fail))
    refine wpQuiet_nil ?_
    refine wpMix_eff (by kernel_rfl) ?_
    go_wp2_with fail
    refine (clone_any A n cap body _ (HB.out.keeps KY.out (fun _ _ _ _ _ h => h)) hn).mono ?_
    rintro e w2 ⟨v2, rfl, o2, k2⟩
    obtain ⟨A2, c2, rfl, b2, in2⟩ := o2.shape
    rw [HL.out] at b2 o2 ⊢
    have K2 := Lib.hid (KY.out.trans k2 (T := None) (fun _ h => h) (fun _ _ h => h))
    have N2 := Lib.hid (k2.blk NY.out (fun h => h))
    have B2 := Lib.hid b2
    have I2 := Lib.hid in2
    have nq0 := N2.out.cellD 0 _ rfl
    have nq1 := N2.out.cellD 1 _ rfl
    have nq2 := N2.out.cellD 2 _ rfl
    have nf0 := N2.out.frozen 0
    have nf1 := N2.out.frozen 1
    have nf2 := N2.out.frozen 2
    clear o2 k2 b2 in2
    go_wp2
    refine MixK.on (InS.mk ((mH.out _).2 ((HLV.out ▸ (HJ.out.later K2.out).c.cellD 3 _ rfl)))) ?_
    refine wpMix_seg 1 (by kernel_rfl) (by decide) ?_
    simp only [List.take_succ_cons, List.take_zero, List.drop_succ_cons, List.drop_zero, Nat.reduceSub]
    repeat (go_big_quiet_step (fail))
    refine wpQuiet_nil ?_
    refine wpMix_nil ?_
    try dsimp only
    try simp only [List.take_succ_cons, List.take_zero, List.drop_succ_cons, List.drop_zero, Nat.reduceSub]
    refine wpMix_eff (by kernel_rfl) ?_
    go_wp2
    refine Exists.elim (⟨_, rfl⟩ : ∃ x, ((w2.setCell ⟨nb, 0, none⟩ (.int .i64 kind)).setCell ⟨nb, 1, none⟩ (.int .i64 ((ll : Int) + 1))).setCell ⟨nb, 2, none⟩ (.slice A2 n c2) = x) fun w3 hw3 => ?_
    rw [hw3]
    have KS : Hid (Keeps (fun i => i = nb) w2 w3) := by show Keeps _ _ _; rw [← hw3]; exact (((Keeps.refl (fun i => i = nb) w2).put 0 _).put 1 _).put 2 _
    have K3 : Hid (Keeps None w w3) := by show Keeps _ _ _; exact K2.out.trans KS.out (fun _ h => h) (fun i hi e => by have h1 := NBL.out; have e : i = nb := e; omega)
    have N3 : Hid (Blk w3 nb [.int .i64 kind, .int .i64 ((ll : Int) + 1), .slice A2 n c2] 58) := by show Blk _ _ _ _; rw [← hw3]; exact ((N2.out.set 0 _).set 1 _).set 2 _
    have V3 : Hid (Bs w3 A2 n c2 body) := B2.out.keeps KS.out (fun b off _ _ e hb => by have h1 := (I2.out b off e).1; have h2 := NY.out.lt; have hb : b = nb := hb; omega)
    have PB3 : Hid (∀ b off, A2 = some ⟨b, off, none⟩ → w.heap.size ≤ b ∧ b < w3.heap.size) := fun b off e => by have h1 := I2.out b off e; have h2 := KS.out.size; have h3 := KY.out.size; exact ⟨by omega, by omega⟩
    clear hw3 hnb hwy K2 B2 I2 KS N2 NY KY nq0 nq1 nq2 nf0 nf1 nf2
    refine MixK.on (InS.mk ((mH.out _).2 ((HLV.out ▸ (HJ.out.later K3.out).c.cellD 3 _ rfl)))) ?_
    refine wpMix_nil ?_
    clear mk0 mn mH
    -- w3, nb, N3 (the record's cells), V3 (its body), K3, PB3 (where the body may lie)
    have J3 := Lib.hid (HJ.out.later K3.out)
    have PUT := Lib.hid (fun w (h : Bs w A2 n c2 body) => sput_all kind ((ll : Int) + 1) A2 n c2 body w h)
    obtain ⟨pl, HPL⟩ : ∃ x, Hid (putL kind ((ll : Int) + 1) body = x) := ⟨_, rfl⟩
    have PL : pl.length ≤ 600 := by rw [← HPL.out]; exact putL_le _ _ _
    obtain ⟨pn, HPN⟩ : ∃ x, Hid (pl.length = x) := ⟨_, rfl⟩
    rw [HPL.out] at PUT APP
    rw [HPN.out] at PL APP
    have n0 := N3.out.cellD 0 _ rfl
    have n1 := N3.out.cellD 1 _ rfl
    have n2 := N3.out.cellD 2 _ rfl
    go_wp2_with fail
    refine (PUT.out _ V3.out).mono ?_
    rintro e w5 ⟨v5, rfl, o5, k5⟩
    obtain ⟨A5, c5, rfl, b5, in5⟩ := o5.shape
    rw [HPN.out] at b5 ⊢
    have l5 := b5.le
    have m5 := b5.max
    have B5 := Lib.hid b5
    have I5 := Lib.hid in5
    have K5 := Lib.hid (K3.out.trans k5 (T := None) (fun _ h => h) (fun _ _ h => h))
    have J5 := Lib.hid (J3.out.later k5)
    have N5 := Lib.hid (k5.blk N3.out (fun h => h))
    have V5 := Lib.hid (V3.out.keeps k5 (fun _ _ _ _ _ h => h))
    have S35 := Lib.hid k5.size
    have K35 := Lib.hid K3.out.size
    have TS := Lib.hid (JTurn.still HJ.out K5.out)
    clear o5 k5 b5 in5 PUT J3 N3 V3 K3 n0 n1 n2
    have y8 := J5.out.c.cellD 8 _ rfl
    dsimp only at y8
    by_cases q0 : j.err ≠ 0
    · have d0 : (j.err == 0) = false := by simpa using q0
      have d0n : (j.err != 0) = true := by simpa using q0
      have E0 : Hid (res = (s, j, j.err)) := APP.out.trans (if_pos q0)
      clear APP
      go_wp2
      go_ret
      exact ⟨by rw [E0.out]; rfl, ⟨L, jb, lv, rs⟩, by rw [E0.out]; exact TS.out⟩
    have q0e : j.err = 0 := Classical.byContradiction q0
    have APP2 := Lib.hid (APP.out.trans (if_neg q0))
    rw [q0e] at y8
    clear APP q0 q0e
    by_cases q1 : kind = 1
    · have d1 : (kind == 1) = true := by simpa using q1
      have E0 : Hid (res = (s, j, 1)) := APP2.out.trans (if_pos (.inl q1))
      clear APP2 q1
      go_wp2
      go_ret
      exact ⟨by rw [E0.out]; rfl, ⟨L, jb, lv, rs⟩, by rw [E0.out]; exact TS.out⟩
    have d1 : (kind == 1) = false := by simpa using q1
    by_cases q2 : pn = 0
    · have E0 : Hid (res = (s, j, 1)) := APP2.out.trans (if_pos (.inr q2))
      have d2 : ((pn : Int) == 0) = true := by simpa using q2
      have d2n : (pn == 0) = true := by simpa using q2
      clear APP2 q2 q1
      go_wp2
      go_ret
      exact ⟨by rw [E0.out]; rfl, ⟨L, jb, lv, rs⟩, by rw [E0.out]; exact TS.out⟩
    have d2 : ((pn : Int) == 0) = false := by simp; omega
    have d2n : (pn == 0) = false := by simp; omega
    have APP3 := Lib.hid (APP2.out.trans (if_neg (fun h => h.elim q1 q2)))
    clear APP2 q1
    have RM := Lib.hid (jroom_any B q _ s j w5 J5.out OK.out.used)
    obtain ⟨rm, HRM⟩ : ∃ x, Hid (j.room = x) := ⟨_, rfl⟩
    rw [HRM.out] at RM APP3
    go_wp2_with fail
    refine RM.out.mono ?_
    rintro e w' ⟨rfl, rfl⟩
    by_cases q3 : rm < (pn : Int)
    · have d3 : decide (rm < (pn : Int)) = true := decide_eq_true q3
      have E0 : Hid (res = (s, j, 14)) := APP3.out.trans (if_pos q3)
      clear APP3
      go_wp2
      go_ret
      exact ⟨by rw [E0.out]; rfl, ⟨L, jb, lv, rs⟩, by rw [E0.out]; exact TS.out⟩
    have d3 : decide (rm < (pn : Int)) = false := decide_eq_false q3
    have APP4 := Lib.hid (APP3.out.trans (if_neg q3))
    clear APP3
    have hcur : 0 ≤ j.cur ∧ j.cur ≤ 1 := by
      have h1 := HRM.out
      have h2 := OK.out.cur
      unfold JS.room at h1
      split at h1
      · omega
      · rename_i h3
        have : j.cur ≠ -1 := fun e => h3 (.inr e)
        omega
    obtain ⟨hc0, hc1⟩ := hcur
    have hu := OK.out.used
    obtain ⟨jc, HJC⟩ : ∃ x, Hid (j.cur = x) := ⟨_, rfl⟩
    obtain ⟨ju, HJU⟩ : ∃ x, Hid (j.used = x) := ⟨_, rfl⟩
    rw [HJC.out] at hc0 hc1
    rw [HJU.out] at hu
    have r0 := J5.out.c.cellD 0 _ rfl
    have r1 := J5.out.c.cellD 1 _ rfl
    have r2 := J5.out.c.cellD 2 _ rfl
    have r5 := J5.out.c.cellD 5 _ rfl
    have r6 := J5.out.c.cellD 6 _ rfl
    dsimp only at r0 r1 r2 r5 r6
    rw [HJC.out] at r5 APP4
    rw [HJU.out] at r6 APP4
    have PRG := Lib.hid ((J5.out.later (Keeps.refl None w5).drew).prog (jc * 1024 + (ju : Int)) B5.out.drew (by obtain ⟨h1, h2⟩ := hst; omega) (fun b off h0 e hS => by have h1 := (I5.out b off e).1; have h2 := HJ.out.lt b hS; have h3 := K35.out; omega))
    obtain ⟨⟨s1, x1⟩, HG⟩ : ∃ x, Hid (s.gprog 0 2 (jc * 1024 + (ju : Int)) pl = x) := ⟨_, rfl⟩
    rw [HG.out] at PRG APP4
    dsimp only at PRG APP4
    have NX : Hid (∀ k, JX.S ⟨L, jb, lv, rs⟩ k → k < w.heap.size) := HJ.out.lt
    clear RM
    go_wp2
    obtain ⟨mpS, mph⟩ : ∃ S : World → Prop, ∀ w', S w' ↔ (w'.cell? ⟨jb, 0, none⟩ = some (.pointer (some ⟨q, 0, none⟩)) ∧ w'.cell? ⟨jb, 1, none⟩ = some (.int .i64 0) ∧ w'.cell? ⟨jb, 2, none⟩ = some (.int .i64 2) ∧ w'.cell? ⟨jb, 5, none⟩ = some (.int .i64 jc) ∧ w'.cell? ⟨jb, 6, none⟩ = some (.int .i64 (ju : Int))) := ⟨_, fun _ => Iff.rfl⟩
    have mpk0 : ∀ x : Memb mpS, x.at_.cell? ⟨jb, 0, none⟩ = some (.pointer (some ⟨q, 0, none⟩)) := fun x => ((mph _).1 x.is).1
    have mpk1 : ∀ x : Memb mpS, x.at_.cell? ⟨jb, 1, none⟩ = some (.int .i64 0) := fun x => ((mph _).1 x.is).2.1
    have mpk2 : ∀ x : Memb mpS, x.at_.cell? ⟨jb, 2, none⟩ = some (.int .i64 2) := fun x => ((mph _).1 x.is).2.2.1
    have mpk3 : ∀ x : Memb mpS, x.at_.cell? ⟨jb, 5, none⟩ = some (.int .i64 jc) := fun x => ((mph _).1 x.is).2.2.2.1
    have mpk4 : ∀ x : Memb mpS, x.at_.cell? ⟨jb, 6, none⟩ = some (.int .i64 (ju : Int)) := fun x => ((mph _).1 x.is).2.2.2.2
    have mpn : Nonempty (Memb mpS) := ⟨⟨(w5).drew, (mph _).2 ⟨r0, r1, r2, r5, r6⟩⟩⟩
    have mpH := Lib.hid mph
    clear mph
    refine wp_region_mix [16, 17] (InS mpS) (by kernel_rfl) (by kernel_rfl) (InS.mk ((mpH.out _).2 ⟨r0, r1, r2, r5, r6⟩)) ?_
    refine wpMix_seg 16 (by kernel_rfl) (by decide) ?_
    simp only [List.take_succ_cons, List.take_zero, List.drop_succ_cons, List.drop_zero]
    repeat (go_big_quiet_step (fail))
    refine wpQuiet_nil ?_
    refine wpMix_eff (by kernel_rfl) ?_
    go_wp2_with fail
    refine PRG.out.mono ?_
    rintro e w6 ⟨rfl, L6, t6⟩
    have T6 := Lib.hid (JTurn.from (Keeps.refl None w5).drew t6)
    clear t6
    go_wp2
    refine MixK.on (InS.mk ((mpH.out _).2 (⟨T6.out.at_.c.cellD 0 _ rfl, T6.out.at_.c.cellD 1 _ rfl, T6.out.at_.c.cellD 2 _ rfl, HJC.out ▸ T6.out.at_.c.cellD 5 _ rfl, HJU.out ▸ T6.out.at_.c.cellD 6 _ rfl⟩))) ?_
    refine wpMix_eff (by kernel_rfl) ?_
    go_wp2_with fail
    refine (jfailed_any B q _ s1 j x1 w6 T6.out.at_).mono ?_
    rintro e w7 ⟨rfl, p7⟩
    have T7 := Lib.hid (T6.out.trans p7.t)
    clear p7 T6
    go_wp2
    refine MixK.on (InS.mk ((mpH.out _).2 (⟨T7.out.at_.c.cellD 0 _ rfl, T7.out.at_.c.cellD 1 _ rfl, T7.out.at_.c.cellD 2 _ rfl, HJC.out ▸ T7.out.at_.c.cellD 5 _ rfl, HJU.out ▸ T7.out.at_.c.cellD 6 _ rfl⟩))) ?_
    refine wpMix_seg 1 (by kernel_rfl) (by decide) ?_
    simp only [List.take_succ_cons, List.take_zero, List.drop_succ_cons, List.drop_zero]
    repeat (go_big_quiet_step (fail))
    refine wpQuiet_nil ?_
    refine wpMix_nil ?_
    clear mpk0 mpk1 mpk2 mpk3 mpk4 mpn mpH
    clear PRG r0 r1 r2 r5 r6 y8
    have TW := Lib.hid (TS.out.trans T7.out)
    by_cases q4 : x1 ≠ 0
    · have d4 : (x1 != 0) = true := by simpa using q4
      have E0 := Lib.hid (APP4.out.trans (if_pos q4))
      have y8 := T7.out.at_.c.cellD 8 _ rfl
      dsimp only at y8
      clear APP4
      go_wp2
      go_ret
      exact ⟨by rw [E0.out]; rfl, ⟨L6, jb, lv, rs⟩, by rw [E0.out, ← HJC.out, ← HJU.out]; exact TW.out⟩
    obtain rfl : x1 = 0 := Classical.byContradiction q4
    have E0 := Lib.hid (APP4.out.trans (if_neg q4))
    clear APP4 q4
    have N7 := Lib.hid (T7.out.keeps.blk N5.out (fun hS => by have h1 := NX.out _ hS; have h2 := NBL.out; omega))
    have V7 := Lib.hid (V5.out.keeps T7.out.keeps (fun b off h0 _ e hS => by have h1 := NX.out _ hS; have h2 := (PB3.out b off e).1; omega))
    have NB7 : Hid (nb < w5.heap.size) := N5.out.lt
    have LVN : Hid (∀ b, lv.ownBlock = some b → b < w.heap.size) := fun b e => HJ.out.lt b (.inr (.inr (.inl e)))
    have y3 := T7.out.at_.c.cellD 3 _ rfl
    dsimp only at y3
    rw [HLV.out] at y3
    go_wp2
    obtain ⟨mmS, mmh⟩ : ∃ S : World → Prop, ∀ w', S w' ↔ (w'.cell? ⟨jb, 3, none⟩ = some (.slice A1 ll c1) ∧ w'.cell? ⟨nb, 0, none⟩ = some (.int .i64 kind) ∧ w'.cell? ⟨nb, 1, none⟩ = some (.int .i64 ((ll : Int) + 1)) ∧ w'.cell? ⟨nb, 2, none⟩ = some (.slice A2 n c2)) := ⟨_, fun _ => Iff.rfl⟩
    have mmk0 : ∀ x : Memb mmS, x.at_.cell? ⟨jb, 3, none⟩ = some (.slice A1 ll c1) := fun x => ((mmh _).1 x.is).1
    have mmk1 : ∀ x : Memb mmS, x.at_.cell? ⟨nb, 0, none⟩ = some (.int .i64 kind) := fun x => ((mmh _).1 x.is).2.1
    have mmk2 : ∀ x : Memb mmS, x.at_.cell? ⟨nb, 1, none⟩ = some (.int .i64 ((ll : Int) + 1)) := fun x => ((mmh _).1 x.is).2.2.1
    have mmk3 : ∀ x : Memb mmS, x.at_.cell? ⟨nb, 2, none⟩ = some (.slice A2 n c2) := fun x => ((mmh _).1 x.is).2.2.2
    have mmn : Nonempty (Memb mmS) := ⟨⟨(w7).drew, (mmh _).2 ⟨y3, N7.out.cellD 0 _ rfl, N7.out.cellD 1 _ rfl, N7.out.cellD 2 _ rfl⟩⟩⟩
    have mmH := Lib.hid mmh
    clear mmh
    refine wp_region_mix [6, 7, 10] (InS mmS) (by kernel_rfl) (by kernel_rfl) (InS.mk ((mmH.out _).2 ⟨y3, N7.out.cellD 0 _ rfl, N7.out.cellD 1 _ rfl, N7.out.cellD 2 _ rfl⟩)) ?_
    refine wpMix_seg 6 (by kernel_rfl) (by decide) ?_
    simp only [List.take_succ_cons, List.take_zero, List.drop_succ_cons, List.drop_zero]
    repeat (go_big_quiet_step (fail))
    refine wpQuiet_nil ?_
    refine wpMix_eff (by kernel_rfl) ?_
    go_wp2
    first | (refine Exists.elim (⟨_, rfl⟩ : ∃ x, (w7.alloc (.cells #[.int .i64 kind, .int .i64 ((ll : Int) + 1), .slice A2 n c2] 58)).drew = x) fun w8 hw8 => ?_; rw [hw8]) | (refine Exists.elim (⟨_, rfl⟩ : ∃ x, w7.drew.alloc (.cells #[.int .i64 kind, .int .i64 ((ll : Int) + 1), .slice A2 n c2] 58) = x) fun w8 hw8 => ?_; rw [hw8])
    have K8 : Hid (Keeps None w7 w8) := by show Keeps _ _ _; rw [← hw8]; first | exact ((Keeps.refl None w7).alloc _).drew | exact (Keeps.refl None w7).drew.alloc _
    have N8 : Hid (Blk w8 w7.heap.size [.int .i64 kind, .int .i64 ((ll : Int) + 1), .slice A2 n c2] 58) := by show Blk _ _ _ _; rw [← hw8]; first | exact (Blk.new _ [_, _, _] _).drew | exact Blk.new w7.drew [_, _, _] _
    have M8 := Lib.hid (K8.out.blk N7.out (fun h => h))
    have J8 := Lib.hid (T7.out.at_.later K8.out)
    have x3 := J8.out.c.cellD 3 _ rfl
    try dsimp only at x3
    rw [HLV.out] at x3
    clear hw8
    refine MixK.on (InS.mk ((mmH.out _).2 (⟨x3, M8.out.cellD 0 _ rfl, M8.out.cellD 1 _ rfl, M8.out.cellD 2 _ rfl⟩))) ?_
    refine wpMix_eff (by kernel_rfl) ?_
    go_wp2_with (at_builtin; refine Hid.out ?_)
    refine Lib.hid ?_
    refine wpList_append_recs (B := B) (rs := rs) (ns := [⟨kind, (ll : Int) + 1, A2, c2, body⟩]) (HLV.out ▸ J8.out.l) (Rws.one _ (by show Blk _ _ [_, _, .slice A2 body.length c2] _; rw [HL.out]; exact N8.out)) (by rw [RLL.out]; omega) (Nat.le_of_lt (Nat.lt_of_le_of_lt J8.out.jB J8.out.c.lt)) rfl rfl rfl rfl rfl ?_
    intro v9 w9 o9 k9 hat9
    rw [← HLV.out] at k9 hat9
    obtain ⟨A9, c9, hv9, r9, -⟩ := o9.shape
    have m9 := r9.max
    have l9 := r9.le
    have n9e : (rs ++ [(⟨kind, (ll : Int) + 1, A2, c2, body⟩ : RV)]).length = ll + 1 := by rw [List.length_append, RLL.out]; rfl
    rw [n9e] at hv9 l9
    subst hv9
    have PU := Lib.hid (TW.out.push HBA.out K8.out k9 o9 (hat9.imp id (fun h => ⟨_, h, Nat.le_refl _⟩)) ((show Bs w7 A2 body.length c2 body from by rw [HL.out]; exact V7.out).keeps K8.out (fun _ _ _ _ _ h => h)) (fun b ⟨o, h0, e⟩ => ⟨(PB3.out b o e).1, by have h1 := (PB3.out b o e).2; have h2 := S35.out; have h3 := T7.out.keeps.size; have h4 := K8.out.size; omega, fun hS => by have h1 := (PB3.out b o e); have h2 := S35.out; rcases T7.out.o b hS with h3 | h3; exact absurd (NX.out b h3) (by omega); omega⟩))
    have Y9 := Lib.hid (k9.blk J8.out.c (fun e => (J8.out.lo _ e).2 rfl))
    have M9 := Lib.hid (k9.blk M8.out (fun e => by have h1 := LVN.out _ e; have h2 := NBL.out; omega))
    have x3 := Y9.out.cellD 3 _ rfl
    have g3 := Y9.out.frozen 3
    have g6 := Y9.out.frozen 6
    have x6 := Y9.out.cellD 6 _ rfl
    try dsimp only at x3 x6
    rw [HLV.out] at x3
    rw [HJU.out] at x6
    clear o9 k9 hat9 r9 n9e
    go_wp2
    refine MixK.on (InS.mk ((mmH.out _).2 (⟨x3, M9.out.cellD 0 _ rfl, M9.out.cellD 1 _ rfl, M9.out.cellD 2 _ rfl⟩))) ?_
    refine wpMix_seg 2 (by kernel_rfl) (by decide) ?_
    simp only [List.take_succ_cons, List.take_zero, List.drop_succ_cons, List.drop_zero]
    repeat (go_big_quiet_step (fail))
    refine wpQuiet_nil ?_
    refine wpMix_eff (by kernel_rfl) ?_
    go_wp2
    refine MixK.last (by kernel_rfl) ?_
    refine wpMix_nil ?_
    clear mmk0 mmk1 mmk2 mmk3 mmn mmH
    have P6 := Lib.hid (PU.out.at_.put (j' := { j with err := 0, l := j.l ++ [⟨kind, (ll : Int) + 1, body⟩], used := ju + pn }) 6 (.int .i64 ((ju + pn : Nat) : Int)) rfl rfl)
    try dsimp only at P6
    have e6 : ((ju + pn : Nat) : Int) = (ju : Int) + (pn : Int) := by omega
    rw [e6] at P6
    clear e6
    go_wp2
    go_ret
    exact ⟨by rw [E0.out]; rfl, ⟨L6, jb, .slice A9 (ll + 1) c9, rs ++ [⟨kind, (ll : Int) + 1, A2, c2, body⟩]⟩, by rw [E0.out, ← HJC.out]; exact PU.out.trans P6.out.t⟩
end Go.Proofs.Ytfldgaiiniknpaa
