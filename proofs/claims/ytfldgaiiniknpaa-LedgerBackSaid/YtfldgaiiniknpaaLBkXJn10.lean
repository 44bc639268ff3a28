
/- The walk of journal's Compact. -/
import Derived.Test.YtfldgaiiniknpaaLBkXJn9
namespace Go.Proofs.Ytfldgaiiniknpaa
open Go.RowKit

/-- Another row of records takes the place of the old. -/
theorem JTurn.relist {wA w0 : World} {B q : Nat} {XA X : JX} {s : FS} {j : JS} {v : Value} {rs' : List RV} (t : JTurn wA w0 B q XA X s j) (hBA : B ≤ wA.heap.size) (o : OwnR w0 wA.heap.size v rs') (bd : Bds w0 (fun b => wA.heap.size ≤ b ∧ ¬ v.ownBlock = some b) rs')
    (hv : ∀ b, v.ownBlock = some b → ¬ X.S b) (hr : ∀ r ∈ rs', ∀ b, r.at_ b → ¬ X.S b) : JTurn wA (w0.setCell ⟨X.jb, 3, none⟩ v) B q XA ⟨X.L, X.jb, v, rs'⟩ s { j with l := rs'.map RV.r } := by
  have h := t.at_
  have ks := (Keeps.self X.jb w0).put 3 v
  refine ⟨⟨h.f.keeps ks (fun b hO (e : b = X.jb) => h.jo (e ▸ hO)), h.hq, h.c.set 3 v, (o.keeps ks (fun b hb (e : b = X.jb) => hv b hb (.inr (.inl e)))).lower hBA, ⟨fun r hr' => (bd.bs r hr').keeps ks (fun b off h0 _ e hb => hr r hr' b ⟨off, h0, e⟩ (.inr (.inl hb))), fun r hr' b hb => ?_⟩, rfl, h.jo, h.jB, fun b hb => ⟨fun hO => hv b hb (.inl hO), fun e => hv b hb (.inr (.inl e))⟩⟩, t.keeps.trans ks (fun _ h => h) (fun b _ (e : b = X.jb) => .inr (.inl (e.trans t.jb))), fun k hk => ?_, t.jb⟩
  · obtain ⟨⟨p1, p2⟩, p3⟩ := bd.p r hr' b hb
    exact ⟨⟨Nat.le_trans hBA p1, fun hO => hr r hr' b hb (.inl hO), fun e => hr r hr' b hb (.inr (.inl e)), p2⟩, Nat.lt_of_lt_of_le p3 ks.size⟩
  · rcases hk with hk | hk | hk | ⟨r, hr', hb⟩
    · exact t.o k (.inl hk)
    · exact t.o k (.inr (.inl hk))
    · exact .inr (o.block hk).1
    · exact .inr (bd.p r hr' k hb).1.1
def nextZ (c : Int) : Int := if c = 0 then 1 else 0
/-- Compact in plain words. -/
def cmpF (s : FS) (j : JS) (recs : List Rec) : FS × JS × Int :=
  if j.err ≠ 0 then (s, j, j.err)
  else if 4294967295 ≤ j.epoch then (s, j, 14)
  else match packF [] (numR 0 recs) with
    | none => (s, j, 1)
    | some b => if (layF s (nextZ j.cur) j.epoch b).2 ≠ 0 then ((layF s (nextZ j.cur) j.epoch b).1, { j with err := (layF s (nextZ j.cur) j.epoch b).2 }, (layF s (nextZ j.cur) j.epoch b).2)
      else ((layF s (nextZ j.cur) j.epoch b).1, ⟨numR 0 recs, j.epoch + 1, nextZ j.cur, 16 + b.length, false, 0⟩, 0)
theorem packF_len : ∀ (rs : List Rec) (out b : List Int), out.length ≤ 1008 → packF out rs = some b → b.length ≤ 1008
  | [], out, b, h, e => by simp only [packF, Option.some.injEq] at e; rw [← e]; exact h
  | r :: rs, out, b, h, e => by
    unfold packF at e
    split at e
    · cases e
    · rename_i h1
      exact packF_len rs _ b (by rw [List.length_append]; omega) e
set_option maxRecDepth 100000 in
set_option maxHeartbeats 3200000 in
theorem jcompact_any (B q : Nat) (X : JX) (s : FS) (j : JS) (A : Option Addr) (n cap : Nat) (rs0 : List RV) (P : Nat → Prop) (w : World) (h : JAt w B q X s j) (hn2 : 2 ≤ X.L.n) (ok : JOk j) (hr : Rws w A n cap rs0) (hb : Bds w P rs0) (hn : n ≤ 100000) (hbl : ∀ r ∈ rs0, r.b.length ≤ 140737488355328) (rm : Room s 2001) :
    Calls Try.prog 60 #[.pointer (some ⟨X.jb, 0, none⟩), .slice A n cap] w (JDone w B q X (cmpF s j (rs0.map RV.r))) := by
  obtain ⟨L, jb, lv, rs⟩ := X
  dsimp only at h hn2 ⊢
  have HJ := Lib.hid h
  have OK := Lib.hid ok
  have HRM := Lib.hid rm
  have HBA : Hid (B ≤ w.heap.size) := Nat.le_of_lt (Nat.lt_of_le_of_lt h.jB h.c.lt)
  have NUM := Lib.hid (jnumbered_any A n cap rs0 P w hr hb (by omega) hbl)
  have HRL := Lib.hid hr.len
  obtain ⟨recs, HRE⟩ : ∃ x, Hid (numR 0 (rs0.map RV.r) = x) := ⟨_, rfl⟩
  have CMP : Hid (cmpF s j (rs0.map RV.r) = if j.err ≠ 0 then (s, j, j.err)
  else if 4294967295 ≤ j.epoch then (s, j, 14)
  else match packF [] recs with
    | none => (s, j, 1)
    | some b => if (layF s (nextZ j.cur) j.epoch b).2 ≠ 0 then ((layF s (nextZ j.cur) j.epoch b).1, { j with err := (layF s (nextZ j.cur) j.epoch b).2 }, (layF s (nextZ j.cur) j.epoch b).2)
      else ((layF s (nextZ j.cur) j.epoch b).1, ⟨recs, j.epoch + 1, nextZ j.cur, 16 + b.length, false, 0⟩, 0)) := by
    show _ = _
    rw [← HRE.out]
    rfl
  rw [HRE.out] at NUM
  obtain ⟨res, HRES⟩ : ∃ x, Hid (cmpF s j (rs0.map RV.r) = x) := ⟨_, rfl⟩
  rw [HRES.out] at CMP ⊢
  obtain ⟨ep, HEP⟩ : ∃ x, Hid (j.epoch = x) := ⟨_, rfl⟩
  have hep : ep ≤ 4294967295 := by rw [← HEP.out]; exact ok.epoch
  clear h hr hb hbl HRES ok rm
  go_enter Try.func60, Try.ntmps60
  go_wp2_with fail
  refine NUM.out.mono ?_
  rintro e w1 ⟨v1, cs, rfl, cp, hm⟩
  obtain ⟨A1, c1, rfl, r1, in1⟩ := cp.o.shape
  have hcl : cs.length = n := by
    have h1 := congrArg List.length hm
    rw [List.length_map, ← HRE.out, numR_len, List.length_map, HRL.out] at h1
    exact h1
  have l1 := r1.le
  have m1 := r1.max
  rw [hcl] at r1 l1
  have HCL := Lib.hid hcl
  have R1 := Lib.hid r1
  have CP := Lib.hid cp
  have HM := Lib.hid hm
  rw [HCL.out] at CP ⊢
  clear cp hm r1 in1 hcl NUM
  have PK := Lib.hid (jpacked_any A1 n c1 cs _ w1 R1.out CP.out.bd (by omega))
  rw [HM.out] at PK
  go_wp2_with fail
  refine PK.out.mono ?_
  obtain ⟨pk, HPK⟩ : ∃ x, Hid (packF [] recs = x) := ⟨_, rfl⟩
  rw [HPK.out] at CMP ⊢
  rintro e w2 ⟨k2, hpk⟩
  have CP2 := Lib.hid (CP.out.keeps k2)
  have T2 := Lib.hid (JTurn.still HJ.out CP2.out.k)
  have TS := T2
  have y4 := T2.out.at_.c.cellD 4 _ rfl
  have y5 := T2.out.at_.c.cellD 5 _ rfl
  have y8 := T2.out.at_.c.cellD 8 _ rfl
  dsimp only at y4 y5 y8
  rw [HEP.out] at y4
  have K12 := Lib.hid k2.size
  cases pk with
  | none =>
    obtain rfl := hpk
    by_cases qc : j.cur = 0
    · have d5 : (j.cur == 0) = true := by simpa using qc
      rw [qc] at y5
      -- region 8 on
      by_cases q0 : j.err ≠ 0
      · have d0 : (j.err == 0) = false := by simpa using q0
        have d0n : (j.err != 0) = true := by simpa using q0
        have E0 : Hid (res = (s, j, j.err)) := CMP.out.trans (if_pos q0)
        clear CMP
        go_wp2
        go_ret
        exact ⟨by rw [E0.out]; rfl, ⟨L, jb, lv, rs⟩, by rw [E0.out]; exact TS.out⟩
      have q0e : j.err = 0 := Classical.byContradiction q0
      have CMP2 := Lib.hid (CMP.out.trans (if_neg q0))
      rw [q0e] at y8
      clear CMP q0 q0e
      by_cases q1 : 4294967295 ≤ ep
      · have d1 : decide ((4294967295 : Int) ≤ (ep : Int)) = true := decide_eq_true (by omega)
        have E0 : Hid (res = (s, j, 14)) := CMP2.out.trans (if_pos (by rw [HEP.out]; exact q1))
        clear CMP2
        go_wp2
        go_ret
        exact ⟨by rw [E0.out]; rfl, ⟨L, jb, lv, rs⟩, by rw [E0.out]; exact TS.out⟩
      have d1 : decide ((4294967295 : Int) ≤ (ep : Int)) = false := decide_eq_false (by omega)
      have CMP3 := Lib.hid (CMP2.out.trans (if_neg (by rw [HEP.out]; exact q1)))
      clear CMP2
      have E0 : Hid (res = (s, j, 1)) := CMP3.out
      clear CMP3
      go_wp2
      go_ret
      exact ⟨by rw [E0.out]; rfl, ⟨L, jb, lv, rs⟩, by rw [E0.out]; exact TS.out⟩
    · have d5 : (j.cur == 0) = false := by simpa using qc
      -- region 8 on
      by_cases q0 : j.err ≠ 0
      · have d0 : (j.err == 0) = false := by simpa using q0
        have d0n : (j.err != 0) = true := by simpa using q0
        have E0 : Hid (res = (s, j, j.err)) := CMP.out.trans (if_pos q0)
        clear CMP
        go_wp2
        go_ret
        exact ⟨by rw [E0.out]; rfl, ⟨L, jb, lv, rs⟩, by rw [E0.out]; exact TS.out⟩
      have q0e : j.err = 0 := Classical.byContradiction q0
      have CMP2 := Lib.hid (CMP.out.trans (if_neg q0))
      rw [q0e] at y8
      clear CMP q0 q0e
      by_cases q1 : 4294967295 ≤ ep
      · have d1 : decide ((4294967295 : Int) ≤ (ep : Int)) = true := decide_eq_true (by omega)
        have E0 : Hid (res = (s, j, 14)) := CMP2.out.trans (if_pos (by rw [HEP.out]; exact q1))
        clear CMP2
        go_wp2
        go_ret
        exact ⟨by rw [E0.out]; rfl, ⟨L, jb, lv, rs⟩, by rw [E0.out]; exact TS.out⟩
      have d1 : decide ((4294967295 : Int) ≤ (ep : Int)) = false := decide_eq_false (by omega)
      have CMP3 := Lib.hid (CMP2.out.trans (if_neg (by rw [HEP.out]; exact q1)))
      clear CMP2
      have E0 : Hid (res = (s, j, 1)) := CMP3.out
      clear CMP3
      go_wp2
      go_ret
      exact ⟨by rw [E0.out]; rfl, ⟨L, jb, lv, rs⟩, by rw [E0.out]; exact TS.out⟩
  | some b =>
    obtain ⟨vb, rfl, ob⟩ := hpk
    obtain ⟨Ab, cb, rfl, bb, inb⟩ := ob.shape
    have hbn := packF_len recs [] b (by decide) HPK.out
    obtain ⟨bn, HBN⟩ : ∃ x, Hid (b.length = x) := ⟨_, rfl⟩
    rw [HBN.out] at hbn bb ⊢
    have lb := bb.le
    have mb := bb.max
    have BB := Lib.hid bb
    have INB := Lib.hid inb
    clear ob bb inb
    by_cases qc : j.cur = 0
    · have d5 : (j.cur == 0) = true := by simpa using qc
      rw [qc] at y5
      -- region 8 on
      by_cases q0 : j.err ≠ 0
      · have d0 : (j.err == 0) = false := by simpa using q0
        have d0n : (j.err != 0) = true := by simpa using q0
        have E0 : Hid (res = (s, j, j.err)) := CMP.out.trans (if_pos q0)
        clear CMP
        go_wp2
        go_ret
        exact ⟨by rw [E0.out]; rfl, ⟨L, jb, lv, rs⟩, by rw [E0.out]; exact TS.out⟩
      have q0e : j.err = 0 := Classical.byContradiction q0
      have CMP2 := Lib.hid (CMP.out.trans (if_neg q0))
      rw [q0e] at y8
      clear CMP q0 q0e
      by_cases q1 : 4294967295 ≤ ep
      · have d1 : decide ((4294967295 : Int) ≤ (ep : Int)) = true := decide_eq_true (by omega)
        have E0 : Hid (res = (s, j, 14)) := CMP2.out.trans (if_pos (by rw [HEP.out]; exact q1))
        clear CMP2
        go_wp2
        go_ret
        exact ⟨by rw [E0.out]; rfl, ⟨L, jb, lv, rs⟩, by rw [E0.out]; exact TS.out⟩
      have d1 : decide ((4294967295 : Int) ≤ (ep : Int)) = false := decide_eq_false (by omega)
      have CMP3 := Lib.hid (CMP2.out.trans (if_neg (by rw [HEP.out]; exact q1)))
      clear CMP2
      have NZ : Hid (nextZ j.cur = 1) := by show _ = _; unfold nextZ; first | exact if_pos qc | exact if_neg qc
      have CMP4 := CMP3
      rw [NZ.out] at CMP4
      dsimp only at CMP4
      clear CMP3
      have LAY := Lib.hid (jlay_any B q ⟨L, jb, lv, rs⟩ s j (1) Ab bn cb b w2 T2.out.at_ hn2 OK.out (by decide) BB.out hbn (fun bb off h0 e hS => by have h1 := INB.out bb off e; have h2 := HJ.out.lt bb hS; have h3 := CP.out.k.size; omega) HRM.out)
      obtain ⟨⟨s1, x1⟩, HG⟩ : ∃ x, Hid (layF s (1) j.epoch b = x) := ⟨_, rfl⟩
      rw [HG.out] at LAY CMP4
      dsimp only at CMP4
      go_wp2_with fail
      refine LAY.out.mono ?_
      rintro e w3 ⟨rfl, L1, t3⟩
      have T3 := Lib.hid t3
      clear t3 LAY
      go_wp2_with fail
      refine (jfailed_any B q _ s1 j x1 w3 T3.out.at_).mono ?_
      rintro e w4 ⟨rfl, p4⟩
      have T24 := Lib.hid (T3.out.trans p4.t)
      have T4 := Lib.hid (T2.out.trans T24.out)
      clear p4 T3
      by_cases qx : x1 ≠ 0
      · have dx : (x1 != 0) = true := by simpa using qx
        have E0 := Lib.hid (CMP4.out.trans (if_pos qx))
        have z8 := T4.out.at_.c.cellD 8 _ rfl
        dsimp only at z8
        clear CMP4
        go_wp2
        go_ret
        exact ⟨by rw [E0.out]; rfl, ⟨L1, jb, lv, rs⟩, by rw [E0.out]; exact T4.out⟩
      obtain rfl : x1 = 0 := Classical.byContradiction qx
      have E0 := Lib.hid (CMP4.out.trans (if_neg qx))
      clear CMP4 qx
      have NX : Hid (∀ k, JX.S ⟨L, jb, lv, rs⟩ k → k < w.heap.size) := HJ.out.lt
      have NX1 : Hid (∀ k, JX.S ⟨L1, jb, lv, rs⟩ k → k < w.heap.size ∨ w2.heap.size ≤ k) := fun k hk => (T24.out.o k hk).imp (NX.out k) id
      have O4 := Lib.hid (CP2.out.o.keeps T24.out.keeps (fun bb e hS => by have h1 := CP2.out.o.block e; have h2 := NX.out bb hS; omega))
      have D4 := Lib.hid (CP2.out.bd.keeps T24.out.keeps (fun bb hp _ hS => by have h1 := hp.1; have h2 := NX.out bb hS; omega))
      have P3 := Lib.hid (T4.out.relist HBA.out O4.out D4.out (fun bb e hS => by have h1 := CP2.out.o.block e; rcases NX1.out bb hS with h2 | h2 <;> omega) (fun r hr bb hb hS => by have h1 := CP2.out.bd.p r hr bb hb; have h0 := h1.1.1; rcases NX1.out bb hS with h2 | h2 <;> omega))
      have P4 := Lib.hid (P3.out.at_.put (j' := ⟨recs, ep + 1, j.cur, j.used, j.torn, 0⟩) 4 (.int .i64 ((ep + 1 : Nat) : Int)) rfl (by rw [← HM.out]))
      have P5 := Lib.hid (P4.out.at_.put (j' := ⟨recs, ep + 1, 1, j.used, j.torn, 0⟩) 5 (.int .i64 (1)) rfl rfl)
      have P6 := Lib.hid (P5.out.at_.put (j' := ⟨recs, ep + 1, 1, 16 + bn, j.torn, 0⟩) 6 (.int .i64 ((16 + bn : Nat) : Int)) rfl rfl)
      have P7 := Lib.hid (P6.out.at_.put (j' := ⟨recs, ep + 1, 1, 16 + bn, false, 0⟩) 7 (.bool false) rfl rfl)
      try dsimp only at P3 P4 P5 P6 P7
      have e4 : ((ep + 1 : Nat) : Int) = (ep : Int) + 1 := by omega
      have e6 : ((16 + bn : Nat) : Int) = 16 + (bn : Int) := by omega
      have PF := Lib.hid (P3.out.trans (P4.out.t.trans (P5.out.t.trans (P6.out.t.trans P7.out.t))))
      rw [e4, e6] at PF
      clear P3 P4 P5 P6 P7 e4 e6
      have z4 := T4.out.at_.c.cellD 4 _ rfl
      have f3 := T4.out.at_.c.frozen 3
      have f4 := T4.out.at_.c.frozen 4
      have f5 := T4.out.at_.c.frozen 5
      have f6 := T4.out.at_.c.frozen 6
      have f7 := T4.out.at_.c.frozen 7
      have z3 := T4.out.at_.c.cellD 3 _ rfl
      have z5 := T4.out.at_.c.cellD 5 _ rfl
      have z6 := T4.out.at_.c.cellD 6 _ rfl
      have z7 := T4.out.at_.c.cellD 7 _ rfl
      dsimp only at z3 z4 z5 z6 z7 f3 f4 f5 f6 f7
      rw [HEP.out] at z4
      obtain ⟨A9, c9, hlv9, r9, -⟩ := HJ.out.l.shape
      dsimp only at hlv9
      rw [hlv9] at z3
      clear hlv9 r9
      go_wp2
      go_ret
      exact ⟨by rw [E0.out]; rfl, ⟨L1, jb, .slice A1 n c1, cs⟩, by rw [E0.out, HBN.out, HEP.out]; exact PF.out⟩
    · have d5 : (j.cur == 0) = false := by simpa using qc
      -- region 8 on
      by_cases q0 : j.err ≠ 0
      · have d0 : (j.err == 0) = false := by simpa using q0
        have d0n : (j.err != 0) = true := by simpa using q0
        have E0 : Hid (res = (s, j, j.err)) := CMP.out.trans (if_pos q0)
        clear CMP
        go_wp2
        go_ret
        exact ⟨by rw [E0.out]; rfl, ⟨L, jb, lv, rs⟩, by rw [E0.out]; exact TS.out⟩
      have q0e : j.err = 0 := Classical.byContradiction q0
      have CMP2 := Lib.hid (CMP.out.trans (if_neg q0))
      rw [q0e] at y8
      clear CMP q0 q0e
      by_cases q1 : 4294967295 ≤ ep
      · have d1 : decide ((4294967295 : Int) ≤ (ep : Int)) = true := decide_eq_true (by omega)
        have E0 : Hid (res = (s, j, 14)) := CMP2.out.trans (if_pos (by rw [HEP.out]; exact q1))
        clear CMP2
        go_wp2
        go_ret
        exact ⟨by rw [E0.out]; rfl, ⟨L, jb, lv, rs⟩, by rw [E0.out]; exact TS.out⟩
      have d1 : decide ((4294967295 : Int) ≤ (ep : Int)) = false := decide_eq_false (by omega)
      have CMP3 := Lib.hid (CMP2.out.trans (if_neg (by rw [HEP.out]; exact q1)))
      clear CMP2
      have NZ : Hid (nextZ j.cur = 0) := by show _ = _; unfold nextZ; first | exact if_pos qc | exact if_neg qc
      have CMP4 := CMP3
      rw [NZ.out] at CMP4
      dsimp only at CMP4
      clear CMP3
      have LAY := Lib.hid (jlay_any B q ⟨L, jb, lv, rs⟩ s j (0) Ab bn cb b w2 T2.out.at_ hn2 OK.out (by decide) BB.out hbn (fun bb off h0 e hS => by have h1 := INB.out bb off e; have h2 := HJ.out.lt bb hS; have h3 := CP.out.k.size; omega) HRM.out)
      obtain ⟨⟨s1, x1⟩, HG⟩ : ∃ x, Hid (layF s (0) j.epoch b = x) := ⟨_, rfl⟩
      rw [HG.out] at LAY CMP4
      dsimp only at CMP4
      go_wp2_with fail
      refine LAY.out.mono ?_
      rintro e w3 ⟨rfl, L1, t3⟩
      have T3 := Lib.hid t3
      clear t3 LAY
      go_wp2_with fail
      refine (jfailed_any B q _ s1 j x1 w3 T3.out.at_).mono ?_
      rintro e w4 ⟨rfl, p4⟩
      have T24 := Lib.hid (T3.out.trans p4.t)
      have T4 := Lib.hid (T2.out.trans T24.out)
      clear p4 T3
      by_cases qx : x1 ≠ 0
      · have dx : (x1 != 0) = true := by simpa using qx
        have E0 := Lib.hid (CMP4.out.trans (if_pos qx))
        have z8 := T4.out.at_.c.cellD 8 _ rfl
        dsimp only at z8
        clear CMP4
        go_wp2
        go_ret
        exact ⟨by rw [E0.out]; rfl, ⟨L1, jb, lv, rs⟩, by rw [E0.out]; exact T4.out⟩
      obtain rfl : x1 = 0 := Classical.byContradiction qx
      have E0 := Lib.hid (CMP4.out.trans (if_neg qx))
      clear CMP4 qx
      have NX : Hid (∀ k, JX.S ⟨L, jb, lv, rs⟩ k → k < w.heap.size) := HJ.out.lt
      have NX1 : Hid (∀ k, JX.S ⟨L1, jb, lv, rs⟩ k → k < w.heap.size ∨ w2.heap.size ≤ k) := fun k hk => (T24.out.o k hk).imp (NX.out k) id
      have O4 := Lib.hid (CP2.out.o.keeps T24.out.keeps (fun bb e hS => by have h1 := CP2.out.o.block e; have h2 := NX.out bb hS; omega))
      have D4 := Lib.hid (CP2.out.bd.keeps T24.out.keeps (fun bb hp _ hS => by have h1 := hp.1; have h2 := NX.out bb hS; omega))
      have P3 := Lib.hid (T4.out.relist HBA.out O4.out D4.out (fun bb e hS => by have h1 := CP2.out.o.block e; rcases NX1.out bb hS with h2 | h2 <;> omega) (fun r hr bb hb hS => by have h1 := CP2.out.bd.p r hr bb hb; have h0 := h1.1.1; rcases NX1.out bb hS with h2 | h2 <;> omega))
      have P4 := Lib.hid (P3.out.at_.put (j' := ⟨recs, ep + 1, j.cur, j.used, j.torn, 0⟩) 4 (.int .i64 ((ep + 1 : Nat) : Int)) rfl (by rw [← HM.out]))
      have P5 := Lib.hid (P4.out.at_.put (j' := ⟨recs, ep + 1, 0, j.used, j.torn, 0⟩) 5 (.int .i64 (0)) rfl rfl)
      have P6 := Lib.hid (P5.out.at_.put (j' := ⟨recs, ep + 1, 0, 16 + bn, j.torn, 0⟩) 6 (.int .i64 ((16 + bn : Nat) : Int)) rfl rfl)
      have P7 := Lib.hid (P6.out.at_.put (j' := ⟨recs, ep + 1, 0, 16 + bn, false, 0⟩) 7 (.bool false) rfl rfl)
      try dsimp only at P3 P4 P5 P6 P7
      have e4 : ((ep + 1 : Nat) : Int) = (ep : Int) + 1 := by omega
      have e6 : ((16 + bn : Nat) : Int) = 16 + (bn : Int) := by omega
      have PF := Lib.hid (P3.out.trans (P4.out.t.trans (P5.out.t.trans (P6.out.t.trans P7.out.t))))
      rw [e4, e6] at PF
      clear P3 P4 P5 P6 P7 e4 e6
      have z4 := T4.out.at_.c.cellD 4 _ rfl
      have f3 := T4.out.at_.c.frozen 3
      have f4 := T4.out.at_.c.frozen 4
      have f5 := T4.out.at_.c.frozen 5
      have f6 := T4.out.at_.c.frozen 6
      have f7 := T4.out.at_.c.frozen 7
      have z3 := T4.out.at_.c.cellD 3 _ rfl
      have z5 := T4.out.at_.c.cellD 5 _ rfl
      have z6 := T4.out.at_.c.cellD 6 _ rfl
      have z7 := T4.out.at_.c.cellD 7 _ rfl
      dsimp only at z3 z4 z5 z6 z7 f3 f4 f5 f6 f7
      rw [HEP.out] at z4
      obtain ⟨A9, c9, hlv9, r9, -⟩ := HJ.out.l.shape
      dsimp only at hlv9
      rw [hlv9] at z3
      clear hlv9 r9
      go_wp2
      go_ret
      exact ⟨by rw [E0.out]; rfl, ⟨L1, jb, .slice A1 n c1, cs⟩, by rw [E0.out, HBN.out, HEP.out]; exact PF.out⟩
end Go.Proofs.Ytfldgaiiniknpaa
