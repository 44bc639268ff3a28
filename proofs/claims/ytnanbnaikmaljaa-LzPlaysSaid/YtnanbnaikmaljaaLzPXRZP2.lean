
/- The plain law of the reference's Lz: a bit of it is the program's. -/
import Derived.Test.YtnanbnaikmaljaaLzPXRZP
namespace Go.Proofs.Ytnanbnaikmaljaa
open Go.RowKit

theorem lzTake_no {z : LzS} (ht : rTok z.s z.d = false) : lzTakeB z = true ∧ lzTakeS z = { z with s := rNext z.s z.d, d := rDec z.s z.d } := by
  constructor
  · unfold lzTakeB; rw [ht]; rfl
  · unfold lzTakeS; rw [ht]; rfl
theorem lzTake_yes {z : LzS} (ht : rTok z.s z.d = true) : lzTakeB z = (mayT (rNext z.s z.d).t z.h.length && decide (longT (rNext z.s z.d).t ≤ (z.plain : Int) - z.h.length)) ∧ lzTakeS z = { z with s := rNext z.s z.d, d := rDec z.s z.d, t := (rNext z.s z.d).t, left := longT (rNext z.s z.d).t } := by
  constructor
  · unfold lzTakeB; rw [ht]; rfl
  · unfold lzTakeS; rw [ht]; rfl
theorem dnP_at {r : RZ} {j : Nat} {ps : List Int} {node : Int} (ha : Agree ps (r.q j)) (hn : r.node = node) (h0 : 1 ≤ node) (h1 : node < ps.length) : dnP j r = atN ps node := by
  have := ha.at_ node
  rw [← this]
  unfold dnP atN
  rw [hn, if_pos ⟨h0, by rw [← ha.1]; exact h1⟩]
/-- What a bit does, in both. -/
theorem ZRel.bit_0 {z : LzS} {r : RZ} (h : ZRel z r) (k : LzOk z) (pp : PP z.s.m) (hm : dMayB z.d = true) (hl : ¬ 0 < z.left) (hp : z.s.part = 0) :
    lzTakeB z = true ∧ ZRel (lzTakeS z) (bitR r) := by
  have nz := rP_nz k.rok pp
  obtain ⟨q1, q2, q3, q4⟩ := rNext_step z.s z.d hm nz
  have n1 : z.s.node = 1 := by
    have a := k.rok.n1
    have c := k.rok.n2
    rw [hp] at c
    have c : z.s.node < 2 := c
    omega
  have hb := rBit_01 z.s z.d
  obtain ⟨b, hbb⟩ : ∃ b, rBit z.s z.d = b := ⟨_, rfl⟩
  rw [hbb] at hb q1 q3 q4
  obtain ⟨e1, e2⟩ := rStep_0 hb hp n1
  rw [e1] at q3
  rw [e2] at q4
  obtain ⟨t1, t2⟩ := lzTake_no q4
  refine ⟨t1, ?_⟩
  rw [t2, q3, q2]
  have eQ : rQ z.s = z.s.m.pr := by unfold rQ; rw [if_neg (by omega)]; unfold rP; rw [if_pos hp]
  have nzp : z.s.m.pr ≠ 0 := by have := nz (by omega); unfold rP at this; rw [if_pos hp] at this; exact this
  obtain ⟨d1, d2⟩ := dStep_bit z.d nzp
  rw [eQ, d1] at q1
  rw [eQ, d2]
  have ep : rzP r = z.s.m.pr := by rw [← h.ms.pr]; rfl
  have pb : dBitP z.d z.s.m.pr = adapt z.s.m.pr b := by
    have h1 : dBitB z.d z.s.m.pr = splB z.d (dBound z.d z.s.m.pr) := if_pos hm
    have h2 : dBitP z.d z.s.m.pr = adapt z.s.m.pr (splB z.d (dBound z.d z.s.m.pr)) := if_pos hm
    rw [h2, ← h1, ← q1]
  have hpr : r.part = 0 := by rw [h.part]; exact hp
  have eb : bitR r = rzK r := if_pos hpr
  have km := h.ms.kind b
  have ek : (rzK r).ms = r.ms.kind b ∧ (rzK r).d = dBitS z.d z.s.m.pr ∧ (rzK r).t = ⟨0, 0, 0⟩ ∧ (rzK r).part = 1 + b.toNat ∧ (rzK r).node = r.node ∧ (rzK r).out = r.out ∧ (rzK r).total = r.total ∧ (rzK r).st = r.st ∧ (rzK r).todo = r.todo := by
    unfold rzK
    rw [ep, h.d, ← q1, pb]
    by_cases h0 : r.was = 0
    · rw [if_pos h0]
      have e0 : r.ms.kind b = { r.ms with p0 := adapt r.ms.p0 b, beh := b } := if_pos h0
      have e3 : z.s.m.pr = r.ms.p0 := by rw [← h.ms.pr]; exact if_pos h0
      refine ⟨?_, rfl, rfl, rfl, rfl, rfl, rfl, rfl, rfl⟩
      rw [e0, e3]; rfl
    · rw [if_neg h0]
      have e0 : r.ms.kind b = { r.ms with p1 := adapt r.ms.p1 b, beh := b } := if_neg h0
      have e3 : z.s.m.pr = r.ms.p1 := by rw [← h.ms.pr]; exact if_neg h0
      refine ⟨?_, rfl, rfl, rfl, rfl, rfl, rfl, rfl, rfl⟩
      rw [e0, e3]; rfl
  obtain ⟨k1, k2, k3, k4, k5, k6, k7, k8, k9⟩ := ek
  rw [eb]
  have hpb : 1 + b.toNat ≤ 2 := by rcases hb with rfl | rfl <;> decide
  refine ⟨k2, by rw [k1]; exact km, k6.trans h.out, k7.trans h.total, k8.trans h.st, k9.trans h.todo, k4, fun _ => ?_, fun e => ?_, fun _ => ⟨k3, rfl⟩, fun e => ?_, fun e => ?_, fun e => absurd e hl⟩
  · rw [k5, h.node (by omega), n1]
  · have e : 1 + b.toNat = 4 := e; omega
  · have e : 1 + b.toNat = 3 := e; omega
  · have e : 1 + b.toNat = 4 := e; omega
theorem ZRel.bit_1 {z : LzS} {r : RZ} (h : ZRel z r) (k : LzOk z) (pp : PP z.s.m) (hm : dMayB z.d = true) (hl : ¬ 0 < z.left) (hf : z.h.length ≠ z.plain) (hp : z.s.part = 1) :
    lzTakeB z = true ∧ ZRel (lzTakeS z) (bitR r) := by
  -- 1 part, 2 how many, 3 the list's field, 4 MAgree's field, 5 MOk's field, 6 the reference's field, 7 bits
  have nz := rP_nz k.rok pp
  obtain ⟨q1, q2, q3, q4⟩ := rNext_step z.s z.d hm nz
  have n1 := k.rok.n1
  have n2 : z.s.node < 256 := by have c := k.rok.n2; rw [hp] at c; exact c
  have hb := rBit_01 z.s z.d
  obtain ⟨b, hbb⟩ : ∃ b, rBit z.s z.d = b := ⟨_, rfl⟩
  rw [hbb] at hb q1 q3 q4
  have eP : rP z.s = atN z.s.m.bt z.s.node := by unfold rP trP; rw [hp]; rfl
  have eQ : rQ z.s = atN z.s.m.bt z.s.node := by unfold rQ; rw [if_neg (by omega), eP]
  have nzp : atN z.s.m.bt z.s.node ≠ 0 := by rw [← eP]; exact nz (by omega)
  obtain ⟨d1, d2⟩ := dStep_bit z.d nzp
  rw [eQ, d1] at q1
  rw [eQ, d2] at q2
  have hpr : r.part = 1 := by rw [h.part]; exact hp
  have hnr : r.node = z.s.node := h.node (by omega)
  have hlen : z.s.m.bt.length = 256 := k.rok.mok.o1.1
  have eD : dnP 1 r = atN z.s.m.bt z.s.node := dnP_at (show Agree z.s.m.bt (r.q 1) from h.ms.bt) hnr n1 (by rw [hlen]; exact n2)
  have eS : dnS 1 r = { r with q1 := turnN r.q1 z.s.node b, d := dBitS z.d (atN z.s.m.bt z.s.node), node := 2 * z.s.node + b } := by
    unfold dnS
    rw [eD, h.d, ← q1, hnr]; rfl
  have hL : rLrn z.s b = { z.s.m with bt := turnN z.s.m.bt z.s.node b } := by unfold rLrn; rw [hp]; rfl
  have tA := h.ms.bt.turn z.s.node b
  have pS : (2 : Int) ^ szP z.s.part = 256 := by rw [hp]; rfl
  obtain ⟨ht, hst⟩ := h.t1 (.inl hp)
  have hB : bitR r = (if (dnF 1 256 r).2 < 0 then (dnF 1 256 r).1 else { (dnF 1 256 r).1 with t := { r.t with b := (dnF 1 256 r).2 }, todo := 1, part := 0 }) := by unfold bitR; rw [hpr]; rfl
  rw [hB]
  unfold dnF
  rw [eS]
  by_cases hlt : 2 * z.s.node + b < 256
  · have hF : rFullB z.s b = false := by unfold rFullB; rw [pS]; exact decide_eq_false (by omega)
    have hT : rTokB z.s b = false := by unfold rTokB; rw [hF]; rfl
    have hS : rStep z.s b = ⟨{ z.s.m with bt := turnN z.s.m.bt z.s.node b }, 1, 2 * z.s.node + b, ⟨0, 0, 0⟩⟩ := by unfold rStep; rw [if_neg (by rw [hF]; decide), hL]; show (⟨_, z.s.part, _, z.s.t⟩ : RdS) = _; rw [hp, hst]
    obtain ⟨t1, t2⟩ := lzTake_no (q4.trans hT)
    refine ⟨t1, ?_⟩
    rw [t2, q3, q2, hS, if_pos hlt, if_pos (show (-1 : Int) < 0 by decide)]
    exact ⟨rfl, ⟨h.ms.p0, h.ms.p1, h.ms.beh, tA, h.ms.lt, h.ms.dt⟩, h.out, h.total, h.st, h.todo, hpr, fun _ => rfl, fun e => absurd (show 1 = 4 from e) (by decide), fun _ => ⟨ht, rfl⟩, fun e => absurd (show 1 = 3 from e) (by decide), fun e => absurd (show 1 = 4 from e) (by decide), fun e => absurd e hl⟩
  · have hF : rFullB z.s b = true := by unfold rFullB; rw [pS]; exact decide_eq_true (by omega)
    have hT : rTokB z.s b = true := by unfold rTokB rDone; rw [hF, hp]; rfl
    have hS : rStep z.s b = ⟨{ z.s.m with bt := turnN z.s.m.bt z.s.node b }, 0, 1, ⟨0, 0, 2 * z.s.node + b - 256⟩⟩ := by
      unfold rStep; rw [if_pos hF, hL, pS]; unfold rWhole
      rw [if_neg (show ¬ z.s.part = 0 by omega), if_pos (show z.s.part = 1 from hp)]
      show (⟨_, _, _, { z.s.t with b := _ }⟩ : RdS) = _
      rw [hst]
    obtain ⟨t1, t2⟩ := lzTake_yes (q4.trans hT)
    have hn : (rNext z.s z.d).t = ⟨0, 0, 2 * z.s.node + b - 256⟩ := by rw [q3, hS]
    rw [hn] at t1 t2
    have hh := k.hp
    refine ⟨?_, ?_⟩
    · rw [t1]
      have e1 : longT ⟨0, 0, 2 * z.s.node + b - 256⟩ = 1 := rfl
      rw [e1, decide_eq_true (by omega)]
      rfl
    · rw [t2, q3, q2, hS, if_neg hlt, if_neg (by show ¬ 2 * z.s.node + b - 256 < 0; omega)]
      exact ⟨rfl, ⟨h.ms.p0, h.ms.p1, h.ms.beh, tA, h.ms.lt, h.ms.dt⟩, h.out, h.total, h.st, rfl, rfl, fun _ => rfl, fun e => absurd (show 0 = 4 from e) (by decide), fun e => absurd (show 0 = 1 ∨ 0 = 2 from e) (by decide), fun e => absurd (show 0 = 3 from e) (by decide), fun e => absurd (show 0 = 4 from e) (by decide), fun _ => ⟨rfl, by rw [ht]⟩⟩
theorem ZRel.bit_2 {z : LzS} {r : RZ} (h : ZRel z r) (k : LzOk z) (pp : PP z.s.m) (hm : dMayB z.d = true) (hl : ¬ 0 < z.left) (hp : z.s.part = 2) :
    lzTakeB z = true ∧ ZRel (lzTakeS z) (bitR r) := by
  -- 1 part, 2 how many, 3 the list's field, 4 MAgree's field, 5 MOk's field, 6 the reference's field, 7 bits
  have nz := rP_nz k.rok pp
  obtain ⟨q1, q2, q3, q4⟩ := rNext_step z.s z.d hm nz
  have n1 := k.rok.n1
  have n2 : z.s.node < 256 := by have c := k.rok.n2; rw [hp] at c; exact c
  have hb := rBit_01 z.s z.d
  obtain ⟨b, hbb⟩ : ∃ b, rBit z.s z.d = b := ⟨_, rfl⟩
  rw [hbb] at hb q1 q3 q4
  have eP : rP z.s = atN z.s.m.lt z.s.node := by unfold rP trP; rw [hp]; rfl
  have eQ : rQ z.s = atN z.s.m.lt z.s.node := by unfold rQ; rw [if_neg (by omega), eP]
  have nzp : atN z.s.m.lt z.s.node ≠ 0 := by rw [← eP]; exact nz (by omega)
  obtain ⟨d1, d2⟩ := dStep_bit z.d nzp
  rw [eQ, d1] at q1
  rw [eQ, d2] at q2
  have hpr : r.part = 2 := by rw [h.part]; exact hp
  have hnr : r.node = z.s.node := h.node (by omega)
  have hlen : z.s.m.lt.length = 256 := k.rok.mok.o2.1
  have eD : dnP 2 r = atN z.s.m.lt z.s.node := dnP_at (show Agree z.s.m.lt (r.q 2) from h.ms.lt) hnr n1 (by rw [hlen]; exact n2)
  have eS : dnS 2 r = { r with q2 := turnN r.q2 z.s.node b, d := dBitS z.d (atN z.s.m.lt z.s.node), node := 2 * z.s.node + b } := by
    unfold dnS
    rw [eD, h.d, ← q1, hnr]; rfl
  have hL : rLrn z.s b = { z.s.m with lt := turnN z.s.m.lt z.s.node b } := by unfold rLrn; rw [hp]; rfl
  have tA := h.ms.lt.turn z.s.node b
  have pS : (2 : Int) ^ szP z.s.part = 256 := by rw [hp]; rfl
  obtain ⟨ht, hst⟩ := h.t1 (.inr hp)
  have hB : bitR r = (if (dnF 2 256 r).2 < 0 then (dnF 2 256 r).1 else { (dnF 2 256 r).1 with t := { r.t with n := (dnF 2 256 r).2 + 2 }, part := 3 }) := by unfold bitR; rw [hpr]; rfl
  have hD : rDone z.s = false := by unfold rDone; rw [hp]; rfl
  have hT : rTokB z.s b = false := by unfold rTokB; rw [hD, Bool.and_false]
  obtain ⟨t1, t2⟩ := lzTake_no (q4.trans hT)
  refine ⟨t1, ?_⟩
  rw [hB]
  unfold dnF
  rw [eS, t2, q3, q2]
  by_cases hlt : 2 * z.s.node + b < 256
  · have hF : rFullB z.s b = false := by unfold rFullB; rw [pS]; exact decide_eq_false (by omega)
    have hS : rStep z.s b = ⟨{ z.s.m with lt := turnN z.s.m.lt z.s.node b }, 2, 2 * z.s.node + b, ⟨0, 0, 0⟩⟩ := by unfold rStep; rw [if_neg (by rw [hF]; decide), hL]; show (⟨_, z.s.part, _, z.s.t⟩ : RdS) = _; rw [hp, hst]
    rw [hS, if_pos hlt, if_pos (show (-1 : Int) < 0 by decide)]
    exact ⟨rfl, ⟨h.ms.p0, h.ms.p1, h.ms.beh, h.ms.bt, tA, h.ms.dt⟩, h.out, h.total, h.st, h.todo, hpr, fun _ => rfl, fun e => absurd (show 2 = 4 from e) (by decide), fun _ => ⟨ht, rfl⟩, fun e => absurd (show 2 = 3 from e) (by decide), fun e => absurd (show 2 = 4 from e) (by decide), fun e => absurd e hl⟩
  · have hF : rFullB z.s b = true := by unfold rFullB; rw [pS]; exact decide_eq_true (by omega)
    have hS : rStep z.s b = ⟨{ z.s.m with lt := turnN z.s.m.lt z.s.node b }, 3, 1, ⟨2 * z.s.node + b - 256 + 2, 0, 0⟩⟩ := by
      unfold rStep; rw [if_pos hF, hL, pS]; unfold rWhole
      rw [if_neg (show ¬ z.s.part = 0 by omega), if_neg (show ¬ z.s.part = 1 by omega), if_pos (show z.s.part = 2 from hp)]
      show (⟨_, _, _, { z.s.t with n := _ }⟩ : RdS) = _
      rw [hst]
    rw [hS, if_neg hlt, if_neg (by show ¬ 2 * z.s.node + b - 256 < 0; omega)]
    exact ⟨rfl, ⟨h.ms.p0, h.ms.p1, h.ms.beh, h.ms.bt, tA, h.ms.dt⟩, h.out, h.total, h.st, h.todo, rfl, fun _ => rfl, fun e => absurd (show 3 = 4 from e) (by decide), fun e => absurd (show 3 = 1 ∨ 3 = 2 from e) (by decide), fun _ => ⟨2 * z.s.node + b - 256 + 2, by omega, by omega, by rw [ht], rfl⟩, fun e => absurd (show 3 = 4 from e) (by decide), fun e => absurd e hl⟩
theorem ZRel.bit_3 {z : LzS} {r : RZ} (h : ZRel z r) (k : LzOk z) (pp : PP z.s.m) (hm : dMayB z.d = true) (hl : ¬ 0 < z.left) (hp : z.s.part = 3) :
    lzTakeB z = true ∧ ZRel (lzTakeS z) (bitR r) := by
  -- 1 part, 2 how many, 3 the list's field, 4 MAgree's field, 5 MOk's field, 6 the reference's field, 7 bits
  have nz := rP_nz k.rok pp
  obtain ⟨q1, q2, q3, q4⟩ := rNext_step z.s z.d hm nz
  have n1 := k.rok.n1
  have n2 : z.s.node < 64 := by have c := k.rok.n2; rw [hp] at c; exact c
  have hb := rBit_01 z.s z.d
  obtain ⟨b, hbb⟩ : ∃ b, rBit z.s z.d = b := ⟨_, rfl⟩
  rw [hbb] at hb q1 q3 q4
  have eP : rP z.s = atN z.s.m.dt z.s.node := by unfold rP trP; rw [hp]; rfl
  have eQ : rQ z.s = atN z.s.m.dt z.s.node := by unfold rQ; rw [if_neg (by omega), eP]
  have nzp : atN z.s.m.dt z.s.node ≠ 0 := by rw [← eP]; exact nz (by omega)
  obtain ⟨d1, d2⟩ := dStep_bit z.d nzp
  rw [eQ, d1] at q1
  rw [eQ, d2] at q2
  have hpr : r.part = 3 := by rw [h.part]; exact hp
  have hnr : r.node = z.s.node := h.node (by omega)
  have hlen : z.s.m.dt.length = 64 := k.rok.mok.o3.1
  have eD : dnP 3 r = atN z.s.m.dt z.s.node := dnP_at (show Agree z.s.m.dt (r.q 3) from h.ms.dt) hnr n1 (by rw [hlen]; exact n2)
  have eS : dnS 3 r = { r with q3 := turnN r.q3 z.s.node b, d := dBitS z.d (atN z.s.m.dt z.s.node), node := 2 * z.s.node + b } := by
    unfold dnS
    rw [eD, h.d, ← q1, hnr]; rfl
  have hL : rLrn z.s b = { z.s.m with dt := turnN z.s.m.dt z.s.node b } := by unfold rLrn; rw [hp]; rfl
  have tA := h.ms.dt.turn z.s.node b
  have pS : (2 : Int) ^ szP z.s.part = 64 := by rw [hp]; rfl
  obtain ⟨n, hn1, hn2, ht, hst⟩ := h.t3 hp
  have hB : bitR r = (if (dnF 3 64 r).2 < 0 then (dnF 3 64 r).1 else { (dnF 3 64 r).1 with t := { r.t with d := (dnF 3 64 r).2 }, half := 6, part := 4 }) := by unfold bitR; rw [hpr]; rfl
  have hD : rDone z.s = false := by unfold rDone; rw [hp]; rfl
  have hT : rTokB z.s b = false := by unfold rTokB; rw [hD, Bool.and_false]
  obtain ⟨t1, t2⟩ := lzTake_no (q4.trans hT)
  refine ⟨t1, ?_⟩
  rw [hB]
  unfold dnF
  rw [eS, t2, q3, q2]
  by_cases hlt : 2 * z.s.node + b < 64
  · have hF : rFullB z.s b = false := by unfold rFullB; rw [pS]; exact decide_eq_false (by omega)
    have hS : rStep z.s b = ⟨{ z.s.m with dt := turnN z.s.m.dt z.s.node b }, 3, 2 * z.s.node + b, ⟨n, 0, 0⟩⟩ := by unfold rStep; rw [if_neg (by rw [hF]; decide), hL]; show (⟨_, z.s.part, _, z.s.t⟩ : RdS) = _; rw [hp, hst]
    rw [hS, if_pos hlt, if_pos (show (-1 : Int) < 0 by decide)]
    exact ⟨rfl, ⟨h.ms.p0, h.ms.p1, h.ms.beh, h.ms.bt, h.ms.lt, tA⟩, h.out, h.total, h.st, h.todo, hpr, fun _ => rfl, fun e => absurd (show 3 = 4 from e) (by decide), fun e => absurd (show 3 = 1 ∨ 3 = 2 from e) (by decide), fun _ => ⟨n, hn1, hn2, ht, rfl⟩, fun e => absurd (show 3 = 4 from e) (by decide), fun e => absurd e hl⟩
  · have hF : rFullB z.s b = true := by unfold rFullB; rw [pS]; exact decide_eq_true (by omega)
    have hS : rStep z.s b = ⟨{ z.s.m with dt := turnN z.s.m.dt z.s.node b }, 4, 1, ⟨n, (2 * z.s.node + b - 64) * 64, 0⟩⟩ := by
      unfold rStep; rw [if_pos hF, hL, pS]; unfold rWhole
      rw [if_neg (show ¬ z.s.part = 0 by omega), if_neg (show ¬ z.s.part = 1 by omega), if_neg (show ¬ z.s.part = 2 by omega), if_pos (show z.s.part = 3 from hp)]
      show (⟨_, _, _, { z.s.t with d := _ }⟩ : RdS) = _
      rw [hst]
    rw [hS, if_neg hlt, if_neg (by show ¬ 2 * z.s.node + b - 64 < 0; omega)]
    obtain ⟨u, hu⟩ : ∃ u : Nat, 2 * z.s.node + b - 64 = u := ⟨(2 * z.s.node + b - 64).toNat, by omega⟩
    rw [hu]
    exact ⟨rfl, ⟨h.ms.p0, h.ms.p1, h.ms.beh, h.ms.bt, h.ms.lt, tA⟩, h.out, h.total, h.st, h.todo, rfl, fun e => absurd rfl e, fun _ => rfl, fun e => absurd (show 4 = 1 ∨ 4 = 2 from e) (by decide), fun e => absurd (show 4 = 3 from e) (by decide), fun _ => ⟨6, u, 0, n, by decide, by decide, by omega, by decide, hn1, hn2, rfl, by show (⟨n, (u : Int) * 64, 0⟩ : Tok) = _; congr 1; omega, rfl, by show (⟨r.t.n, (u : Int), r.t.b⟩ : Tok) = _; rw [ht]; show (⟨n, (u : Int), 0⟩ : Tok) = _; congr 1; simp⟩, fun e => absurd e hl⟩
theorem pow_split (i : Nat) (h1 : 1 ≤ i) (h6 : i ≤ 6) : 2 ^ (6 - (i - 1)) = 2 * 2 ^ (6 - i) := by
  rw [show 6 - (i - 1) = (6 - i) + 1 by omega, Nat.pow_succ]; omega
theorem ZRel.bit_4 {z : LzS} {r : RZ} (h : ZRel z r) (k : LzOk z) (pp : PP z.s.m) (hm : dMayB z.d = true) (hl : ¬ 0 < z.left) (hp : z.s.part = 4) :
    ZRel (if lzTakeB z = true then lzTakeS z else { lzTakeS z with st := 4 }) (bitR r) := by
  have nz := rP_nz k.rok pp
  obtain ⟨q1, q2, q3, q4⟩ := rNext_step z.s z.d hm nz
  have hb := rBit_01 z.s z.d
  obtain ⟨b, hbb⟩ : ∃ b, rBit z.s z.d = b := ⟨_, rfl⟩
  rw [hbb] at hb q1 q3 q4
  have eQ : rQ z.s = 0 := if_pos hp
  rw [eQ] at q1 q2
  have q1 : b = dHalfB z.d := q1
  have q2 : rDec z.s z.d = dHalfS z.d := q2
  obtain ⟨i, u, x, n, h1, h6, hu, hx, hn1, hn2, hnode, hst, hhalf, ht⟩ := h.t4 hp
  have hpr : r.part = 4 := by rw [h.part]; exact hp
  have pS : (2 : Int) ^ szP z.s.part = 64 := by rw [hp]; rfl
  have hL : rLrn z.s b = z.s.m := by unfold rLrn; rw [hp]; rfl
  have hB : bitR r = rzH r := by unfold bitR; rw [hpr]; rfl
  have hD : rDone z.s = true := by unfold rDone; rw [hp]; rfl
  have hps := pow_split i h1 h6
  rw [hB]
  unfold rzH
  rw [h.d, ← q1, hhalf, ht]
  obtain ⟨P, hP⟩ : ∃ P, 2 ^ (6 - i) = P := ⟨_, rfl⟩
  rw [hP] at hx hnode hps ht
  by_cases hi : i = 1
  · subst hi
    have hP32 : P = 32 := by rw [← hP]
    subst hP32
    have hF : rFullB z.s b = true := by unfold rFullB; rw [pS, hnode]; exact decide_eq_true (by omega)
    have hT : rTokB z.s b = true := by unfold rTokB; rw [hF, hD]; rfl
    have hS : rStep z.s b = ⟨z.s.m, 0, 1, ⟨n, ((64 * u + 2 * x : Nat) : Int) + b + 1, 0⟩⟩ := by
      unfold rStep; rw [if_pos hF, hL, pS]; unfold rWhole
      rw [if_neg (show ¬ z.s.part = 0 by omega), if_neg (show ¬ z.s.part = 1 by omega), if_neg (show ¬ z.s.part = 2 by omega), if_neg (show ¬ z.s.part = 3 by omega)]
      show (⟨_, _, _, { z.s.t with d := z.s.t.d + _ }⟩ : RdS) = _
      rw [hst, hnode]
      have e : ((64 * u : Nat) : Int) + (2 * ((32 + x : Nat) : Int) + b - 64 + 1) = ((64 * u + 2 * x : Nat) : Int) + b + 1 := by omega
      show (⟨z.s.m, 0, 1, ⟨n, ((64 * u : Nat) : Int) + (2 * ((32 + x : Nat) : Int) + b - 64 + 1), 0⟩⟩ : RdS) = _
      rw [e]
    obtain ⟨t1, t2⟩ := lzTake_yes (q4.trans hT)
    have hn : (rNext z.s z.d).t = ⟨n, ((64 * u + 2 * x : Nat) : Int) + b + 1, 0⟩ := by rw [q3, hS]
    rw [hn] at t1 t2
    have hlong : longT ⟨n, ((64 * u + 2 * x : Nat) : Int) + b + 1, 0⟩ = n := if_neg (show ¬ n = 0 by omega)
    rw [hlong] at t1 t2
    rw [q3, q2, hS] at t2
    have hmay : mayT ⟨n, ((64 * u + 2 * x : Nat) : Int) + b + 1, 0⟩ z.h.length = decide (((64 * u + 2 * x : Nat) : Int) + b + 1 ≤ z.h.length) := by
      unfold mayT
      rw [if_neg (show ¬ n = 0 by omega)]
      rw [decide_eq_true (show (0 : Int) = 0 from rfl), decide_eq_true hn1, decide_eq_true hn2, decide_eq_true (show (1 : Int) ≤ ((64 * u + 2 * x : Nat) : Int) + b + 1 by omega)]
      simp only [Bool.true_and]
      congr 1
      refine propext ⟨fun e => by omega, fun e => by omega⟩
    rw [hmay] at t1
    have hone : ¬ (1 : Int) < ((1 : Nat) : Int) := by decide
    rw [if_neg hone, t2]
    have ed : 2 * ((u * 32 + x : Nat) : Int) + b + 1 = ((64 * u + 2 * x : Nat) : Int) + b + 1 := by omega
    show ZRel _ { r with d := dHalfS z.d, t := ⟨n, 2 * ((u * 32 + x : Nat) : Int) + b + 1, 0⟩, half := (1 : Nat) - 1, part := 0, todo := n, st := if (r.out.length : Int) < 2 * ((u * 32 + x : Nat) : Int) + b + 1 ∨ (r.total : Int) - r.out.length < n then 4 else r.st }
    rw [ed, h.out, h.total, h.st]
    obtain ⟨dd, hdd⟩ : ∃ dd, ((64 * u + 2 * x : Nat) : Int) + b + 1 = dd := ⟨_, rfl⟩
    rw [hdd] at t1 ⊢
    by_cases hc : (z.h.length : Int) < dd ∨ (z.plain : Int) - z.h.length < n
    · have hB2 : lzTakeB z = false := by
        rw [t1]
        rcases hc with hc | hc
        · rw [decide_eq_false (by omega)]; rfl
        · rw [decide_eq_false (show ¬ n ≤ _ by omega), Bool.and_false]
      rw [if_neg (show ¬ lzTakeB z = true by rw [hB2]; decide), if_pos hc]
      exact ⟨rfl, h.ms, rfl, rfl, rfl, rfl, rfl, fun _ => h.node4 hp, fun e => absurd (show 0 = 4 from e) (by decide), fun e => absurd (show 0 = 1 ∨ 0 = 2 from e) (by decide), fun e => absurd (show 0 = 3 from e) (by decide), fun e => absurd (show 0 = 4 from e) (by decide), fun _ => ⟨rfl, rfl⟩⟩
    · have hB2 : lzTakeB z = true := by
        rw [t1, decide_eq_true (by omega), decide_eq_true (show n ≤ _ by omega)]; rfl
      rw [if_pos hB2, if_neg hc]
      exact ⟨rfl, h.ms, rfl, rfl, rfl, rfl, rfl, fun _ => h.node4 hp, fun e => absurd (show 0 = 4 from e) (by decide), fun e => absurd (show 0 = 1 ∨ 0 = 2 from e) (by decide), fun e => absurd (show 0 = 3 from e) (by decide), fun e => absurd (show 0 = 4 from e) (by decide), fun _ => ⟨rfl, rfl⟩⟩
  · have hP16 : P ≤ 16 := by
      have : 2 ^ (6 - i) ≤ 2 ^ 4 := Nat.pow_le_pow_right (by decide) (by omega)
      rw [hP] at this
      exact this
    have hF : rFullB z.s b = false := by unfold rFullB; rw [pS, hnode]; exact decide_eq_false (by omega)
    have hT : rTokB z.s b = false := by unfold rTokB; rw [hF]; rfl
    have hS : rStep z.s b = ⟨z.s.m, 4, 2 * ((P + x : Nat) : Int) + b, ⟨n, ((64 * u : Nat) : Int), 0⟩⟩ := by
      unfold rStep; rw [if_neg (by rw [hF]; decide), hL]
      show (⟨_, z.s.part, _, z.s.t⟩ : RdS) = _
      rw [hp, hst, hnode]
    obtain ⟨t1, t2⟩ := lzTake_no (q4.trans hT)
    rw [if_pos t1, t2, q3, q2, hS, if_pos (by omega)]
    obtain ⟨bn, rfl⟩ : ∃ bn : Nat, b = bn := ⟨b.toNat, by omega⟩
    refine ⟨rfl, h.ms, h.out, h.total, h.st, h.todo, hpr, fun e => absurd rfl e, fun _ => h.node4 hp, fun e => absurd (show 4 = 1 ∨ 4 = 2 from e) (by decide), fun e => absurd (show 4 = 3 from e) (by decide), fun _ => ⟨i - 1, u, 2 * x + bn, n, by omega, by omega, hu, by rw [hps]; omega, hn1, hn2, ?_, rfl, ?_, ?_⟩, fun e => absurd e hl⟩
    · show 2 * ((P + x : Nat) : Int) + bn = _
      rw [hps]; omega
    · show (i : Int) - 1 = ((i - 1 : Nat) : Int); omega
    · show (⟨n, 2 * ((u * 2 ^ (6 - i) + x : Nat) : Int) + bn, 0⟩ : Tok) = _
      rw [hP, hps]
      have e : u * (2 * P) = 2 * (u * P) := by rw [← Nat.mul_assoc, Nat.mul_comm u 2, Nat.mul_assoc]
      have e2 : 2 * ((u * P + x : Nat) : Int) + bn = ((u * (2 * P) + (2 * x + bn) : Nat) : Int) := by rw [e]; omega
      rw [e2]
theorem ZRel.bit {z : LzS} {r : RZ} (h : ZRel z r) (k : LzOk z) (pp : PP z.s.m) (hm : dMayB z.d = true) (hl : ¬ 0 < z.left) (hf : z.h.length ≠ z.plain) :
    ZRel (if lzTakeB z = true then lzTakeS z else { lzTakeS z with st := 4 }) (bitR r) := by
  have hp := k.rok.part
  obtain h0 | h1 | h2 | h3 | h4 : z.s.part = 0 ∨ z.s.part = 1 ∨ z.s.part = 2 ∨ z.s.part = 3 ∨ z.s.part = 4 := by omega
  · obtain ⟨a, b⟩ := h.bit_0 k pp hm hl h0; rw [if_pos a]; exact b
  · obtain ⟨a, b⟩ := h.bit_1 k pp hm hl hf h1; rw [if_pos a]; exact b
  · obtain ⟨a, b⟩ := h.bit_2 k pp hm hl h2; rw [if_pos a]; exact b
  · obtain ⟨a, b⟩ := h.bit_3 k pp hm hl h3; rw [if_pos a]; exact b
  · exact h.bit_4 k pp hm hl h4
end Go.Proofs.Ytnanbnaikmaljaa
