
/- token.Reader: its state in plain words; the walks of tree, size, bit and whole. -/
import Derived.Test.YtnanbnaikmaljaaLzPXTkModel
import Derived.Test.YtnanbnaikmaljaaLzPXDec
namespace Go.Proofs.Ytnanbnaikmaljaa
open Go.RowKit

def Ms.setp (m : Ms) (v : Int) : Ms := if m.beh = 0 then { m with p0 := v } else { m with p1 := v }
structure RdS where
  m : Ms
  part : Nat
  node : Int
  t : Tok
def szP (p : Nat) : Nat := if p = 0 then 1 else if p ≤ 2 then 8 else 6
def trP (s : RdS) : List Int := if s.part = 1 then s.m.bt else if s.part = 2 then s.m.lt else s.m.dt
def rP (s : RdS) : Int := if s.part = 0 then s.m.pr else atN (trP s) s.node
def rBit (s : RdS) (d : DSt) : Int := if s.part = 4 then dHalfB d else dBitB d (rP s)
def rDec (s : RdS) (d : DSt) : DSt := if s.part = 4 then dHalfS d else dBitS d (rP s)
def rLearn (s : RdS) (d : DSt) : Ms :=
  if s.part = 0 then s.m.setp (dBitP d (rP s))
  else if s.part = 1 then { s.m with bt := turnN s.m.bt s.node (dBitB d (rP s)) }
  else if s.part = 2 then { s.m with lt := turnN s.m.lt s.node (dBitB d (rP s)) }
  else if s.part = 3 then { s.m with dt := turnN s.m.dt s.node (dBitB d (rP s)) }
  else s.m
def rWhole (s : RdS) (v : Int) : RdS :=
  if s.part = 0 then { s with m := { s.m with beh := v }, part := if v = 1 then 2 else 1, t := ⟨0, 0, 0⟩ }
  else if s.part = 1 then { s with t := { s.t with b := v }, part := 0 }
  else if s.part = 2 then { s with t := { s.t with n := v + 2 }, part := 3 }
  else if s.part = 3 then { s with t := { s.t with d := v * 64 }, part := 4 }
  else { s with t := { s.t with d := s.t.d + (v + 1) }, part := 0 }
def rDone (s : RdS) : Bool := decide (s.part = 1 ∨ s.part = 4)
def rcells (T : TL) (s : RdS) : List Value := [.int .i64 s.m.p0, .int .i64 s.m.p1, .int .i64 s.m.beh, .pointer (some ⟨T.b1, 0, none⟩), .pointer (some ⟨T.b2, 0, none⟩), .pointer (some ⟨T.b3, 0, none⟩), .int .i64 (s.part : Int), .int .i64 s.node, .int .i64 s.t.n, .int .i64 s.t.d, .int .u8 s.t.b]
structure ROk (s : RdS) : Prop where
  mok : MOk s.m
  part : s.part ≤ 4
  n1 : 1 ≤ s.node
  n2 : s.node < (2 : Int) ^ szP s.part
  d0 : 0 ≤ s.t.d
  d4 : s.part = 4 → s.t.d ≤ 4032
  wf : TokWf s.t
structure RAt (w : World) (db : Nat) (T : TL) (s : RdS) (d : DSt) : Prop where
  st : Blk w T.sb (rcells T s) 92
  tr : Trees w T s.m
  dc : DAt w db 86 d
  dk : DOk d
  ok : ROk s
  ord : T.Ord
  lo : db < T.g1
def RdB (db : Nat) (T : TL) (k : Nat) : Prop := k = db ∨ (T.g1 ≤ k ∧ k ≤ T.sb)
theorem RAt.keeps {w w' : World} {db : Nat} {T : TL} {s : RdS} {d : DSt} {S : Nat → Prop} (h : RAt w db T s d) (hk : Keeps S w w') (hS : ∀ k, RdB db T k → ¬ S k) : RAt w' db T s d := by
  obtain ⟨o1, o2, o3, o4, o5, o6⟩ := h.ord
  exact ⟨hk.blk h.st (hS _ (.inr ⟨by omega, Nat.le_refl _⟩)), h.tr.keeps hk (fun k h1 h2 => hS k (.inr ⟨h1, by omega⟩)) h.ord, h.dc.keeps hk (hS _ (.inl rfl)), h.dk, h.ok, h.ord, h.lo⟩
theorem RAt.later {w w' : World} {db : Nat} {T : TL} {s : RdS} {d : DSt} (h : RAt w db T s d) (hk : Keeps None w w') : RAt w' db T s d := h.keeps hk (fun _ _ h => h)
theorem splB_01 (s : DSt) (b : Int) : splB s b = 0 ∨ splB s b = 1 := by unfold splB; split <;> simp
theorem dBitB_01 (d : DSt) (p : Int) : dBitB d p = 0 ∨ dBitB d p = 1 := by unfold dBitB; split; exact splB_01 _ _; exact .inl rfl
theorem dHalfB_01 (d : DSt) : dHalfB d = 0 ∨ dHalfB d = 1 := by unfold dHalfB; split; exact splB_01 _ _; exact .inl rfl
theorem rBit_01 (s : RdS) (d : DSt) : rBit s d = 0 ∨ rBit s d = 1 := by unfold rBit; split; exact dHalfB_01 _; exact dBitB_01 _ _

set_option maxRecDepth 100000 in
theorem tksize_any (r part : Nat) (w : World) (h : w.cell? ⟨r, 6, none⟩ = some (.int .i64 (part : Int))) (hp : part ≤ 4) :
    Calls Try.prog 62 #[.pointer (some ⟨r, 0, none⟩)] w fun e w' => e = .returned (.int .i64 (szP part)) ∧ w = w' := by
  obtain rfl | rfl | rfl | rfl | rfl : part = 0 ∨ part = 1 ∨ part = 2 ∨ part = 3 ∨ part = 4 := by omega
  · have c6 : w.cell? ⟨r, 6, none⟩ = some (.int .i64 0) := h
    clear h hp
    go_enter Try.func62, Try.ntmps62
    go_wp2
    go_ret
    exact ⟨rfl, rfl⟩
  · have c6 : w.cell? ⟨r, 6, none⟩ = some (.int .i64 1) := h
    clear h hp
    go_enter Try.func62, Try.ntmps62
    go_wp2
    go_ret
    exact ⟨rfl, rfl⟩
  · have c6 : w.cell? ⟨r, 6, none⟩ = some (.int .i64 2) := h
    clear h hp
    go_enter Try.func62, Try.ntmps62
    go_wp2
    go_ret
    exact ⟨rfl, rfl⟩
  · have c6 : w.cell? ⟨r, 6, none⟩ = some (.int .i64 3) := h
    clear h hp
    go_enter Try.func62, Try.ntmps62
    go_wp2
    go_ret
    exact ⟨rfl, rfl⟩
  · have c6 : w.cell? ⟨r, 6, none⟩ = some (.int .i64 4) := h
    clear h hp
    go_enter Try.func62, Try.ntmps62
    go_wp2
    go_ret
    exact ⟨rfl, rfl⟩
def ptP (T : TL) (part : Nat) : Nat := if part = 1 then T.b1 else if part = 2 then T.b2 else T.b3
set_option maxRecDepth 100000 in
theorem tktree_any (r b1 b2 b3 part : Nat) (w : World) (h : w.cell? ⟨r, 6, none⟩ = some (.int .i64 (part : Int))) (hp : part = 1 ∨ part = 2 ∨ part = 3) (h3 : w.cell? ⟨r, 3, none⟩ = some (.pointer (some ⟨b1, 0, none⟩))) (h4 : w.cell? ⟨r, 4, none⟩ = some (.pointer (some ⟨b2, 0, none⟩))) (h5 : w.cell? ⟨r, 5, none⟩ = some (.pointer (some ⟨b3, 0, none⟩))) :
    Calls Try.prog 71 #[.pointer (some ⟨r, 0, none⟩)] w fun e w' => e = .returned (.pointer (some ⟨if part = 1 then b1 else if part = 2 then b2 else b3, 0, none⟩)) ∧ w = w' := by
  rcases hp with hp | hp | hp
  all_goals subst hp
  · have c6 : w.cell? ⟨r, 6, none⟩ = some (.int .i64 1) := h
    clear h
    go_enter Try.func71, Try.ntmps71
    go_wp2
    go_ret
    exact ⟨rfl, rfl⟩
  · have c6 : w.cell? ⟨r, 6, none⟩ = some (.int .i64 2) := h
    clear h
    go_enter Try.func71, Try.ntmps71
    go_wp2
    go_ret
    exact ⟨rfl, rfl⟩
  · have c6 : w.cell? ⟨r, 6, none⟩ = some (.int .i64 3) := h
    clear h
    go_enter Try.func71, Try.ntmps71
    go_wp2
    go_ret
    exact ⟨rfl, rfl⟩

def BitDone (w : World) (db : Nat) (T : TL) (s : RdS) (d : DSt) (e : Ending) (w' : World) : Prop :=
  e = .returned (.int .i64 (rBit s d)) ∧ Blk w' T.sb (rcells T { s with m := rLearn s d }) 92 ∧ Trees w' T (rLearn s d) ∧ DAt w' db 86 (rDec s d) ∧ Keeps (RdB db T) w w'
set_option maxRecDepth 100000 in
set_option maxHeartbeats 1600000 in
theorem tkbit_any (db : Nat) (T : TL) (s : RdS) (d : DSt) (w : World) (h : RAt w db T s d) :
    Calls Try.prog 61 #[.pointer (some ⟨T.sb, 0, none⟩), .pointer (some ⟨db, 0, none⟩)] w (BitDone w db T s d) := by
  have OR := Lib.hid h.ord
  have OK := Lib.hid h.ok
  have S0 := Lib.hid h.st
  have TR := Lib.hid h.tr
  have DC := Lib.hid h.dc
  have DI := Lib.hid h.dk.inv
  have hlo := h.lo
  obtain ⟨o1, o2, o3, o4, o5, o6⟩ := h.ord
  have hp := h.ok.part
  have hbe := h.ok.mok.be
  obtain ⟨sb, b1, g1, b2, g2, b3, g3⟩ := T
  obtain ⟨⟨p0, p1, be, bt, lt, dt⟩, part, node, ⟨tn, td, tb⟩⟩ := s
  simp only [] at o1 o2 o3 o4 o5 o6 hlo hp hbe ⊢
  have NE : Hid (db < g1 ∧ g1 < b1 ∧ b1 < g2 ∧ g2 < b2 ∧ b2 < g3 ∧ g3 < b3 ∧ b3 < sb) := ⟨hlo, o1, o2, o3, o4, o5, o6⟩
  clear h o1 o2 o3 o4 o5 o6 hlo
  obtain rfl | rfl | rfl | rfl | rfl : part = 0 ∨ part = 1 ∨ part = 2 ∨ part = 3 ∨ part = 4 := by omega
  · clear hp
    rcases hbe with rfl | rfl
    · skip
      -- 0 what was ahead, p0 its chance, ⟨dBitP d p0, p1, 0, bt, lt, dt⟩ the Ms learned
      have S : Hid (Blk w sb [.int .i64 p0, .int .i64 p1, .int .i64 0, .pointer (some ⟨b1, 0, none⟩), .pointer (some ⟨b2, 0, none⟩), .pointer (some ⟨b3, 0, none⟩), .int .i64 0, .int .i64 node, .int .i64 tn, .int .i64 td, .int .u8 tb] 92) := S0.out
      have c6 := S.out.cellD 6 _ rfl
      have c7 := S.out.cellD 7 _ rfl
      clear S0
      have E1 : rBit ⟨⟨p0, p1, 0, bt, lt, dt⟩, 0, node, ⟨tn, td, tb⟩⟩ d = dBitB d p0 := rfl
      have E2 : rDec ⟨⟨p0, p1, 0, bt, lt, dt⟩, 0, node, ⟨tn, td, tb⟩⟩ d = dBitS d p0 := rfl
      have E3 : rLearn ⟨⟨p0, p1, 0, bt, lt, dt⟩, 0, node, ⟨tn, td, tb⟩⟩ d = ⟨dBitP d p0, p1, 0, bt, lt, dt⟩ := rfl
      unfold BitDone
      rw [E1, E2, E3]
      clear E1 E2 E3
      have CB := Lib.hid (fun w' (h' : DAt w' db 86 d) => dbit_any db d p0 w' h' DI.out)
      go_enter Try.func61, Try.ntmps61
      go_wp2
      obtain ⟨mS, mh⟩ : ∃ S : World → Prop, ∀ w', S w' ↔ (w'.cell? ⟨sb, 2, none⟩ = some (.int .i64 0) ∧ w'.cell? ⟨sb, 0, none⟩ = some (.int .i64 p0)) := ⟨_, fun _ => Iff.rfl⟩
      have mk0 : ∀ x : Memb mS, x.at_.cell? ⟨sb, 2, none⟩ = some (.int .i64 0) := fun x => ((mh _).1 x.is).1
      have mk1 : ∀ x : Memb mS, x.at_.cell? ⟨sb, 0, none⟩ = some (.int .i64 p0) := fun x => ((mh _).1 x.is).2
      have mn : Nonempty (Memb mS) := ⟨⟨(w).drew, (mh _).2 ⟨S.out.cellD 2 _ rfl, S.out.cellD 0 _ rfl⟩⟩⟩
      have mH := Lib.hid mh
      clear mh
      refine wp_region_mix [12] (InS mS) (by kernel_rfl) (by kernel_rfl) (InS.mk ((mH.out _).2 ⟨S.out.cellD 2 _ rfl, S.out.cellD 0 _ rfl⟩)) ?_
      refine wpMix_seg 12 (by kernel_rfl) (by decide) ?_
      simp only [List.take_succ_cons, List.take_zero, List.drop_succ_cons, List.drop_zero]
      repeat (go_big_quiet_step (fail))
      refine wpQuiet_nil ?_
      refine wpMix_eff (by kernel_rfl) ?_
      go_wp2_with fail
      refine (CB.out _ DC.out.drew).mono ?_
      rintro e w2 ⟨rfl, d2, k2⟩
      have D2 := Lib.hid d2
      have K2 := Lib.hid ((Keeps.refl (fun k => k = db) w).drew.trans k2 (T := fun k => k = db) (fun _ h => h) (fun _ _ h => h))
      have S2 := Lib.hid (K2.out.blk S.out (by show ¬ _ = _; have := NE.out; omega))
      clear d2 k2
      go_wp2
      refine MixK.on (InS.mk ((mH.out _).2 (⟨S2.out.cellD 2 _ rfl, S2.out.cellD 0 _ rfl⟩))) ?_
      refine wpMix_seg 5 (by kernel_rfl) (by decide) ?_
      simp only [List.take_succ_cons, List.take_zero, List.drop_succ_cons, List.drop_zero]
      repeat (go_big_quiet_step (fail))
      refine wpQuiet_nil ?_
      refine wpMix_nil ?_
      clear mk0 mk1 mn mH
      have yb := S2.out.cellD 0 _ rfl
      have ub := S2.out.frozen 0
      go_wp2
      obtain ⟨m2S, m2h⟩ : ∃ S : World → Prop, ∀ w', S w' ↔ (w'.cell? ⟨sb, 2, none⟩ = some (.int .i64 0)) := ⟨_, fun _ => Iff.rfl⟩
      have m2k0 : ∀ x : Memb m2S, x.at_.cell? ⟨sb, 2, none⟩ = some (.int .i64 0) := fun x => ((m2h _).1 x.is)
      have m2n : Nonempty (Memb m2S) := ⟨⟨(w2).drew, (m2h _).2 (S2.out.cellD 2 _ rfl)⟩⟩
      have m2H := Lib.hid m2h
      clear m2h
      refine wp_region_mix [11] (InS m2S) (by kernel_rfl) (by kernel_rfl) (InS.mk ((m2H.out _).2 (S2.out.cellD 2 _ rfl))) ?_
      refine wpMix_seg 11 (by kernel_rfl) (by decide) ?_
      simp only [List.take_succ_cons, List.take_zero, List.drop_succ_cons, List.drop_zero]
      repeat (go_big_quiet_step (fail))
      refine wpQuiet_nil ?_
      refine wpMix_eff (by kernel_rfl) ?_
      go_wp2
      refine MixK.last (by kernel_rfl) ?_
      refine wpMix_nil ?_
      clear m2k0 m2n m2H
      go_wp2
      go_ret
      have ks := ((Keeps.self sb w2).put 0 (.int .i64 (dBitP d p0))).drew
      have K3 := K2.out.trans ks (T := fun k => k = db ∨ k = sb) (fun _ h => .inl h) (fun _ _ h => .inr h)
      have t3 := TR.out.keeps K3 (fun k h1 h2 => by show ¬ (_ ∨ _); have h1 : g1 ≤ k := h1; have h2 : k ≤ b3 := h2; have := NE.out; omega) OR.out
      exact ⟨rfl, (S2.out.set 0 (.int .i64 (dBitP d p0))).drew, ⟨t3.t1, t3.t2, t3.t3⟩, D2.out.keeps ks (by show ¬ _ = _; have := NE.out; omega), K3.mono (fun k _ h => h.elim .inl (fun h => .inr ⟨by have := NE.out; show g1 ≤ k; omega, by show k ≤ sb; omega⟩))⟩
    · skip
      -- 1 what was ahead, p1 its chance, ⟨p0, dBitP d p1, 1, bt, lt, dt⟩ the Ms learned
      have S : Hid (Blk w sb [.int .i64 p0, .int .i64 p1, .int .i64 1, .pointer (some ⟨b1, 0, none⟩), .pointer (some ⟨b2, 0, none⟩), .pointer (some ⟨b3, 0, none⟩), .int .i64 0, .int .i64 node, .int .i64 tn, .int .i64 td, .int .u8 tb] 92) := S0.out
      have c6 := S.out.cellD 6 _ rfl
      have c7 := S.out.cellD 7 _ rfl
      clear S0
      have E1 : rBit ⟨⟨p0, p1, 1, bt, lt, dt⟩, 0, node, ⟨tn, td, tb⟩⟩ d = dBitB d p1 := rfl
      have E2 : rDec ⟨⟨p0, p1, 1, bt, lt, dt⟩, 0, node, ⟨tn, td, tb⟩⟩ d = dBitS d p1 := rfl
      have E3 : rLearn ⟨⟨p0, p1, 1, bt, lt, dt⟩, 0, node, ⟨tn, td, tb⟩⟩ d = ⟨p0, dBitP d p1, 1, bt, lt, dt⟩ := rfl
      unfold BitDone
      rw [E1, E2, E3]
      clear E1 E2 E3
      have CB := Lib.hid (fun w' (h' : DAt w' db 86 d) => dbit_any db d p1 w' h' DI.out)
      go_enter Try.func61, Try.ntmps61
      go_wp2
      obtain ⟨mS, mh⟩ : ∃ S : World → Prop, ∀ w', S w' ↔ (w'.cell? ⟨sb, 2, none⟩ = some (.int .i64 1) ∧ w'.cell? ⟨sb, 1, none⟩ = some (.int .i64 p1)) := ⟨_, fun _ => Iff.rfl⟩
      have mk0 : ∀ x : Memb mS, x.at_.cell? ⟨sb, 2, none⟩ = some (.int .i64 1) := fun x => ((mh _).1 x.is).1
      have mk1 : ∀ x : Memb mS, x.at_.cell? ⟨sb, 1, none⟩ = some (.int .i64 p1) := fun x => ((mh _).1 x.is).2
      have mn : Nonempty (Memb mS) := ⟨⟨(w).drew, (mh _).2 ⟨S.out.cellD 2 _ rfl, S.out.cellD 1 _ rfl⟩⟩⟩
      have mH := Lib.hid mh
      clear mh
      refine wp_region_mix [12] (InS mS) (by kernel_rfl) (by kernel_rfl) (InS.mk ((mH.out _).2 ⟨S.out.cellD 2 _ rfl, S.out.cellD 1 _ rfl⟩)) ?_
      refine wpMix_seg 12 (by kernel_rfl) (by decide) ?_
      simp only [List.take_succ_cons, List.take_zero, List.drop_succ_cons, List.drop_zero]
      repeat (go_big_quiet_step (fail))
      refine wpQuiet_nil ?_
      refine wpMix_eff (by kernel_rfl) ?_
      go_wp2_with fail
      refine (CB.out _ DC.out.drew).mono ?_
      rintro e w2 ⟨rfl, d2, k2⟩
      have D2 := Lib.hid d2
      have K2 := Lib.hid ((Keeps.refl (fun k => k = db) w).drew.trans k2 (T := fun k => k = db) (fun _ h => h) (fun _ _ h => h))
      have S2 := Lib.hid (K2.out.blk S.out (by show ¬ _ = _; have := NE.out; omega))
      clear d2 k2
      go_wp2
      refine MixK.on (InS.mk ((mH.out _).2 (⟨S2.out.cellD 2 _ rfl, S2.out.cellD 1 _ rfl⟩))) ?_
      refine wpMix_seg 5 (by kernel_rfl) (by decide) ?_
      simp only [List.take_succ_cons, List.take_zero, List.drop_succ_cons, List.drop_zero]
      repeat (go_big_quiet_step (fail))
      refine wpQuiet_nil ?_
      refine wpMix_nil ?_
      clear mk0 mk1 mn mH
      have yb := S2.out.cellD 1 _ rfl
      have ub := S2.out.frozen 1
      go_wp2
      obtain ⟨m2S, m2h⟩ : ∃ S : World → Prop, ∀ w', S w' ↔ (w'.cell? ⟨sb, 2, none⟩ = some (.int .i64 1)) := ⟨_, fun _ => Iff.rfl⟩
      have m2k0 : ∀ x : Memb m2S, x.at_.cell? ⟨sb, 2, none⟩ = some (.int .i64 1) := fun x => ((m2h _).1 x.is)
      have m2n : Nonempty (Memb m2S) := ⟨⟨(w2).drew, (m2h _).2 (S2.out.cellD 2 _ rfl)⟩⟩
      have m2H := Lib.hid m2h
      clear m2h
      refine wp_region_mix [11] (InS m2S) (by kernel_rfl) (by kernel_rfl) (InS.mk ((m2H.out _).2 (S2.out.cellD 2 _ rfl))) ?_
      refine wpMix_seg 11 (by kernel_rfl) (by decide) ?_
      simp only [List.take_succ_cons, List.take_zero, List.drop_succ_cons, List.drop_zero]
      repeat (go_big_quiet_step (fail))
      refine wpQuiet_nil ?_
      refine wpMix_eff (by kernel_rfl) ?_
      go_wp2
      refine MixK.last (by kernel_rfl) ?_
      refine wpMix_nil ?_
      clear m2k0 m2n m2H
      go_wp2
      go_ret
      have ks := ((Keeps.self sb w2).put 1 (.int .i64 (dBitP d p1))).drew
      have K3 := K2.out.trans ks (T := fun k => k = db ∨ k = sb) (fun _ h => .inl h) (fun _ _ h => .inr h)
      have t3 := TR.out.keeps K3 (fun k h1 h2 => by show ¬ (_ ∨ _); have h1 : g1 ≤ k := h1; have h2 : k ≤ b3 := h2; have := NE.out; omega) OR.out
      exact ⟨rfl, (S2.out.set 1 (.int .i64 (dBitP d p1))).drew, ⟨t3.t1, t3.t2, t3.t3⟩, D2.out.keeps ks (by show ¬ _ = _; have := NE.out; omega), K3.mono (fun k _ h => h.elim .inl (fun h => .inr ⟨by have := NE.out; show g1 ≤ k; omega, by show k ≤ sb; omega⟩))⟩
  · clear hp hbe
    -- 1 the part, bt the tree's chances, b1 its struct, g1 its row, o1 the field of MOk, t1 the field of Trees, ⟨p0, p1, be, turnN bt node (dBitB d (atN bt node)), lt, dt⟩ the Ms learned, ⟨M3.out, T2.out.t2.keeps K3.out (by show ¬ _ = _; have := NE.out; dsimp only; omega) (by show ¬ _ = _; have := NE.out; dsimp only; omega), T2.out.t3.keeps K3.out (by show ¬ _ = _; have := NE.out; dsimp only; omega) (by show ¬ _ = _; have := NE.out; dsimp only; omega)⟩ the trees behind
    have S : Hid (Blk w sb [.int .i64 p0, .int .i64 p1, .int .i64 be, .pointer (some ⟨b1, 0, none⟩), .pointer (some ⟨b2, 0, none⟩), .pointer (some ⟨b3, 0, none⟩), .int .i64 1, .int .i64 node, .int .i64 tn, .int .i64 td, .int .u8 tb] 92) := S0.out
    have c6 := S.out.cellD 6 _ rfl
    have c7 := S.out.cellD 7 _ rfl
    clear S0
    have E1 : rBit ⟨⟨p0, p1, be, bt, lt, dt⟩, 1, node, ⟨tn, td, tb⟩⟩ d = dBitB d (atN bt node) := rfl
    have E2 : rDec ⟨⟨p0, p1, be, bt, lt, dt⟩, 1, node, ⟨tn, td, tb⟩⟩ d = dBitS d (atN bt node) := rfl
    have E3 : rLearn ⟨⟨p0, p1, be, bt, lt, dt⟩, 1, node, ⟨tn, td, tb⟩⟩ d = ⟨p0, p1, be, turnN bt node (dBitB d (atN bt node)), lt, dt⟩ := rfl
    unfold BitDone
    rw [E1, E2, E3]
    clear E1 E2 E3
    have TT := Lib.hid (tktree_any sb b1 b2 b3 1 w c6 (by decide) (S.out.cellD 3 _ rfl) (S.out.cellD 4 _ rfl) (S.out.cellD 5 _ rfl))
    have CA := Lib.hid (fun w' (h' : MTree w' b1 g1 bt) => at_any b1 g1 bt node w' h' OK.out.mok.o1.le OK.out.mok.o1.2.2.2.2)
    have CU := Lib.hid (fun w' bit (h' : MTree w' b1 g1 bt) => turn_any b1 g1 bt node bit w' h' OK.out.mok.o1.le OK.out.mok.o1.2.2.2.2)
    have CB := Lib.hid (fun w' (h' : DAt w' db 86 d) => dbit_any db d (atN bt node) w' h' DI.out)
    go_enter Try.func61, Try.ntmps61
    go_wp2_with fail
    refine TT.out.mono ?_
    rintro e w' ⟨rfl, rfl⟩
    go_wp2_with fail
    refine (CA.out _ TR.out.t1).mono ?_
    rintro e w' ⟨rfl, rfl⟩
    go_wp2_with fail
    refine (CB.out _ DC.out).mono ?_
    rintro e w2 ⟨rfl, d2, k2⟩
    have D2 := Lib.hid d2
    have K2 := Lib.hid k2
    have S2 := Lib.hid (k2.blk S.out (by show ¬ _ = _; have := NE.out; omega))
    have T2 := Lib.hid (TR.out.keeps k2 (fun k h1 h2 => by show ¬ _ = _; have h1 : g1 ≤ k := h1; have := NE.out; omega) OR.out)
    have y7 := S2.out.cellD 7 _ rfl
    clear d2 k2
    go_wp2_with fail
    refine (CU.out _ _ T2.out.t1).mono ?_
    rintro e w3 ⟨rfl, m3, k3⟩
    have M3 := Lib.hid m3
    have K3 := Lib.hid k3
    clear m3 k3 y7
    go_wp2
    go_ret
    exact ⟨rfl, K3.out.blk S2.out (by show ¬ _ = _; have := NE.out; omega), ⟨M3.out, T2.out.t2.keeps K3.out (by show ¬ _ = _; have := NE.out; dsimp only; omega) (by show ¬ _ = _; have := NE.out; dsimp only; omega), T2.out.t3.keeps K3.out (by show ¬ _ = _; have := NE.out; dsimp only; omega) (by show ¬ _ = _; have := NE.out; dsimp only; omega)⟩, D2.out.keeps K3.out (by show ¬ _ = _; have := NE.out; omega), K2.out.trans K3.out (fun _ h => .inl h) (fun k _ h => .inr ⟨by have := NE.out; have h : k = g1 := h; show g1 ≤ k; omega, by have := NE.out; have h : k = g1 := h; show k ≤ sb; omega⟩)⟩
  · clear hp hbe
    -- 2 the part, lt the tree's chances, b2 its struct, g2 its row, o2 the field of MOk, t2 the field of Trees, ⟨p0, p1, be, bt, turnN lt node (dBitB d (atN lt node)), dt⟩ the Ms learned, ⟨T2.out.t1.keeps K3.out (by show ¬ _ = _; have := NE.out; dsimp only; omega) (by show ¬ _ = _; have := NE.out; dsimp only; omega), M3.out, T2.out.t3.keeps K3.out (by show ¬ _ = _; have := NE.out; dsimp only; omega) (by show ¬ _ = _; have := NE.out; dsimp only; omega)⟩ the trees behind
    have S : Hid (Blk w sb [.int .i64 p0, .int .i64 p1, .int .i64 be, .pointer (some ⟨b1, 0, none⟩), .pointer (some ⟨b2, 0, none⟩), .pointer (some ⟨b3, 0, none⟩), .int .i64 2, .int .i64 node, .int .i64 tn, .int .i64 td, .int .u8 tb] 92) := S0.out
    have c6 := S.out.cellD 6 _ rfl
    have c7 := S.out.cellD 7 _ rfl
    clear S0
    have E1 : rBit ⟨⟨p0, p1, be, bt, lt, dt⟩, 2, node, ⟨tn, td, tb⟩⟩ d = dBitB d (atN lt node) := rfl
    have E2 : rDec ⟨⟨p0, p1, be, bt, lt, dt⟩, 2, node, ⟨tn, td, tb⟩⟩ d = dBitS d (atN lt node) := rfl
    have E3 : rLearn ⟨⟨p0, p1, be, bt, lt, dt⟩, 2, node, ⟨tn, td, tb⟩⟩ d = ⟨p0, p1, be, bt, turnN lt node (dBitB d (atN lt node)), dt⟩ := rfl
    unfold BitDone
    rw [E1, E2, E3]
    clear E1 E2 E3
    have TT := Lib.hid (tktree_any sb b1 b2 b3 2 w c6 (by decide) (S.out.cellD 3 _ rfl) (S.out.cellD 4 _ rfl) (S.out.cellD 5 _ rfl))
    have CA := Lib.hid (fun w' (h' : MTree w' b2 g2 lt) => at_any b2 g2 lt node w' h' OK.out.mok.o2.le OK.out.mok.o2.2.2.2.2)
    have CU := Lib.hid (fun w' bit (h' : MTree w' b2 g2 lt) => turn_any b2 g2 lt node bit w' h' OK.out.mok.o2.le OK.out.mok.o2.2.2.2.2)
    have CB := Lib.hid (fun w' (h' : DAt w' db 86 d) => dbit_any db d (atN lt node) w' h' DI.out)
    go_enter Try.func61, Try.ntmps61
    go_wp2_with fail
    refine TT.out.mono ?_
    rintro e w' ⟨rfl, rfl⟩
    go_wp2_with fail
    refine (CA.out _ TR.out.t2).mono ?_
    rintro e w' ⟨rfl, rfl⟩
    go_wp2_with fail
    refine (CB.out _ DC.out).mono ?_
    rintro e w2 ⟨rfl, d2, k2⟩
    have D2 := Lib.hid d2
    have K2 := Lib.hid k2
    have S2 := Lib.hid (k2.blk S.out (by show ¬ _ = _; have := NE.out; omega))
    have T2 := Lib.hid (TR.out.keeps k2 (fun k h1 h2 => by show ¬ _ = _; have h1 : g1 ≤ k := h1; have := NE.out; omega) OR.out)
    have y7 := S2.out.cellD 7 _ rfl
    clear d2 k2
    go_wp2_with fail
    refine (CU.out _ _ T2.out.t2).mono ?_
    rintro e w3 ⟨rfl, m3, k3⟩
    have M3 := Lib.hid m3
    have K3 := Lib.hid k3
    clear m3 k3 y7
    go_wp2
    go_ret
    exact ⟨rfl, K3.out.blk S2.out (by show ¬ _ = _; have := NE.out; omega), ⟨T2.out.t1.keeps K3.out (by show ¬ _ = _; have := NE.out; dsimp only; omega) (by show ¬ _ = _; have := NE.out; dsimp only; omega), M3.out, T2.out.t3.keeps K3.out (by show ¬ _ = _; have := NE.out; dsimp only; omega) (by show ¬ _ = _; have := NE.out; dsimp only; omega)⟩, D2.out.keeps K3.out (by show ¬ _ = _; have := NE.out; omega), K2.out.trans K3.out (fun _ h => .inl h) (fun k _ h => .inr ⟨by have := NE.out; have h : k = g2 := h; show g1 ≤ k; omega, by have := NE.out; have h : k = g2 := h; show k ≤ sb; omega⟩)⟩
  · clear hp hbe
    -- 3 the part, dt the tree's chances, b3 its struct, g3 its row, o3 the field of MOk, t3 the field of Trees, ⟨p0, p1, be, bt, lt, turnN dt node (dBitB d (atN dt node))⟩ the Ms learned, ⟨T2.out.t1.keeps K3.out (by show ¬ _ = _; have := NE.out; dsimp only; omega) (by show ¬ _ = _; have := NE.out; dsimp only; omega), T2.out.t2.keeps K3.out (by show ¬ _ = _; have := NE.out; dsimp only; omega) (by show ¬ _ = _; have := NE.out; dsimp only; omega), M3.out⟩ the trees behind
    have S : Hid (Blk w sb [.int .i64 p0, .int .i64 p1, .int .i64 be, .pointer (some ⟨b1, 0, none⟩), .pointer (some ⟨b2, 0, none⟩), .pointer (some ⟨b3, 0, none⟩), .int .i64 3, .int .i64 node, .int .i64 tn, .int .i64 td, .int .u8 tb] 92) := S0.out
    have c6 := S.out.cellD 6 _ rfl
    have c7 := S.out.cellD 7 _ rfl
    clear S0
    have E1 : rBit ⟨⟨p0, p1, be, bt, lt, dt⟩, 3, node, ⟨tn, td, tb⟩⟩ d = dBitB d (atN dt node) := rfl
    have E2 : rDec ⟨⟨p0, p1, be, bt, lt, dt⟩, 3, node, ⟨tn, td, tb⟩⟩ d = dBitS d (atN dt node) := rfl
    have E3 : rLearn ⟨⟨p0, p1, be, bt, lt, dt⟩, 3, node, ⟨tn, td, tb⟩⟩ d = ⟨p0, p1, be, bt, lt, turnN dt node (dBitB d (atN dt node))⟩ := rfl
    unfold BitDone
    rw [E1, E2, E3]
    clear E1 E2 E3
    have TT := Lib.hid (tktree_any sb b1 b2 b3 3 w c6 (by decide) (S.out.cellD 3 _ rfl) (S.out.cellD 4 _ rfl) (S.out.cellD 5 _ rfl))
    have CA := Lib.hid (fun w' (h' : MTree w' b3 g3 dt) => at_any b3 g3 dt node w' h' OK.out.mok.o3.le OK.out.mok.o3.2.2.2.2)
    have CU := Lib.hid (fun w' bit (h' : MTree w' b3 g3 dt) => turn_any b3 g3 dt node bit w' h' OK.out.mok.o3.le OK.out.mok.o3.2.2.2.2)
    have CB := Lib.hid (fun w' (h' : DAt w' db 86 d) => dbit_any db d (atN dt node) w' h' DI.out)
    go_enter Try.func61, Try.ntmps61
    go_wp2_with fail
    refine TT.out.mono ?_
    rintro e w' ⟨rfl, rfl⟩
    go_wp2_with fail
    refine (CA.out _ TR.out.t3).mono ?_
    rintro e w' ⟨rfl, rfl⟩
    go_wp2_with fail
    refine (CB.out _ DC.out).mono ?_
    rintro e w2 ⟨rfl, d2, k2⟩
    have D2 := Lib.hid d2
    have K2 := Lib.hid k2
    have S2 := Lib.hid (k2.blk S.out (by show ¬ _ = _; have := NE.out; omega))
    have T2 := Lib.hid (TR.out.keeps k2 (fun k h1 h2 => by show ¬ _ = _; have h1 : g1 ≤ k := h1; have := NE.out; omega) OR.out)
    have y7 := S2.out.cellD 7 _ rfl
    clear d2 k2
    go_wp2_with fail
    refine (CU.out _ _ T2.out.t3).mono ?_
    rintro e w3 ⟨rfl, m3, k3⟩
    have M3 := Lib.hid m3
    have K3 := Lib.hid k3
    clear m3 k3 y7
    go_wp2
    go_ret
    exact ⟨rfl, K3.out.blk S2.out (by show ¬ _ = _; have := NE.out; omega), ⟨T2.out.t1.keeps K3.out (by show ¬ _ = _; have := NE.out; dsimp only; omega) (by show ¬ _ = _; have := NE.out; dsimp only; omega), T2.out.t2.keeps K3.out (by show ¬ _ = _; have := NE.out; dsimp only; omega) (by show ¬ _ = _; have := NE.out; dsimp only; omega), M3.out⟩, D2.out.keeps K3.out (by show ¬ _ = _; have := NE.out; omega), K2.out.trans K3.out (fun _ h => .inl h) (fun k _ h => .inr ⟨by have := NE.out; have h : k = g3 := h; show g1 ≤ k; omega, by have := NE.out; have h : k = g3 := h; show k ≤ sb; omega⟩)⟩
  · clear hp hbe
    have S : Hid (Blk w sb [.int .i64 p0, .int .i64 p1, .int .i64 be, .pointer (some ⟨b1, 0, none⟩), .pointer (some ⟨b2, 0, none⟩), .pointer (some ⟨b3, 0, none⟩), .int .i64 4, .int .i64 node, .int .i64 tn, .int .i64 td, .int .u8 tb] 92) := S0.out
    have c6 := S.out.cellD 6 _ rfl
    have c7 := S.out.cellD 7 _ rfl
    clear S0
    have E1 : rBit ⟨⟨p0, p1, be, bt, lt, dt⟩, 4, node, ⟨tn, td, tb⟩⟩ d = dHalfB d := rfl
    have E2 : rDec ⟨⟨p0, p1, be, bt, lt, dt⟩, 4, node, ⟨tn, td, tb⟩⟩ d = dHalfS d := rfl
    have E3 : rLearn ⟨⟨p0, p1, be, bt, lt, dt⟩, 4, node, ⟨tn, td, tb⟩⟩ d = ⟨p0, p1, be, bt, lt, dt⟩ := rfl
    unfold BitDone
    rw [E1, E2, E3]
    clear E1 E2 E3
    have CB := Lib.hid (dhalf_any db d w DC.out DI.out)
    go_enter Try.func61, Try.ntmps61
    go_wp2_with fail
    refine CB.out.mono ?_
    rintro e w2 ⟨rfl, d2, k2⟩
    have D2 := Lib.hid d2
    have K2 := Lib.hid k2
    clear d2 k2
    go_wp2
    go_ret
    exact ⟨rfl, K2.out.blk S.out (by show ¬ _ = _; have := NE.out; omega), TR.out.keeps K2.out (fun k h1 h2 => by show ¬ _ = _; have h1 : g1 ≤ k := h1; have := NE.out; omega) OR.out, D2.out, K2.out.mono (fun _ _ h => .inl h)⟩
end Go.Proofs.Ytnanbnaikmaljaa
